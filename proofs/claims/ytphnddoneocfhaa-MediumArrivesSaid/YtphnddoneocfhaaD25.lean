/- Loads and stores where the heap is told as what was made behind a heap of whatever kind. -/
import Derived.Test.YtphnddoneocfhaaD24
namespace Go.Det
set_option linter.unusedVariables false
set_option linter.unusedSimpArgs false

section
variable {P : Program} {H : DH}

theorem obj_here {l : Nat} {o : DObj} (h : l = H.next) : (H.new o).obj l = some o := by subst h; simp [DH.new]
theorem obj_skip {l : Nat} {o : DObj} {x : Option DObj} (h : l ≠ H.next) (k : H.obj l = x) : (H.new o).obj l = x := by simp [DH.new, h, k]
theorem obj_set {l : Nat} {o : Option DObj} : (H.set l o).obj l = o := by simp [DH.set]
theorem obj_past {l m : Nat} {o x : Option DObj} (h : l ≠ m) (k : H.obj l = x) : (H.set m o).obj l = x := by simp [DH.set, h, k]

theorem opD_load {cf : CallF} {o : Oper} {t : TypeId} {a : Operand} (ho : o.op = .load t a) {env : List DV} {l i q : Nat} (hp : evalO env a = some (.ptr (some (l, i, q)))) {ro : Bool} {sz : Nat} {rs : List (List DV)} (hobj : H.obj l = some (.rows ro sz rs))
    {r : List DV} (hr : rs[i]? = some r) {v : DV} (hv : partD P t r q = some v) : opD P cf o env H = some (v, H) := by
  simp only [opD, ho, mover, reader, readD, hp, loadD, hobj, hr, hv]
  rfl

theorem opD_store {cf : CallF} {o : Oper} {t : TypeId} {a x : Operand} (ho : o.op = .store t a x) {env : List DV} {l i q : Nat} (hp : evalO env a = some (.ptr (some (l, i, q)))) {v : DV} (hx : evalO env x = some v) {n : Nat} (hn : sizeT P t = some n) (hc : v.cells.length = n)
    {sz : Nat} {rs rs' : List (List DV)} (hobj : H.obj l = some (.rows false sz rs)) (hs : setRow rs i q v.cells = some rs') : opD P cf o env H = some (undefD, H.set l (some (.rows false sz rs'))) := by
  simp only [opD, ho, mover, moveD, hp, hx, storeD, hn, hobj, hc, hs, if_true]
  rfl

theorem opD_eql {cf : CallF} {o : Oper} {t u : TypeId} {x y : Operand} (ho : o.op = .binOp .eql t x y u) {env : List DV} {a b : List DV} (hx : evalO env x = some (.agg a)) (hy : evalO env y = some (.agg b)) {c : Bool} (hc : eqD P t (.agg a) (.agg b) = some c) : opD P cf o env H = some (.bool c, H) := by
  simp only [opD, ho, mover, reader, pureD, hx, hy, binD, hc]
  rfl

theorem opD_neql {cf : CallF} {o : Oper} {t u : TypeId} {x y : Operand} (ho : o.op = .binOp .neq t x y u) {env : List DV} {a b : List DV} (hx : evalO env x = some (.agg a)) (hy : evalO env y = some (.agg b)) {c : Bool} (hc : eqD P t (.agg a) (.agg b) = some c) : opD P cf o env H = some (.bool (!c), H) := by
  simp only [opD, ho, mover, reader, pureD, hx, hy, binD, hc]
  rfl

/-- Bools' equality. -/
theorem opD_eqb {cf : CallF} {o : Oper} {t u : TypeId} {x y : Operand} (ho : o.op = .binOp .eql t x y u) {env : List DV} {a b : Bool} (hx : evalO env x = some (.bool a)) (hy : evalO env y = some (.bool b)) (ht : P.underlying t = some .bool) : opD P cf o env H = some (.bool (a == b), H) := by
  simp only [opD, ho, mover, reader, pureD, hx, hy, binD, eqD, eqT, ht]
  rfl

theorem opD_neqb {cf : CallF} {o : Oper} {t u : TypeId} {x y : Operand} (ho : o.op = .binOp .neq t x y u) {env : List DV} {a b : Bool} (hx : evalO env x = some (.bool a)) (hy : evalO env y = some (.bool b)) (ht : P.underlying t = some .bool) : opD P cf o env H = some (.bool (!(a == b)), H) := by
  simp only [opD, ho, mover, reader, pureD, hx, hy, binD, eqD, eqT, ht]
  rfl

/-- One equality, then others. -/
def andO (c : Bool) (r : Option Bool) : Option Bool :=
  match c with
  | true => r
  | false => some false

theorem andO_some (c d : Bool) : andO c (some d) = some (c && d) := by cases c <;> rfl
end
end Go.Det
