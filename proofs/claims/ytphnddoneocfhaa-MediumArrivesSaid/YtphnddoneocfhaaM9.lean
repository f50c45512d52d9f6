/- Things of one's own. -/
import Derived.Test.YtphnddoneocfhaaM8
namespace Go.Det.M11
open Go Go.Det Go.Proofs
set_option maxRecDepth 4000
set_option maxHeartbeats 4000000
set_option linter.unusedVariables false
set_option linter.unusedSimpArgs false

def airZero : List DV := [.int .u64 0, .int .i64 0, .int .i64 0, .int .i64 0, .int .i64 0, .sl none 0 0 true, .bool false, .int .i64 0]

theorem opD_make {H : DH} {cf : CallF} {o : Oper} {x y : Operand} (hop : o.op = .makeSlice 22 x y) {env : List DV} {n : Nat} (hx : evalO env x = some (.int .i64 0)) (hy : evalO env y = some (.int .i64 n)) (hn : n ≤ 300) :
    opD Try.prog cf o env H = some (.sl (some (H.next, 0, 8)) 0 n true, H.new (.rows false 8 (zerosD airZero n))) := by
  have hs : sizeT Try.prog 28 = some 8 := by kernel_rfl
  have hb : bytesT Try.prog 28 = some 80 := by kernel_rfl
  have hz : zeroT Try.prog 28 = some (.agg airZero) := by kernel_rfl
  simp only [opD, hop, mover, moveD, hx, hy, if_true]
  unfold makeSliceD
  rw [Try.underlying22]
  simp only [hs, hb, hz]
  rw [if_pos ⟨by omega, by omega, by unfold mostD; omega, by omega, rfl, rfl⟩, Int.toNat_natCast]
  rfl

/-- One thing more, into room that there is. -/
theorem opD_push {H : DH} {cf : CallF} {o : Oper} {x y : Operand} (hop : o.op = .call ⟨.builtin .append, #[x, y], #[22, 22]⟩) {env : List DV} {l0 l k cap c : Nat} {ex ex' ro : Bool} {rs : List (List DV)} {a : AirV} (hx : evalO env x = some (.sl (some (l0, 0, 8)) k cap ex)) (hy : evalO env y = some (.sl (some (l, 0, 8)) 1 c ex'))
    (h0 : H.obj l0 = some (.rows false 8 rs)) (ho : H.obj l = some (.rows ro 8 [a.cells])) (hcap : k + 1 ≤ cap) (hlen : k + 1 ≤ rs.length) (hk : k ≤ 300) :
    opD Try.prog cf o env H = some (.sl (some (l0, 0, 8)) (k + 1) cap ex, H.set l0 (some (.rows false 8 (setRows rs k [a.cells])))) := by
  have hs : sizeT Try.prog 28 = some 8 := by kernel_rfl
  have hb : bytesT Try.prog 28 = some 80 := by kernel_rfl
  have hz : zeroT Try.prog 28 = some (.agg airZero) := by kernel_rfl
  have hap : appendedD Try.prog 28 H (some (.slice 28)) (.sl (some (l, 0, 8)) 1 c ex') = some [a.cells] := by
    simp only [appendedD, rowsOf, ho]
    rfl
  simp only [opD, hop, mover, moveD, hx, hy, if_true]
  show appendD Try.prog 22 (Try.prog.underlying 22) H (.sl (some (l0, 0, 8)) k cap ex) (.sl (some (l, 0, 8)) 1 c ex') = _
  rw [Try.underlying22]
  unfold appendD
  rw [Try.underlying22]
  simp only [hs, hb, hz, hap]
  rw [if_pos ⟨by omega, rfl, rfl⟩]
  simp only [h0]
  rw [if_neg (by simp), if_neg (by simp), if_neg (by simp only [List.length_cons, List.length_nil]; unfold mostD; omega), if_pos (by simp only [List.length_cons, List.length_nil]; omega), if_pos ⟨trivial, by simp only [List.length_cons, List.length_nil]; omega⟩]
  simp only [List.length_cons, List.length_nil, Nat.zero_add]

end Go.Det.M11
