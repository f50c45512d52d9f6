/- The cutter: tables; the chapter's examples. -/
import Derived.Test.YtlmjhpnmfmnmgaaDoorRows
import Derived.Test.YtlmjhpnmfmnmgaaDoorCovT7
namespace Go.Det.C
open Go Go.Det Go.Proofs
set_option maxRecDepth 4000
set_option maxHeartbeats 4000000
set_option linter.unusedVariables false
set_option linter.unusedSimpArgs false
abbrev G := List DV → DH → Option (DV × DH)
abbrev H0 : DH := ⟨0, fun _ => none⟩
def L : List FuncId := [3, 4, 5, 6, 7, 8, 9, 10, 12, 13, 14, 15, 16, 17, 19, 20, 21, 23, 24, 25, 26, 27, 28, 29, 30, 31, 32, 33, 34, 35, 36, 37, 39, 40, 43, 44, 45, 47, 48, 49, 50, 51, 52, 53, 54, 55, 56, 57, 58, 59, 61, 62, 63, 64, 65, 66, 67, 68, 69, 70, 72, 74, 76, 77, 78, 79, 80, 81, 82, 84, 85, 87, 88, 89, 90, 91, 92, 93, 94, 95, 97, 98, 99, 100, 101, 102, 103, 104, 105, 107, 108, 109, 110, 111, 112, 113, 114, 115, 116, 117, 118, 119, 120, 121, 122, 123, 124, 125, 126, 127, 128, 129, 131, 132, 133, 134, 135, 136, 137, 138, 139, 140, 141, 142, 143, 144, 145, 146, 147, 148, 149, 150, 151, 152, 153, 154, 155, 156, 157]
theorem mixed : Tryd.prog.follows .mixedOrders = true := by kernel_rfl
def LF : List FuncId := [22, 83, 106, 71, 96, 60, 38, 42, 41, 73, 86, 18, 11] ++ L
theorem okLF : LF.all (fun f => okB Tryd.prog f || [84].contains f) = true := by kernel_rfl
set_option maxHeartbeats 400000 in
theorem add_code : ∀ f ∈ [84], ∀ fn c, Tryd.prog.funcs[f]? = some fn → fn.body = some c → (fn.name == "runtime.NumGoroutine") = false ∧ CodeOk Tryd.prog c := by
  intro f hf fn c h hb
  simp only [List.mem_singleton] at hf
  subst hf
  have hfn := Tryd.func84
  rw [h] at hfn
  cases hfn
  have hb' : Tryd.f84.body = some c := hb
  cases hb'
  refine ⟨by kernel_rfl, ?_⟩
  simp only [CodeOk, true_and, and_true]
  exact reg_float (j0 := 14) mixed (by kernel_rfl) rfl rfl rfl
def XF : Ext := Xof LF []
theorem okXF : ProgOk Tryd.prog XF := progOk_of2 mixed okLF add_code (by simp)
/-- The chapter's examples. -/
def gLive : G := fun args H => match args with
  | [] => some (.bool true, H)
  | _ => none
theorem live_run22 : (match callD Tryd.prog XF 1000 22 [] H0 with | some (.bool true, _) => true | _ => false) = true := by kernel_rfl
theorem live22_ok : ExtSound Tryd.prog gLive 22 := ext_closed okXF Tryd.func22 rfl rfl (by
  intro args H r H' h
  unfold gLive at h
  split at h <;> cases h
  refine ⟨rfl, rfl, rfl, 1000, ?_⟩
  have := live_run22
  split at this
  · rename_i H1 e
    exact ⟨H1, e⟩
  · cases this)
end Go.Det.C

/- Strings: reading, cutting, ranging over them; bytes made into one. -/
namespace Go.Det
set_option linter.unusedVariables false
set_option linter.unusedSimpArgs false
section
variable {P : Program} {X : Ext} {cf : CallF} {o : Oper} {env : List DV} {K : DV → DH → Prop} {A H : DH} {bs bs' : List (Nat × DObj)} {fs : List (DH → Prop)}
theorem opD_strIndex {t : TypeId} {x ix : Operand} {s : List UInt8} {j : IntKind} {m : Int} {b : UInt8} (ho : o.op = .index t x ix) (hx : evalO env x = some (.str s)) (hix : evalO env ix = some (.int j m)) (hu : P.underlying t = some .string) (hm : 0 ≤ m) (hb : s[m.toNat]? = some b) :
    opD P cf o env H = some (.int .u8 b.toNat, H) := by
  simp only [opD, ho, mover, reader, pureD, hx, hix, indexD, hu, hm, if_true, hb]
  rfl
theorem bounds_lo {len cap l : Nat} {v : DV} (h : boundD len v = some l) : boundsD len cap (some v) none none = some (l, len, cap) := by
  show (match boundD len v with | none => none | some l => some (l, len, cap)) = _
  rw [h]
theorem bound_of {y : Nat} {k : IntKind} {i : Int} (h : 0 ≤ i ∧ i ≤ (y : Int)) : boundD y (.int k i) = some i.toNat := by
  simp only [boundD]
  rw [if_pos h]
theorem opD_strDrop {t : TypeId} {x lo : Operand} {s : List UInt8} {j : IntKind} {m : Int} (ho : o.op = .slice t x (some lo) none none) (hx : evalO env x = some (.str s)) (hlo : evalO env lo = some (.int j m)) (hu : P.underlying t = some .string) (hm : 0 ≤ m ∧ m ≤ (s.length : Int)) :
    opD P cf o env H = some (.str (s.drop m.toNat), H) := by
  have e : (s.drop m.toNat).take (s.length - m.toNat) = s.drop m.toNat := List.take_of_length_le (by simp)
  simp only [opD, ho, mover, reader, pureD, hx, hlo, evOpt, Option.map_some, sliceD, hu, bounds_lo (bound_of hm), e]
  rfl
def rowsB (l : List UInt8) : List (List DV) := l.map fun b => [.int .u8 b.toNat]
theorem rowsB_len (l : List UInt8) : (rowsB l).length = l.length := by simp [rowsB]
theorem bytesOf_rows : ∀ l : List UInt8, bytesOf (rowsB l) = some l
  | [] => rfl
  | b :: l => by
    have := bytesOf_rows l
    show (match bytesOf (rowsB l) with | some l => some (UInt8.ofNat ((b.toNat : Int)).toNat :: l) | none => none) = _
    rw [this]
    simp
end
end Go.Det

/- Strings: what begins how, what is cut off. -/
namespace Go.Det.C
open Go Go.Det Go.Proofs
set_option maxRecDepth 4000
set_option maxHeartbeats 4000000
set_option linter.unusedVariables false
set_option linter.unusedSimpArgs false
def cutP (s p : List UInt8) : List UInt8 := if p.isPrefixOf s then s.drop p.length else s
/-! ### digits at the front -/
def isDig (b : UInt8) : Bool := 48 ≤ b && b ≤ 57
def digs : List UInt8 := [48, 49, 50, 51, 52, 53, 54, 55, 56, 57]
def digSet : List DV := (List.range 256).map fun i => .bool (decide (48 ≤ i) && decide (i ≤ 57))
def gSet : G := fun args H => match args with
  | [.str [48, 49, 50, 51, 52, 53, 54, 55, 56, 57]] => some (.tuple [.agg digSet, .bool true], H)
  | _ => none
theorem set_run : (match callD Tryd.prog XF 1000 106 [.str digs] H0 with | some (.tuple [.agg cs, .bool true], _) => DV.beqs cs digSet | _ => false) = true := by kernel_rfl
theorem set_closed : DV.closed (.tuple [.agg digSet, .bool true]) = true := by kernel_rfl
theorem set106_ok : ExtSound Tryd.prog gSet 106 := ext_closed okXF Tryd.func106 rfl rfl (by
  intro args H r H' h
  unfold gSet at h
  split at h <;> cases h
  refine ⟨rfl, rfl, set_closed, 1000, ?_⟩
  have := set_run
  split at this
  · rename_i cs H1 e
    have e2 := DV.beqs_eq _ _ this
    subst e2
    exact ⟨H1, e⟩
  · cases this)
def unitsA : List DV := [.str [115], .int .i64 1000000000000, .str [109, 115], .int .i64 1000000000, .str [117, 115], .int .i64 1000000, .str [110, 115], .int .i64 1000, .str [112, 115], .int .i64 1]
def gUnits : G := fun args H => match args with
  | [] => some (.agg unitsA, H)
  | _ => none
theorem units_run : (match callD Tryd.prog XF 1000 71 [] H0 with | some (.agg cs, _) => DV.beqs cs unitsA | _ => false) = true := by kernel_rfl
theorem units71_ok : ExtSound Tryd.prog gUnits 71 := ext_closed okXF Tryd.func71 rfl rfl (by
  intro args H r H' h
  unfold gUnits at h
  split at h <;> cases h
  refine ⟨rfl, rfl, rfl, 1000, ?_⟩
  have := units_run
  split at this
  · rename_i cs H1 e
    have e2 := DV.beqs_eq _ _ this
    subst e2
    exact ⟨H1, e⟩
  · cases this)
end Go.Det.C

/- Strings: what is trimmed; units; times are read. -/
namespace Go.Det.C
open Go Go.Det Go.Proofs
set_option maxRecDepth 4000
set_option maxHeartbeats 4000000
set_option linter.unusedVariables false
set_option linter.unusedSimpArgs false
def E1 : List (FuncId × G) := [(22, gLive), (106, gSet), (71, gUnits)]
def X1 : Ext := Xof L E1
def kOf (st : DSt) (i : Nat) : Nat := match st.env.getD i undefD with
  | .int _ n => n.toNat
  | _ => 0
def unitF (s : List UInt8) : Option Int := if s = [115] then some 1000000000000 else if s = [109, 115] then some 1000000000 else if s = [117, 115] then some 1000000 else if s = [110, 115] then some 1000 else if s = [112, 115] then some 1 else none
def unitN (s : List UInt8) : Int := (unitF s).getD 0
theorem units71 (H : DH) : CallWp Tryd.prog X1 71 [] H (fun r H' => r = .agg unitsA ∧ H' = H) := ⟨⟨1, _, _, rfl, rfl, rfl⟩⟩
theorem zero107 : zeroT Tryd.prog 107 = some (.agg [.str [], .int .i64 0]) := by kernel_rfl
theorem part107 (a b : DV) : partD Tryd.prog 107 [a, b] 0 = some (.agg [a, b]) := rfl
theorem unit95 (s : List UInt8) (H : DH) : CallWp Tryd.prog X1 95 [.str s] H (fun r H' => r = .tuple [.int .i64 (unitN s), .bool (unitF s).isSome] ∧ Above H H') := by
  have hB : Bx H H [] [] := Bx.init (fun f hf => by cases hf)
  refine enter rfl Tryd.func95 rfl Tryd.ntmps95 rfl ?_
  dsimp only [List.cons_append, List.nil_append, List.length_cons, List.length_nil, List.replicate_succ, List.replicate_zero, Nat.reduceAdd, Nat.reduceSub]
  repeat' (first | dsimp only [putD, DV.cells, DH.new_next, DH.set_next, List.length_cons, List.length_nil, Nat.reduceAdd, List.set_cons_zero, List.set_cons_succ, getD_zero, getD_succ, fieldAt_zero, fieldAt_succ, thenD, blockD, retR] | refine dwp_round ?_ | apply dwp_seq | apply dwp_region | apply ops_nil | (apply ops_plain; (· exact rfl)) | (apply op_call; (· exact rfl); (· exact rfl); (· exact rfl); (refine (units71 _).mono ?_; rintro r H' ⟨rfl, rfl⟩)) | (apply bx_load0; (· exact rfl); (· exact rfl); (· assumption); (· (repeat (first | with_reducible exact At.here | with_reducible apply At.there))); (· (first | exact part107 _ _ | exact rfl))) | (apply bx_store0; (· exact rfl); (· exact rfl); (· exact rfl); (· assumption); (· (first | (dsimp only [DV.cells, getD_zero, getD_succ]; done) | (dsimp only [DV.cells, getD_zero, getD_succ]; exact rfl) | exact rfl)); (· (repeat (first | with_reducible exact Upd.here | with_reducible apply Upd.there))); (· exact rfl); (· exact rfl); (· exact rfl); (· exact rfl); intro H1 hB) | (apply bx_alloc; (· exact rfl); (· exact zero107); (· (first | (dsimp only [DV.cells, getD_zero, getD_succ]; done) | (dsimp only [DV.cells, getD_zero, getD_succ]; exact rfl) | exact rfl)); (· exact rfl); (· exact rfl); (· exact rfl); (· assumption); intro b1 H1 hB) | (apply op_at; (· exact rfl)) | (apply dwp_cond_t; (· exact rfl); (· (with_reducible first | assumption | rfl | decide))) | (apply dwp_cond_f; (· exact rfl); (· (with_reducible first | assumption | rfl | decide))) | (refine dwp_cond rfl ?_ ?_ <;> intro hb) | apply dwp_block | apply dwp_skip | apply dwp_ret | apply dwp_exit | (refine ⟨_, rfl, ?_⟩) | fail)
  all_goals first
    | (simp only [beq_iff_eq] at hb; subst hb; exact ⟨rfl, hB.ab⟩)
    | (have e : unitF s = none := by
         unfold unitF
         rw [if_neg (fun e => by subst e; contradiction), if_neg (fun e => by subst e; contradiction), if_neg (fun e => by subst e; contradiction), if_neg (fun e => by subst e; contradiction), if_neg (fun e => by subst e; contradiction)]
       unfold unitN
       rw [e]
       exact ⟨rfl, hB.ab⟩)
end Go.Det.C

/- Times are read: some answer comes. -/
namespace Go.Det.C
open Go Go.Det Go.Proofs
set_option maxRecDepth 4000
set_option maxHeartbeats 4000000
set_option linter.unusedVariables false
set_option linter.unusedSimpArgs false
section
variable {P : Program} {X : Ext} {o : Oper} {env : List DV} {H : DH} {K : DV → DH → Prop}
theorem op_any {k : IntKind} {n : Int} {bo : BinOp} {t : TypeId} {x y : Operand} {q} (ho : o.op = .binOp bo t x y q) (h : opD P (fun _ _ _ => none) o env H = some (.int k n, H)) (hk : ∀ m, K (.int k m) H) : OpWp P X o env H K := op_at h (hk n)
theorem wrap_u64 (n : Int) : 0 ≤ IntKind.u64.wrap n := by
  unfold IntKind.wrap
  simp only [IntKind.signed, IntKind.bits]
  simp
  exact Int.emod_nonneg _ (by decide)
theorem op_wany {n : Int} {bo : BinOp} {t : TypeId} {x y : Operand} {q} (ho : o.op = .binOp bo t x y q) (h : opD P (fun _ _ _ => none) o env H = some (.int .u64 (IntKind.u64.wrap n), H)) (hk : ∀ m, 0 ≤ m → K (.int .u64 m) H) : OpWp P X o env H K := op_at h (hk _ (wrap_u64 n))
end
theorem mul122 (x y : Int) (H : DH) : CallWp Tryd.prog X1 122 [.int .u64 x, .int .u64 y] H (fun r H' => (∃ hi lo, 0 ≤ hi ∧ r = .tuple [.int .u64 hi, .int .u64 lo]) ∧ H' = H) := by
  refine enter rfl Tryd.func122 rfl Tryd.ntmps122 rfl ?_
  dsimp only [List.cons_append, List.nil_append, List.length_cons, List.length_nil, List.replicate_succ, List.replicate_zero, Nat.reduceAdd, Nat.reduceSub]
  repeat' (first | dsimp only [putD, DV.cells, DH.new_next, DH.set_next, List.length_cons, List.length_nil, Nat.reduceAdd, List.set_cons_zero, List.set_cons_succ, getD_zero, getD_succ, fieldAt_zero, fieldAt_succ, thenD, blockD, retR] | apply dwp_seq | apply dwp_region | apply ops_nil | (apply ops_plain; (· exact rfl)) | (apply op_wany; (· exact rfl); (· exact rfl); intro m hm) | (apply op_any; (· exact rfl); (· exact rfl); intro m) | (apply op_at; (· exact rfl)) | apply dwp_ret | (refine ⟨_, rfl, ?_⟩) | fail)
  exact ⟨⟨_, _, by assumption, rfl⟩, rfl⟩
theorem div123 (lo : Int) (H : DH) : CallWp Tryd.prog X1 123 [.int .u64 0, .int .u64 lo, .int .u64 1] H (fun r H' => (∃ q l, r = .tuple [.int .u64 q, .int .u64 l]) ∧ H' = H) := by
  refine enter rfl Tryd.func123 rfl Tryd.ntmps123 rfl ?_
  dsimp only [List.cons_append, List.nil_append, List.length_cons, List.length_nil, List.replicate_succ, List.replicate_zero, Nat.reduceAdd, Nat.reduceSub]
  repeat' (first | dsimp only [putD, DV.cells, DH.new_next, DH.set_next, List.length_cons, List.length_nil, Nat.reduceAdd, List.set_cons_zero, List.set_cons_succ, getD_zero, getD_succ, fieldAt_zero, fieldAt_succ, thenD, blockD, retR] | apply dwp_seq | apply dwp_region | apply ops_nil | (apply ops_plain; (· exact rfl)) | (apply op_at; (· exact rfl)) | refine dwp_drawc _ rfl ?_ | apply drawc_nil | (apply drawc_pure; (· (first | exact wanted_plain rfl | (apply wanted_on; (· exact rfl); (· exact rfl); (· (with_reducible first | assumption | rfl | decide))))); (· exact rfl); (· exact rfl); (· exact rfl)) | (apply dwp_cond_t; (· exact rfl); (· (with_reducible first | assumption | rfl | decide))) | (apply dwp_cond_f; (· exact rfl); (· (with_reducible first | assumption | rfl | decide))) | apply dwp_skip | apply dwp_ret | (refine ⟨_, rfl, ?_⟩) | fail)
  exact ⟨⟨_, _, rfl⟩, rfl⟩
theorem size70 (a : Int) (H : DH) : CallWp Tryd.prog X1 70 [.int .i64 a] H (fun r H' => (∃ q, r = .int .u64 q) ∧ H' = H) := by
  refine enter rfl Tryd.func70 rfl Tryd.ntmps70 rfl ?_
  dsimp only [List.cons_append, List.nil_append, List.length_cons, List.length_nil, List.replicate_succ, List.replicate_zero, Nat.reduceAdd, Nat.reduceSub]
  repeat' (first | dsimp only [putD, DV.cells, DH.new_next, DH.set_next, List.length_cons, List.length_nil, Nat.reduceAdd, List.set_cons_zero, List.set_cons_succ, getD_zero, getD_succ, fieldAt_zero, fieldAt_succ, thenD, blockD, retR] | apply dwp_seq | apply dwp_region | apply ops_nil | (apply ops_plain; (· exact rfl)) | (apply op_at; (· exact rfl)) | (refine dwp_cond rfl ?_ ?_ <;> intro hb) | apply dwp_skip | apply dwp_ret | (refine ⟨_, rfl, ?_⟩) | fail)
  all_goals exact ⟨⟨_, rfl⟩, rfl⟩
theorem far89 (a : Int) (H : DH) : CallWp Tryd.prog X1 89 [.int .i64 a] H (fun r H' => (∃ q, r = .bool q) ∧ H' = H) := by
  refine enter rfl Tryd.func89 rfl Tryd.ntmps89 rfl ?_
  dsimp only [List.cons_append, List.nil_append, List.length_cons, List.length_nil, List.replicate_succ, List.replicate_zero, Nat.reduceAdd, Nat.reduceSub]
  repeat' (first | dsimp only [putD, DV.cells, DH.new_next, DH.set_next, List.length_cons, List.length_nil, Nat.reduceAdd, List.set_cons_zero, List.set_cons_succ, getD_zero, getD_succ, fieldAt_zero, fieldAt_succ, thenD, blockD, retR] | apply dwp_seq | apply dwp_region | apply ops_nil | (apply ops_plain; (· exact rfl)) | (apply ops_on; (· exact rfl); (· exact rfl); (· (with_reducible first | assumption | rfl | decide))) | (apply ops_off0; (· exact rfl); (· exact rfl); (· (with_reducible first | assumption | rfl | decide))) | (apply ops_split0; (· exact rfl); (· exact rfl); all_goals intro hb) | (apply op_pick_t; (· exact rfl); (· exact rfl); (· (with_reducible first | assumption | rfl | decide)); (· exact rfl)) | (apply op_pick_f; (· exact rfl); (· exact rfl); (· (with_reducible first | assumption | rfl | decide)); (· exact rfl)) | (apply op_at; (· exact rfl)) | apply dwp_ret | (refine ⟨_, rfl, ?_⟩) | fail)
  all_goals exact ⟨⟨_, rfl⟩, rfl⟩
/-- What lies in a slice of three numbers, or of one. -/
inductive Nums (H : DH) : DV → Prop
  | three {b : Nat} {x y z : Int} : H.obj b = some (.rows false 1 [[.int .i64 x], [.int .i64 y], [.int .i64 z]]) → Nums H (.sl (some (b, 0, 1)) 3 3 true)
  | one {b : Nat} {x : Int} : H.obj b = some (.rows false 1 [[.int .i64 x]]) → Nums H (.sl (some (b, 0, 1)) 1 1 true)
theorem obj_here' {H : DH} {o : DObj} : (H.new o).obj H.next = some o := obj_here rfl
theorem hi_zero {h : Int} (h0 : 0 ≤ h) (hb : decide (h ≥ IntKind.u64.wrap 1) = false) : h = 0 := by
  have e : IntKind.u64.wrap 1 = 1 := by decide
  rw [e] at hb
  simp at hb
  omega
theorem index99 {s : DV} {H : DH} (h : Nums H s) : CallWp Tryd.prog X1 99 [s, .func (.func 89) [] []] H (fun r H' => (∃ q, r = .int .i64 q) ∧ H' = H) := by
  cases h with
  | three h =>
    refine enter rfl Tryd.func99 rfl Tryd.ntmps99 rfl ?_
    dsimp only [List.cons_append, List.nil_append, List.length_cons, List.length_nil, List.replicate_succ, List.replicate_zero, Nat.reduceAdd, Nat.reduceSub]
    repeat' (first | dsimp only [putD, DV.cells, DH.new_next, DH.set_next, List.length_cons, List.length_nil, Nat.reduceAdd, List.set_cons_zero, List.set_cons_succ, getD_zero, getD_succ, fieldAt_zero, fieldAt_succ, thenD, blockD, retR] | refine dwp_round ?_ | apply dwp_seq | apply dwp_region | apply ops_nil | (apply ops_plain; (· exact rfl)) | (apply op_call; (· exact rfl); (· exact rfl); (· exact rfl); (refine (far89 _ _).mono ?_; rintro r H' ⟨⟨q, rfl⟩, rfl⟩)) | (apply op_load_at; (· exact rfl); (· exact rfl); (· exact h); (· exact rfl); (· exact rfl)) | (apply op_at; (· exact rfl)) | (apply dwp_cond_t; (· exact rfl); (· (with_reducible first | assumption | rfl | decide))) | (apply dwp_cond_f; (· exact rfl); (· (with_reducible first | assumption | rfl | decide))) | (refine dwp_cond rfl ?_ ?_ <;> intro hb) | apply dwp_block | apply dwp_skip | apply dwp_ret | apply dwp_exit | (refine ⟨_, rfl, ?_⟩) | fail)
    all_goals exact ⟨⟨_, rfl⟩, rfl⟩
  | one h =>
    refine enter rfl Tryd.func99 rfl Tryd.ntmps99 rfl ?_
    dsimp only [List.cons_append, List.nil_append, List.length_cons, List.length_nil, List.replicate_succ, List.replicate_zero, Nat.reduceAdd, Nat.reduceSub]
    repeat' (first | dsimp only [putD, DV.cells, DH.new_next, DH.set_next, List.length_cons, List.length_nil, Nat.reduceAdd, List.set_cons_zero, List.set_cons_succ, getD_zero, getD_succ, fieldAt_zero, fieldAt_succ, thenD, blockD, retR] | refine dwp_round ?_ | apply dwp_seq | apply dwp_region | apply ops_nil | (apply ops_plain; (· exact rfl)) | (apply op_call; (· exact rfl); (· exact rfl); (· exact rfl); (refine (far89 _ _).mono ?_; rintro r H' ⟨⟨q, rfl⟩, rfl⟩)) | (apply op_load_at; (· exact rfl); (· exact rfl); (· exact h); (· exact rfl); (· exact rfl)) | (apply op_at; (· exact rfl)) | (apply dwp_cond_t; (· exact rfl); (· (with_reducible first | assumption | rfl | decide))) | (apply dwp_cond_f; (· exact rfl); (· (with_reducible first | assumption | rfl | decide))) | (refine dwp_cond rfl ?_ ?_ <;> intro hb) | apply dwp_block | apply dwp_skip | apply dwp_ret | apply dwp_exit | (refine ⟨_, rfl, ?_⟩) | fail)
    all_goals exact ⟨⟨_, rfl⟩, rfl⟩
theorem has88 {s : DV} {H : DH} (h : Nums H s) : CallWp Tryd.prog X1 88 [s, .func (.func 89) [] []] H (fun r H' => (∃ q, r = .bool q) ∧ H' = H) := by
  refine enter rfl Tryd.func88 rfl Tryd.ntmps88 rfl ?_
  dsimp only [List.cons_append, List.nil_append, List.length_cons, List.length_nil, List.replicate_succ, List.replicate_zero, Nat.reduceAdd, Nat.reduceSub]
  repeat' (first | dsimp only [putD, DV.cells, DH.new_next, DH.set_next, List.length_cons, List.length_nil, Nat.reduceAdd, List.set_cons_zero, List.set_cons_succ, getD_zero, getD_succ, fieldAt_zero, fieldAt_succ, thenD, blockD, retR] | apply dwp_seq | apply dwp_region | apply ops_nil | (apply ops_plain; (· exact rfl)) | (apply op_call; (· exact rfl); (· exact rfl); (· exact rfl); (refine (index99 h).mono ?_; rintro r H' ⟨⟨q, rfl⟩, rfl⟩)) | (apply op_at; (· exact rfl)) | apply dwp_ret | (refine ⟨_, rfl, ?_⟩) | fail)
  exact ⟨⟨_, rfl⟩, rfl⟩
theorem may69 {s : DV} {H : DH} (h : Nums H s) : CallWp Tryd.prog X1 69 [s] H (fun r H' => (∃ q, r = .bool q) ∧ H' = H) := by
  refine enter rfl Tryd.func69 rfl Tryd.ntmps69 rfl ?_
  dsimp only [List.cons_append, List.nil_append, List.length_cons, List.length_nil, List.replicate_succ, List.replicate_zero, Nat.reduceAdd, Nat.reduceSub]
  repeat' (first | dsimp only [putD, DV.cells, DH.new_next, DH.set_next, List.length_cons, List.length_nil, Nat.reduceAdd, List.set_cons_zero, List.set_cons_succ, getD_zero, getD_succ, fieldAt_zero, fieldAt_succ, thenD, blockD, retR] | apply dwp_seq | apply dwp_region | apply ops_nil | (apply ops_plain; (· exact rfl)) | (apply op_call; (· exact rfl); (· exact rfl); (· exact rfl); (refine (has88 h).mono ?_; rintro r H' ⟨⟨q, rfl⟩, rfl⟩)) | (apply op_at; (· exact rfl)) | apply dwp_ret | (refine ⟨_, rfl, ?_⟩) | fail)
  exact ⟨⟨_, rfl⟩, rfl⟩
theorem told124 (a : Int) (H : DH) : CallWp Tryd.prog X1 124 [.int .i64 a] H (fun r H' => (∃ q e, r = .tuple [.int .i64 q, .int .i64 e]) ∧ Above H H') := by
  refine enter rfl Tryd.func124 rfl Tryd.ntmps124 rfl ?_
  dsimp only [List.cons_append, List.nil_append, List.length_cons, List.length_nil, List.replicate_succ, List.replicate_zero, Nat.reduceAdd, Nat.reduceSub]
  repeat' (first | dsimp only [putD, DV.cells, DH.new_next, DH.set_next, List.length_cons, List.length_nil, Nat.reduceAdd, List.set_cons_zero, List.set_cons_succ, getD_zero, getD_succ, fieldAt_zero, fieldAt_succ, thenD, blockD, retR] | apply dwp_seq | apply dwp_region | apply ops_nil | (apply ops_plain; (· exact rfl)) | (apply op_call; (· exact rfl); (· exact rfl); (· exact rfl); (refine (may69 (by first | exact .three obj_here' | exact .one obj_here')).mono ?_; rintro r H' ⟨⟨q, rfl⟩, rfl⟩)) | (apply op_at; (· exact rfl)) | (refine dwp_cond rfl ?_ ?_ <;> intro hb) | apply dwp_skip | apply dwp_ret | (refine ⟨_, rfl, ?_⟩) | fail)
  all_goals exact ⟨⟨_, _, rfl⟩, (Above.refl _).new _⟩
theorem scale118 (a b : Int) (H : DH) : CallWp Tryd.prog X1 118 [.int .i64 a, .int .i64 b, .int .i64 1] H (fun r H' => (∃ p q e, r = .tuple [.int .i64 p, .int .i64 q, .int .i64 e]) ∧ Above H H') := by
  refine enter rfl Tryd.func118 rfl Tryd.ntmps118 rfl ?_
  dsimp only [List.cons_append, List.nil_append, List.length_cons, List.length_nil, List.replicate_succ, List.replicate_zero, Nat.reduceAdd, Nat.reduceSub]
  repeat' (first | dsimp only [putD, DV.cells, DH.new_next, DH.set_next, List.length_cons, List.length_nil, Nat.reduceAdd, List.set_cons_zero, List.set_cons_succ, getD_zero, getD_succ, fieldAt_zero, fieldAt_succ, thenD, blockD, retR] | apply dwp_seq | apply dwp_region | apply ops_nil | (apply ops_plain; (· exact rfl)) | (apply ops_on; (· exact rfl); (· exact rfl); (· (with_reducible first | assumption | rfl | decide))) | (apply ops_off0; (· exact rfl); (· exact rfl); (· (with_reducible first | assumption | rfl | decide))) | (apply ops_split0; (· exact rfl); (· exact rfl); all_goals intro hb) | (apply op_call; (· exact rfl); (· exact rfl); (· exact rfl); (refine (may69 (by first | exact .three obj_here' | exact .one obj_here')).mono ?_; rintro r H' ⟨⟨q, rfl⟩, rfl⟩)) | (apply op_call; (· exact rfl); (· exact rfl); (· exact rfl); (refine (size70 _ _).mono ?_; rintro r H' ⟨⟨q, rfl⟩, rfl⟩)) | (apply op_call; (· exact rfl); (· exact rfl); (· exact rfl); (refine (mul122 _ _ _).mono ?_; rintro r H' ⟨⟨hi, lo, h0, rfl⟩, rfl⟩)) | (apply op_call; (· exact rfl); (· exact rfl); (· exact rfl); (obtain rfl := hi_zero h0 hb; refine (div123 _ _).mono ?_; rintro r H' ⟨⟨q, l, rfl⟩, rfl⟩)) | (apply op_call; (· exact rfl); (· exact rfl); (· exact rfl); (refine (told124 _ _).mono ?_; rintro r H' ⟨⟨q, e, rfl⟩, hab⟩)) | (apply op_pick_t; (· exact rfl); (· exact rfl); (· (with_reducible first | assumption | rfl | decide)); (· exact rfl)) | (apply op_pick_f; (· exact rfl); (· exact rfl); (· (with_reducible first | assumption | rfl | decide)); (· exact rfl)) | (apply op_at; (· exact opD_neqb rfl rfl rfl rfl)) | (apply op_at; (· exact rfl)) | (apply dwp_cond_t; (· exact rfl); (· (with_reducible first | assumption | rfl | decide))) | (apply dwp_cond_f; (· exact rfl); (· (with_reducible first | assumption | rfl | decide))) | (refine dwp_cond rfl ?_ ?_ <;> intro hb) | apply dwp_skip | apply dwp_ret | (refine ⟨_, rfl, ?_⟩) | fail)
  all_goals exact ⟨⟨_, _, _, rfl⟩, by first | exact (Above.refl _).new _ | exact ((Above.refl _).new _).trans hab⟩
theorem pmul109 (a b : Int) (H : DH) : CallWp Tryd.prog X1 109 [.int .i64 a, .int .i64 b] H (fun r H' => (∃ q e, r = .tuple [.int .i64 q, .int .i64 e]) ∧ Above H H') := by
  refine enter rfl Tryd.func109 rfl Tryd.ntmps109 rfl ?_
  dsimp only [List.cons_append, List.nil_append, List.length_cons, List.length_nil, List.replicate_succ, List.replicate_zero, Nat.reduceAdd, Nat.reduceSub]
  repeat' (first | dsimp only [putD, DV.cells, DH.new_next, DH.set_next, List.length_cons, List.length_nil, Nat.reduceAdd, List.set_cons_zero, List.set_cons_succ, getD_zero, getD_succ, fieldAt_zero, fieldAt_succ, thenD, blockD, retR] | apply dwp_seq | apply dwp_region | apply ops_nil | (apply ops_plain; (· exact rfl)) | (apply op_call; (· exact rfl); (· exact rfl); (· exact rfl); (refine (scale118 _ _ _).mono ?_; rintro r H' ⟨⟨p, q, e, rfl⟩, hab⟩)) | (apply op_at; (· exact rfl)) | apply dwp_ret | (refine ⟨_, rfl, ?_⟩) | fail)
  exact ⟨⟨_, _, rfl⟩, hab⟩
def X1r : Ext := Xof (96 :: L) E1
theorem up1r : ExtLe X1 X1r := extLe_more (M := [96]) (T := []) (E := E1) (by decide +kernel)
end Go.Det.C

/- Times are read: some answer comes, and a table of the answers. -/
namespace Go.Det.C
open Go Go.Det Go.Proofs
set_option maxRecDepth 4000
set_option maxHeartbeats 4000000
set_option linter.unusedVariables false
set_option linter.unusedSimpArgs false
section
variable {P : Program} {X : Ext}
/-- A block, cut off: what it leaves. -/
theorem dwp_cutBlock {id : Nat} {c : Code} {st : DSt} {Q : DExit → DSt → Prop} (R : DSt → Prop) (h1 : Hold (Dwp P X (.block id c) st (fun e st' => e = .normal ∧ R st'))) (h2 : ∀ st', R st' → Q .normal st') : Dwp P X (.block id c) st Q :=
  h1.h.mono fun e st' he => by obtain ⟨rfl, hr⟩ := he; exact h2 st' hr
theorem dwp_cutCond {t : Tmp} {x y : Code} {st : DSt} {Q : DExit → DSt → Prop} (R : DSt → Prop) (h1 : Hold (Dwp P X (.cond (.tmp t) x y) st (fun e st' => e = .normal ∧ R st'))) (h2 : ∀ st', R st' → Q .normal st') : Dwp P X (.cond (.tmp t) x y) st Q :=
  h1.h.mono fun e st' he => by obtain ⟨rfl, hr⟩ := he; exact h2 st' hr
end
theorem wrapN {k : Nat} (h : k ≤ 70000) : IntKind.i64.wrap ((k : Int) + 1) = ((k + 1 : Nat) : Int) := by
  unfold IntKind.wrap
  simp only [IntKind.signed, IntKind.bits]
  simp
  omega
theorem read96 (s : List UInt8) (H : DH) (hs : s.length ≤ 65536) : CallWp Tryd.prog X1r 96 [.str s] H (fun r H' => (∃ v e, r = .tuple [.int .i64 v, .int .i64 e]) ∧ Above H H') := by
  cases s with
  | nil =>
    refine enter rfl Tryd.func96 rfl Tryd.ntmps96 rfl ?_
    dsimp only [List.cons_append, List.nil_append, List.length_cons, List.length_nil, List.replicate_succ, List.replicate_zero, Nat.reduceAdd, Nat.reduceSub]
    repeat' (first | dsimp only [putD, DV.cells, DH.new_next, DH.set_next, List.length_cons, List.length_nil, Nat.reduceAdd, List.set_cons_zero, List.set_cons_succ, getD_zero, getD_succ, fieldAt_zero, fieldAt_succ, thenD, blockD, retR] | (refine dwp_cutCond (t := 21) (fun st => ∃ (r : List UInt8) (b : Bool), ∃ J : Nat → DV, (r.length ≤ 65536) ∧ st = ⟨(J 0 :: J 1 :: J 2 :: J 3 :: .str r :: .bool b :: J 6 :: J 7 :: J 8 :: J 9 :: J 10 :: J 11 :: J 12 :: J 13 :: J 14 :: J 15 :: J 16 :: J 17 :: J 18 :: J 19 :: J 20 :: J 21 :: J 22 :: J 23 :: J 24 :: J 25 :: J 26 :: J 27 :: J 28 :: J 29 :: J 30 :: J 31 :: J 32 :: J 33 :: J 34 :: J 35 :: J 36 :: J 37 :: J 38 :: J 39 :: J 40 :: J 41 :: J 42 :: J 43 :: J 44 :: J 45 :: J 46 :: J 47 :: J 48 :: J 49 :: J 50 :: J 51 :: J 52 :: J 53 :: J 54 :: J 55 :: J 56 :: J 57 :: J 58 :: J 59 :: J 60 :: J 61 :: J 62 :: J 63 :: J 64 :: J 65 :: J 66 :: J 67 :: J 68 :: J 69 :: J 70 :: J 71 :: J 72 :: J 73 :: J 74 :: J 75 :: J 76 :: J 77 :: J 78 :: J 79 :: J 80 :: J 81 :: J 82 :: J 83 :: []), H⟩) ?_ ?_) | apply dwp_seq | apply dwp_region | apply ops_nil | (apply ops_plain; (· exact rfl)) | (apply ops_off1; (· exact rfl); (· exact rfl); (· (with_reducible first | assumption | rfl | decide))) | (apply op_pick_f; (· exact rfl); (· exact rfl); (· (with_reducible first | assumption | rfl | decide)); (· exact rfl)) | (apply op_at; (· exact rfl)) | fail)
    · refine ⟨?_⟩
      repeat' (first | (apply dwp_cond_f; (· exact rfl); (· (with_reducible first | assumption | rfl | decide))) | apply dwp_skip | fail)
      all_goals exact ⟨rfl, _, _, junk_facts (Nat.zero_le _) rfl rfl⟩
    · rintro st ⟨r, b, J, hr, rfl⟩
      try dsimp only [thenD]
      repeat' (first | dsimp only [putD, DV.cells, DH.new_next, DH.set_next, List.length_cons, List.length_nil, Nat.reduceAdd, List.set_cons_zero, List.set_cons_succ, getD_zero, getD_succ, fieldAt_zero, fieldAt_succ, thenD, blockD, retR] | (refine dwp_cutBlock (id := 0) (fun st => ∃ (m : Nat), ∃ J : Nat → DV, (m ≤ r.length) ∧ st = ⟨(J 0 :: J 1 :: J 2 :: J 3 :: .str r :: .bool b :: .int .i64 (m : Int) :: J 7 :: J 8 :: J 9 :: J 10 :: J 11 :: J 12 :: J 13 :: J 14 :: J 15 :: J 16 :: J 17 :: J 18 :: J 19 :: J 20 :: J 21 :: J 22 :: J 23 :: J 24 :: J 25 :: J 26 :: J 27 :: J 28 :: J 29 :: J 30 :: J 31 :: J 32 :: J 33 :: J 34 :: J 35 :: J 36 :: J 37 :: J 38 :: J 39 :: J 40 :: J 41 :: J 42 :: J 43 :: J 44 :: J 45 :: J 46 :: J 47 :: J 48 :: J 49 :: J 50 :: J 51 :: J 52 :: J 53 :: J 54 :: J 55 :: J 56 :: J 57 :: J 58 :: J 59 :: J 60 :: J 61 :: J 62 :: J 63 :: J 64 :: J 65 :: J 66 :: J 67 :: J 68 :: J 69 :: J 70 :: J 71 :: J 72 :: J 73 :: J 74 :: J 75 :: J 76 :: J 77 :: J 78 :: J 79 :: J 80 :: J 81 :: J 82 :: J 83 :: []), H⟩) ?_ ?_) | apply dwp_seq | apply dwp_region | apply ops_nil | (apply ops_plain; (· exact rfl)) | (apply op_at; (· exact rfl)) | fail)
      · refine ⟨?_⟩
        repeat' (first | apply dwp_block | fail)
        refine dwp_loop (fun st => ∃ (m : Nat), ∃ J : Nat → DV, (m ≤ r.length) ∧ st = ⟨(J 0 :: J 1 :: J 2 :: J 3 :: .str r :: .bool b :: .int .i64 (m : Int) :: J 7 :: J 8 :: J 9 :: J 10 :: J 11 :: J 12 :: J 13 :: J 14 :: J 15 :: J 16 :: J 17 :: J 18 :: J 19 :: J 20 :: J 21 :: J 22 :: J 23 :: J 24 :: J 25 :: J 26 :: J 27 :: J 28 :: J 29 :: J 30 :: J 31 :: J 32 :: J 33 :: J 34 :: J 35 :: J 36 :: J 37 :: J 38 :: J 39 :: J 40 :: J 41 :: J 42 :: J 43 :: J 44 :: J 45 :: J 46 :: J 47 :: J 48 :: J 49 :: J 50 :: J 51 :: J 52 :: J 53 :: J 54 :: J 55 :: J 56 :: J 57 :: J 58 :: J 59 :: J 60 :: J 61 :: J 62 :: J 63 :: J 64 :: J 65 :: J 66 :: J 67 :: J 68 :: J 69 :: J 70 :: J 71 :: J 72 :: J 73 :: J 74 :: J 75 :: J 76 :: J 77 :: J 78 :: J 79 :: J 80 :: J 81 :: J 82 :: J 83 :: []), H⟩) (fun st => r.length - kOf st 6) (⟨0, junk_facts (Nat.zero_le _) rfl rfl⟩) ?_
        rintro st ⟨m, J, hm, rfl⟩
        by_cases hlt : m < r.length
        · obtain ⟨c, hc⟩ : ∃ c, r[m]? = some c := ⟨r[m], List.getElem?_eq_getElem hlt⟩
          have hc1 : r[((m : Int)).toNat]? = some c := by rw [Int.toNat_natCast]; exact hc
          have hl0 : decide ((m : Int) < (r.length : Int)) = true := by simp [hlt]
          have h0 : 0 ≤ (m : Int) := by omega
          repeat' (first | dsimp only [putD, DV.cells, DH.new_next, DH.set_next, List.length_cons, List.length_nil, Nat.reduceAdd, List.set_cons_zero, List.set_cons_succ, getD_zero, getD_succ, fieldAt_zero, fieldAt_succ, thenD, blockD, retR] | apply dwp_seq | apply dwp_region | apply ops_nil | (apply ops_plain; (· exact rfl)) | (apply ops_on; (· exact rfl); (· exact rfl); (· (with_reducible first | assumption | rfl | decide))) | (apply ops_off1; (· exact rfl); (· exact rfl); (· (with_reducible first | assumption | rfl | decide))) | (apply ops_split1; (· exact rfl); (· exact rfl); all_goals intro hb) | (apply op_pick_t; (· exact rfl); (· exact rfl); (· (with_reducible first | assumption | rfl | decide)); (· exact rfl)) | (apply op_pick_f; (· exact rfl); (· exact rfl); (· (with_reducible first | assumption | rfl | decide)); (· exact rfl)) | (apply op_at; (· exact opD_strIndex (b := c) rfl rfl rfl rfl h0 hc1)) | (apply op_at; (· exact rfl)) | (apply dwp_cond_f; (· exact rfl); (· (with_reducible first | assumption | rfl | decide))) | (refine dwp_cond rfl ?_ ?_ <;> intro hb) | apply dwp_block | apply dwp_skip | apply dwp_exit | fail)
          · have hw := wrapN (k := m) (by omega)
            rw [hw]
            refine ⟨⟨m + 1, junk_facts (by omega) rfl rfl⟩, ?_⟩
            show r.length - ((m + 1 : Nat) : Int).toNat < r.length - (m : Int).toNat
            omega
          all_goals (rw [if_pos rfl]; exact ⟨rfl, ⟨_, junk_facts (hm) rfl rfl⟩⟩)
        · have hl0 : decide ((m : Int) < (r.length : Int)) = false := by simp; omega
          repeat' (first | dsimp only [putD, DV.cells, DH.new_next, DH.set_next, List.length_cons, List.length_nil, Nat.reduceAdd, List.set_cons_zero, List.set_cons_succ, getD_zero, getD_succ, fieldAt_zero, fieldAt_succ, thenD, blockD, retR] | apply dwp_seq | apply dwp_region | apply ops_nil | (apply ops_plain; (· exact rfl)) | (apply ops_off1; (· exact rfl); (· exact rfl); (· (with_reducible first | assumption | rfl | decide))) | (apply op_pick_f; (· exact rfl); (· exact rfl); (· (with_reducible first | assumption | rfl | decide)); (· exact rfl)) | (apply op_at; (· exact rfl)) | (apply dwp_cond_f; (· exact rfl); (· (with_reducible first | assumption | rfl | decide))) | apply dwp_exit | fail)
          rw [if_pos rfl]; exact ⟨rfl, ⟨_, junk_facts (hm) rfl rfl⟩⟩
      · rintro st ⟨m, J, hm, rfl⟩
        try dsimp only [thenD]
        have hin : 0 ≤ (m : Int) ∧ (m : Int) ≤ (r.length : Int) := by omega
        repeat' (first | dsimp only [putD, DV.cells, DH.new_next, DH.set_next, List.length_cons, List.length_nil, Nat.reduceAdd, List.set_cons_zero, List.set_cons_succ, getD_zero, getD_succ, fieldAt_zero, fieldAt_succ, thenD, blockD, retR] | apply dwp_seq | apply dwp_region | apply ops_nil | (apply ops_plain; (· exact rfl)) | (apply ops_on; (· exact rfl); (· exact rfl); (· (with_reducible first | assumption | rfl | decide))) | (apply ops_off0; (· exact rfl); (· exact rfl); (· (with_reducible first | assumption | rfl | decide))) | (apply ops_split0; (· exact rfl); (· exact rfl); all_goals intro hb) | (apply op_call; (· exact rfl); (· exact rfl); (· exact rfl); (refine (CallWp.up (up1r) (unit95 _ _)).mono ?_; rintro r1 H1 ⟨rfl, hab⟩)) | (apply op_pick_t; (· exact rfl); (· exact rfl); (· (with_reducible first | assumption | rfl | decide)); (· exact rfl)) | (apply op_pick_f; (· exact rfl); (· exact rfl); (· (with_reducible first | assumption | rfl | decide)); (· exact rfl)) | (apply op_at; (· exact opD_strDrop rfl rfl rfl rfl hin)) | (apply op_at; (· exact rfl)) | (apply dwp_cond_t; (· exact rfl); (· (with_reducible first | assumption | rfl | decide))) | (refine dwp_cond rfl ?_ ?_ <;> intro hb) | apply dwp_block | apply dwp_skip | apply dwp_ret | (refine ⟨_, rfl, ?_⟩) | fail)
        all_goals try (exact ⟨⟨_, _, rfl⟩, hab⟩)
        refine dwp_loop (fun st => ∃ (v : Int) (k : Nat), ∃ J : Nat → DV, (k ≤ m) ∧ st = ⟨(J 0 :: J 1 :: J 2 :: J 3 :: .str r :: .bool b :: .int .i64 (m : Int) :: .int .i64 (unitN (r.drop ((m : Int)).toNat)) :: J 8 :: .int .i64 v :: J 10 :: J 11 :: J 12 :: J 13 :: J 14 :: J 15 :: J 16 :: J 17 :: J 18 :: J 19 :: J 20 :: J 21 :: J 22 :: J 23 :: J 24 :: J 25 :: J 26 :: J 27 :: J 28 :: J 29 :: J 30 :: J 31 :: J 32 :: J 33 :: J 34 :: J 35 :: J 36 :: J 37 :: J 38 :: J 39 :: J 40 :: J 41 :: J 42 :: J 43 :: J 44 :: J 45 :: J 46 :: J 47 :: J 48 :: J 49 :: J 50 :: J 51 :: J 52 :: J 53 :: J 54 :: .int .i64 (m : Int) :: .int .i64 (k : Int) :: J 57 :: J 58 :: J 59 :: J 60 :: J 61 :: J 62 :: J 63 :: J 64 :: J 65 :: J 66 :: J 67 :: J 68 :: J 69 :: J 70 :: J 71 :: J 72 :: J 73 :: J 74 :: J 75 :: J 76 :: J 77 :: J 78 :: J 79 :: J 80 :: J 81 :: J 82 :: J 83 :: []), H1⟩) (fun st => m - kOf st 56) (⟨0, 0, junk_facts (Nat.zero_le _) rfl rfl⟩) ?_
        rintro st ⟨v, k, J, hk, rfl⟩
        by_cases hlt : k < m
        · obtain ⟨c, hc⟩ : ∃ c, r[k]? = some c := ⟨r[k]'(by omega), List.getElem?_eq_getElem _⟩
          have hc1 : r[((k : Int)).toNat]? = some c := by rw [Int.toNat_natCast]; exact hc
          have hl0 : decide ((k : Int) < (m : Int)) = true := by simp [hlt]
          have h0 : 0 ≤ (k : Int) := by omega
          repeat' (first | dsimp only [putD, DV.cells, DH.new_next, DH.set_next, List.length_cons, List.length_nil, Nat.reduceAdd, List.set_cons_zero, List.set_cons_succ, getD_zero, getD_succ, fieldAt_zero, fieldAt_succ, thenD, blockD, retR] | apply dwp_seq | apply dwp_region | apply ops_nil | (apply ops_plain; (· exact rfl)) | (apply op_at; (· exact opD_strIndex (b := c) rfl rfl rfl rfl h0 hc1)) | (apply op_at; (· exact rfl)) | (apply dwp_cond_t; (· exact rfl); (· (with_reducible first | assumption | rfl | decide))) | (refine dwp_cond rfl ?_ ?_ <;> intro hb) | apply dwp_block | apply dwp_skip | apply dwp_ret | (refine ⟨_, rfl, ?_⟩) | fail)
          all_goals try (exact ⟨⟨_, _, rfl⟩, hab⟩)
          have hw := wrapN (k := k) (by omega)
          rw [hw]
          refine ⟨⟨_, k + 1, junk_facts (by omega) rfl rfl⟩, ?_⟩
          show m - ((k + 1 : Nat) : Int).toNat < m - (k : Int).toNat
          omega
        · have hl0 : decide ((k : Int) < (m : Int)) = false := by simp; omega
          repeat' (first | dsimp only [putD, DV.cells, DH.new_next, DH.set_next, List.length_cons, List.length_nil, Nat.reduceAdd, List.set_cons_zero, List.set_cons_succ, getD_zero, getD_succ, fieldAt_zero, fieldAt_succ, thenD, blockD, retR] | apply dwp_seq | apply dwp_region | apply ops_nil | (apply ops_plain; (· exact rfl)) | (apply op_call; (· exact rfl); (· exact rfl); (· exact rfl); (refine (CallWp.up (up1r) (pmul109 _ _ _)).mono ?_; rintro r2 H2 ⟨⟨q, e, rfl⟩, hab2⟩)) | (apply op_at; (· exact rfl)) | (apply dwp_cond_f; (· exact rfl); (· (with_reducible first | assumption | rfl | decide))) | (refine dwp_cond rfl ?_ ?_ <;> intro hb) | apply dwp_skip | apply dwp_ret | apply dwp_exit | (refine ⟨_, rfl, ?_⟩) | fail)
          all_goals exact ⟨⟨_, _, rfl⟩, hab.trans hab2⟩
  | cons c0 s =>
    have hl0 : decide (((s.length + 1 : Nat) : Int) > 0) = true := by simp
    refine enter rfl Tryd.func96 rfl Tryd.ntmps96 rfl ?_
    dsimp only [List.cons_append, List.nil_append, List.length_cons, List.length_nil, List.replicate_succ, List.replicate_zero, Nat.reduceAdd, Nat.reduceSub]
    repeat' (first | dsimp only [putD, DV.cells, DH.new_next, DH.set_next, List.length_cons, List.length_nil, Nat.reduceAdd, List.set_cons_zero, List.set_cons_succ, getD_zero, getD_succ, fieldAt_zero, fieldAt_succ, thenD, blockD, retR] | (refine dwp_cutCond (t := 21) (fun st => ∃ (r : List UInt8) (b : Bool), ∃ J : Nat → DV, (r.length ≤ 65536) ∧ st = ⟨(J 0 :: J 1 :: J 2 :: J 3 :: .str r :: .bool b :: J 6 :: J 7 :: J 8 :: J 9 :: J 10 :: J 11 :: J 12 :: J 13 :: J 14 :: J 15 :: J 16 :: J 17 :: J 18 :: J 19 :: J 20 :: J 21 :: J 22 :: J 23 :: J 24 :: J 25 :: J 26 :: J 27 :: J 28 :: J 29 :: J 30 :: J 31 :: J 32 :: J 33 :: J 34 :: J 35 :: J 36 :: J 37 :: J 38 :: J 39 :: J 40 :: J 41 :: J 42 :: J 43 :: J 44 :: J 45 :: J 46 :: J 47 :: J 48 :: J 49 :: J 50 :: J 51 :: J 52 :: J 53 :: J 54 :: J 55 :: J 56 :: J 57 :: J 58 :: J 59 :: J 60 :: J 61 :: J 62 :: J 63 :: J 64 :: J 65 :: J 66 :: J 67 :: J 68 :: J 69 :: J 70 :: J 71 :: J 72 :: J 73 :: J 74 :: J 75 :: J 76 :: J 77 :: J 78 :: J 79 :: J 80 :: J 81 :: J 82 :: J 83 :: []), H⟩) ?_ ?_) | apply dwp_seq | apply dwp_region | apply ops_nil | (apply ops_plain; (· exact rfl)) | (apply ops_on; (· exact rfl); (· exact rfl); (· (with_reducible first | assumption | rfl | decide))) | (apply op_pick_t; (· exact rfl); (· exact rfl); (· (with_reducible first | assumption | rfl | decide)); (· exact rfl)) | (apply op_at; (· exact opD_strIndex (b := c0) rfl rfl rfl rfl (by decide) rfl)) | (apply op_at; (· exact rfl)) | fail)
    · refine ⟨?_⟩
      repeat' (first | dsimp only [putD, DV.cells, DH.new_next, DH.set_next, List.length_cons, List.length_nil, Nat.reduceAdd, List.set_cons_zero, List.set_cons_succ, getD_zero, getD_succ, fieldAt_zero, fieldAt_succ, thenD, blockD, retR] | apply dwp_region | apply ops_nil | (apply ops_plain; (· exact rfl)) | (apply op_at; (· exact opD_strDrop rfl rfl rfl rfl ⟨by decide, by simp only [List.length_cons]; omega⟩)) | (apply op_at; (· exact rfl)) | (refine dwp_cond rfl ?_ ?_ <;> intro hb) | apply dwp_skip | fail)
      · exact ⟨rfl, _, _, junk_facts (by simpa using Nat.le_of_succ_le hs) rfl rfl⟩
      · exact ⟨rfl, _, _, junk_facts hs rfl rfl⟩
    · rintro st ⟨r, b, J, hr, rfl⟩
      try dsimp only [thenD]
      repeat' (first | dsimp only [putD, DV.cells, DH.new_next, DH.set_next, List.length_cons, List.length_nil, Nat.reduceAdd, List.set_cons_zero, List.set_cons_succ, getD_zero, getD_succ, fieldAt_zero, fieldAt_succ, thenD, blockD, retR] | (refine dwp_cutBlock (id := 0) (fun st => ∃ (m : Nat), ∃ J : Nat → DV, (m ≤ r.length) ∧ st = ⟨(J 0 :: J 1 :: J 2 :: J 3 :: .str r :: .bool b :: .int .i64 (m : Int) :: J 7 :: J 8 :: J 9 :: J 10 :: J 11 :: J 12 :: J 13 :: J 14 :: J 15 :: J 16 :: J 17 :: J 18 :: J 19 :: J 20 :: J 21 :: J 22 :: J 23 :: J 24 :: J 25 :: J 26 :: J 27 :: J 28 :: J 29 :: J 30 :: J 31 :: J 32 :: J 33 :: J 34 :: J 35 :: J 36 :: J 37 :: J 38 :: J 39 :: J 40 :: J 41 :: J 42 :: J 43 :: J 44 :: J 45 :: J 46 :: J 47 :: J 48 :: J 49 :: J 50 :: J 51 :: J 52 :: J 53 :: J 54 :: J 55 :: J 56 :: J 57 :: J 58 :: J 59 :: J 60 :: J 61 :: J 62 :: J 63 :: J 64 :: J 65 :: J 66 :: J 67 :: J 68 :: J 69 :: J 70 :: J 71 :: J 72 :: J 73 :: J 74 :: J 75 :: J 76 :: J 77 :: J 78 :: J 79 :: J 80 :: J 81 :: J 82 :: J 83 :: []), H⟩) ?_ ?_) | apply dwp_seq | apply dwp_region | apply ops_nil | (apply ops_plain; (· exact rfl)) | (apply op_at; (· exact rfl)) | fail)
      · refine ⟨?_⟩
        repeat' (first | apply dwp_block | fail)
        refine dwp_loop (fun st => ∃ (m : Nat), ∃ J : Nat → DV, (m ≤ r.length) ∧ st = ⟨(J 0 :: J 1 :: J 2 :: J 3 :: .str r :: .bool b :: .int .i64 (m : Int) :: J 7 :: J 8 :: J 9 :: J 10 :: J 11 :: J 12 :: J 13 :: J 14 :: J 15 :: J 16 :: J 17 :: J 18 :: J 19 :: J 20 :: J 21 :: J 22 :: J 23 :: J 24 :: J 25 :: J 26 :: J 27 :: J 28 :: J 29 :: J 30 :: J 31 :: J 32 :: J 33 :: J 34 :: J 35 :: J 36 :: J 37 :: J 38 :: J 39 :: J 40 :: J 41 :: J 42 :: J 43 :: J 44 :: J 45 :: J 46 :: J 47 :: J 48 :: J 49 :: J 50 :: J 51 :: J 52 :: J 53 :: J 54 :: J 55 :: J 56 :: J 57 :: J 58 :: J 59 :: J 60 :: J 61 :: J 62 :: J 63 :: J 64 :: J 65 :: J 66 :: J 67 :: J 68 :: J 69 :: J 70 :: J 71 :: J 72 :: J 73 :: J 74 :: J 75 :: J 76 :: J 77 :: J 78 :: J 79 :: J 80 :: J 81 :: J 82 :: J 83 :: []), H⟩) (fun st => r.length - kOf st 6) (⟨0, junk_facts (Nat.zero_le _) rfl rfl⟩) ?_
        rintro st ⟨m, J, hm, rfl⟩
        by_cases hlt : m < r.length
        · obtain ⟨c, hc⟩ : ∃ c, r[m]? = some c := ⟨r[m], List.getElem?_eq_getElem hlt⟩
          have hc1 : r[((m : Int)).toNat]? = some c := by rw [Int.toNat_natCast]; exact hc
          have hl0 : decide ((m : Int) < (r.length : Int)) = true := by simp [hlt]
          have h0 : 0 ≤ (m : Int) := by omega
          repeat' (first | dsimp only [putD, DV.cells, DH.new_next, DH.set_next, List.length_cons, List.length_nil, Nat.reduceAdd, List.set_cons_zero, List.set_cons_succ, getD_zero, getD_succ, fieldAt_zero, fieldAt_succ, thenD, blockD, retR] | apply dwp_seq | apply dwp_region | apply ops_nil | (apply ops_plain; (· exact rfl)) | (apply ops_on; (· exact rfl); (· exact rfl); (· (with_reducible first | assumption | rfl | decide))) | (apply ops_off1; (· exact rfl); (· exact rfl); (· (with_reducible first | assumption | rfl | decide))) | (apply ops_split1; (· exact rfl); (· exact rfl); all_goals intro hb) | (apply op_pick_t; (· exact rfl); (· exact rfl); (· (with_reducible first | assumption | rfl | decide)); (· exact rfl)) | (apply op_pick_f; (· exact rfl); (· exact rfl); (· (with_reducible first | assumption | rfl | decide)); (· exact rfl)) | (apply op_at; (· exact opD_strIndex (b := c) rfl rfl rfl rfl h0 hc1)) | (apply op_at; (· exact rfl)) | (apply dwp_cond_f; (· exact rfl); (· (with_reducible first | assumption | rfl | decide))) | (refine dwp_cond rfl ?_ ?_ <;> intro hb) | apply dwp_block | apply dwp_skip | apply dwp_exit | fail)
          · have hw := wrapN (k := m) (by omega)
            rw [hw]
            refine ⟨⟨m + 1, junk_facts (by omega) rfl rfl⟩, ?_⟩
            show r.length - ((m + 1 : Nat) : Int).toNat < r.length - (m : Int).toNat
            omega
          all_goals (rw [if_pos rfl]; exact ⟨rfl, ⟨_, junk_facts (hm) rfl rfl⟩⟩)
        · have hl0 : decide ((m : Int) < (r.length : Int)) = false := by simp; omega
          repeat' (first | dsimp only [putD, DV.cells, DH.new_next, DH.set_next, List.length_cons, List.length_nil, Nat.reduceAdd, List.set_cons_zero, List.set_cons_succ, getD_zero, getD_succ, fieldAt_zero, fieldAt_succ, thenD, blockD, retR] | apply dwp_seq | apply dwp_region | apply ops_nil | (apply ops_plain; (· exact rfl)) | (apply ops_off1; (· exact rfl); (· exact rfl); (· (with_reducible first | assumption | rfl | decide))) | (apply op_pick_f; (· exact rfl); (· exact rfl); (· (with_reducible first | assumption | rfl | decide)); (· exact rfl)) | (apply op_at; (· exact rfl)) | (apply dwp_cond_f; (· exact rfl); (· (with_reducible first | assumption | rfl | decide))) | apply dwp_exit | fail)
          rw [if_pos rfl]; exact ⟨rfl, ⟨_, junk_facts (hm) rfl rfl⟩⟩
      · rintro st ⟨m, J, hm, rfl⟩
        try dsimp only [thenD]
        have hin : 0 ≤ (m : Int) ∧ (m : Int) ≤ (r.length : Int) := by omega
        repeat' (first | dsimp only [putD, DV.cells, DH.new_next, DH.set_next, List.length_cons, List.length_nil, Nat.reduceAdd, List.set_cons_zero, List.set_cons_succ, getD_zero, getD_succ, fieldAt_zero, fieldAt_succ, thenD, blockD, retR] | apply dwp_seq | apply dwp_region | apply ops_nil | (apply ops_plain; (· exact rfl)) | (apply ops_on; (· exact rfl); (· exact rfl); (· (with_reducible first | assumption | rfl | decide))) | (apply ops_off0; (· exact rfl); (· exact rfl); (· (with_reducible first | assumption | rfl | decide))) | (apply ops_split0; (· exact rfl); (· exact rfl); all_goals intro hb) | (apply op_call; (· exact rfl); (· exact rfl); (· exact rfl); (refine (CallWp.up (up1r) (unit95 _ _)).mono ?_; rintro r1 H1 ⟨rfl, hab⟩)) | (apply op_pick_t; (· exact rfl); (· exact rfl); (· (with_reducible first | assumption | rfl | decide)); (· exact rfl)) | (apply op_pick_f; (· exact rfl); (· exact rfl); (· (with_reducible first | assumption | rfl | decide)); (· exact rfl)) | (apply op_at; (· exact opD_strDrop rfl rfl rfl rfl hin)) | (apply op_at; (· exact rfl)) | (apply dwp_cond_t; (· exact rfl); (· (with_reducible first | assumption | rfl | decide))) | (refine dwp_cond rfl ?_ ?_ <;> intro hb) | apply dwp_block | apply dwp_skip | apply dwp_ret | (refine ⟨_, rfl, ?_⟩) | fail)
        all_goals try (exact ⟨⟨_, _, rfl⟩, hab⟩)
        refine dwp_loop (fun st => ∃ (v : Int) (k : Nat), ∃ J : Nat → DV, (k ≤ m) ∧ st = ⟨(J 0 :: J 1 :: J 2 :: J 3 :: .str r :: .bool b :: .int .i64 (m : Int) :: .int .i64 (unitN (r.drop ((m : Int)).toNat)) :: J 8 :: .int .i64 v :: J 10 :: J 11 :: J 12 :: J 13 :: J 14 :: J 15 :: J 16 :: J 17 :: J 18 :: J 19 :: J 20 :: J 21 :: J 22 :: J 23 :: J 24 :: J 25 :: J 26 :: J 27 :: J 28 :: J 29 :: J 30 :: J 31 :: J 32 :: J 33 :: J 34 :: J 35 :: J 36 :: J 37 :: J 38 :: J 39 :: J 40 :: J 41 :: J 42 :: J 43 :: J 44 :: J 45 :: J 46 :: J 47 :: J 48 :: J 49 :: J 50 :: J 51 :: J 52 :: J 53 :: J 54 :: .int .i64 (m : Int) :: .int .i64 (k : Int) :: J 57 :: J 58 :: J 59 :: J 60 :: J 61 :: J 62 :: J 63 :: J 64 :: J 65 :: J 66 :: J 67 :: J 68 :: J 69 :: J 70 :: J 71 :: J 72 :: J 73 :: J 74 :: J 75 :: J 76 :: J 77 :: J 78 :: J 79 :: J 80 :: J 81 :: J 82 :: J 83 :: []), H1⟩) (fun st => m - kOf st 56) (⟨0, 0, junk_facts (Nat.zero_le _) rfl rfl⟩) ?_
        rintro st ⟨v, k, J, hk, rfl⟩
        by_cases hlt : k < m
        · obtain ⟨c, hc⟩ : ∃ c, r[k]? = some c := ⟨r[k]'(by omega), List.getElem?_eq_getElem _⟩
          have hc1 : r[((k : Int)).toNat]? = some c := by rw [Int.toNat_natCast]; exact hc
          have hl0 : decide ((k : Int) < (m : Int)) = true := by simp [hlt]
          have h0 : 0 ≤ (k : Int) := by omega
          repeat' (first | dsimp only [putD, DV.cells, DH.new_next, DH.set_next, List.length_cons, List.length_nil, Nat.reduceAdd, List.set_cons_zero, List.set_cons_succ, getD_zero, getD_succ, fieldAt_zero, fieldAt_succ, thenD, blockD, retR] | apply dwp_seq | apply dwp_region | apply ops_nil | (apply ops_plain; (· exact rfl)) | (apply op_at; (· exact opD_strIndex (b := c) rfl rfl rfl rfl h0 hc1)) | (apply op_at; (· exact rfl)) | (apply dwp_cond_t; (· exact rfl); (· (with_reducible first | assumption | rfl | decide))) | (refine dwp_cond rfl ?_ ?_ <;> intro hb) | apply dwp_block | apply dwp_skip | apply dwp_ret | (refine ⟨_, rfl, ?_⟩) | fail)
          all_goals try (exact ⟨⟨_, _, rfl⟩, hab⟩)
          have hw := wrapN (k := k) (by omega)
          rw [hw]
          refine ⟨⟨_, k + 1, junk_facts (by omega) rfl rfl⟩, ?_⟩
          show m - ((k + 1 : Nat) : Int).toNat < m - (k : Int).toNat
          omega
        · have hl0 : decide ((k : Int) < (m : Int)) = false := by simp; omega
          repeat' (first | dsimp only [putD, DV.cells, DH.new_next, DH.set_next, List.length_cons, List.length_nil, Nat.reduceAdd, List.set_cons_zero, List.set_cons_succ, getD_zero, getD_succ, fieldAt_zero, fieldAt_succ, thenD, blockD, retR] | apply dwp_seq | apply dwp_region | apply ops_nil | (apply ops_plain; (· exact rfl)) | (apply op_call; (· exact rfl); (· exact rfl); (· exact rfl); (refine (CallWp.up (up1r) (pmul109 _ _ _)).mono ?_; rintro r2 H2 ⟨⟨q, e, rfl⟩, hab2⟩)) | (apply op_at; (· exact rfl)) | (apply dwp_cond_f; (· exact rfl); (· (with_reducible first | assumption | rfl | decide))) | (refine dwp_cond rfl ?_ ?_ <;> intro hb) | apply dwp_skip | apply dwp_ret | apply dwp_exit | (refine ⟨_, rfl, ?_⟩) | fail)
          all_goals exact ⟨⟨_, _, rfl⟩, hab.trans hab2⟩
end Go.Det.C

/- A piece that is no word: what number it is. -/
namespace Go.Det.C
open Go Go.Det Go.Proofs
set_option maxRecDepth 4000
set_option maxHeartbeats 4000000
set_option linter.unusedVariables false
set_option linter.unusedSimpArgs false
theorem read_ex (s : List UInt8) (h : s.length ≤ 65536) : ∃ x : Int × Int, ∃ k H1, callD Tryd.prog X1r k 96 [.str s] H0 = some (.tuple [.int .i64 x.1, .int .i64 x.2], H1) := by
  obtain ⟨k, r, H1, h1, ⟨v, e, rfl⟩, _⟩ := (read96 s H0 h).ex
  exact ⟨(v, e), k, H1, h1⟩
/-- What Read answers. -/
noncomputable def readF (s : List UInt8) : Int × Int := if h : s.length ≤ 65536 then Classical.choose (read_ex s h) else (0, 0)
end Go.Det.C

/- What number a piece is. -/
namespace Go.Det.C
open Go Go.Det Go.Proofs
set_option maxRecDepth 4000
set_option maxHeartbeats 4000000
set_option linter.unusedVariables false
set_option linter.unusedSimpArgs false
def digVal (d : List UInt8) : Int := d.foldl (fun n c => 10 * n + ((c.toNat : Int) - 48)) 0
structure NumR where
  n : Int
  t : Bool
  e : Int
/-- What number a piece is, whose unit is u and whose digits are d. -/
noncomputable def numG (s u d : List UInt8) (below : Bool) : NumR :=
  if d = [] then ⟨0, !(u == []), 4⟩ else if u ≠ [] ∧ (unitF u).isSome = false then ⟨0, true, 4⟩ else if 18 < d.length then ⟨0, !(u == []), 6⟩
  else if u ≠ [] then ⟨(readF s).1, true, if (readF s).1 ≤ -1000000000000000000 ∨ (readF s).1 ≥ 1000000000000000000 then 2 else (readF s).2⟩
  else ⟨if below then - digVal d else digVal d, false, 0⟩
noncomputable def numF (s : List UInt8) : NumR := numG s ((cutP s [45]).dropWhile isDig) ((cutP s [45]).takeWhile isDig) ([45].isPrefixOf s)
theorem wrapI {n : Int} (h : -9223372036854775808 ≤ n ∧ n < 9223372036854775808) : IntKind.i64.wrap n = n := by
  unfold IntKind.wrap
  simp only [IntKind.signed, IntKind.bits]
  simp
  omega
end Go.Det.C

/- Regions that draw their order: what is read stays readable in all heaps of a kind; behind that, what comes after all that was read. -/
namespace Go.Det
set_option linter.unusedVariables false
set_option linter.unusedSimpArgs false
/-- Do all these stand before what has this mask? -/
def bitsIn (rs : List Nat) (m : Nat) : Bool := rs.all fun j => m.testBit j
theorem bitsIn_at {rs : List Nat} {m j : Nat} (h : bitsIn rs m = true) (hj : j ∈ rs) : m.testBit j = true := List.all_eq_true.mp h j hj
section
variable {P : Program} {X : Ext}
structure DrawR (P : Program) (X : Ext) (all : Array Oper) (bef : Array Nat) (rs ms : List Nat) (Φ : DH → Prop) (i : Nat) (l : List Oper) (st : DSt) (K : DSt → Prop) : Prop where
  ex : ∀ seen was, (∀ s ∈ seen, s.i ∈ rs ∧ ∀ H', Φ H' → readD P s.o (evalO s.env) H' = some s.v) → (∀ w ∈ was, w.i ∈ ms ∧ Φ w.H) → Φ st.H → DrawWp P X all bef l i seen was st K
structure DrawS (P : Program) (X : Ext) (all : Array Oper) (bef : Array Nat) (rs ms : List Nat) (i : Nat) (l : List Oper) (st : DSt) (K : DSt → Prop) : Prop where
  ex : ∀ seen was, (∀ s ∈ seen, s.i ∈ rs) → (∀ w ∈ was, w.i ∈ ms) → DrawWp P X all bef l i seen was st K
theorem dwp_drawr {id : Nat} {ops : Array Oper} {st : DSt} {Q : DExit → DSt → Prop} (bef : Array Nat) (hbef : Region.before ops = bef) (Φ : DH → Prop) (h0 : Φ st.H) (h : DrawR P X ops bef [] [] Φ 0 ops.toList st (fun st' => Q .normal st')) : Dwp P X (.region id ops true) st Q :=
  dwp_draw bef hbef (h.ex [] [] (by simp) (by simp) h0)
section
variable {all : Array Oper} {bef : Array Nat} {rs ms : List Nat} {i : Nat} {Φ : DH → Prop} {o : Oper} {r : List Oper} {st : DSt} {K : DSt → Prop}
theorem drawr_nil (h : K st) : DrawR P X all bef rs ms Φ i [] st K := ⟨fun _ _ _ _ _ => draw_nil h⟩
theorem drawr_off (hw : Region.wanted o (dyield all st.env) = false) (h : DrawR P X all bef rs ms Φ (i + 1) r ⟨putD st.env o.dst undefD, st.H⟩ K) : DrawR P X all bef rs ms Φ i (o :: r) st K :=
  ⟨fun seen was hs hw' h0 => draw_off hw (h.ex seen was hs hw' h0)⟩
theorem drawr_pure (hw : Region.wanted o (dyield all st.env) = true) (hm : mover P o.op = false) (hr : reader P o.op = false) {v : DV} (hv : opD P (fun _ _ _ => none) o st.env st.H = some (v, st.H))
    (h : DrawR P X all bef rs ms Φ (i + 1) r ⟨putD st.env o.dst v, st.H⟩ K) : DrawR P X all bef rs ms Φ i (o :: r) st K :=
  ⟨fun seen was hs hw' h0 => draw_pure hw hm hr (op_at hv (h.ex seen was hs hw' h0))⟩
theorem drawr_read (hw : Region.wanted o (dyield all st.env) = true) (hm : mover P o.op = false) (hr : reader P o.op = true) {v : DV} (hv : ∀ H', Φ H' → opD P (fun _ _ _ => none) o st.env H' = some (v, H'))
    (h : DrawR P X all bef (i :: rs) ms Φ (i + 1) r ⟨putD st.env o.dst v, st.H⟩ K) : DrawR P X all bef rs ms Φ i (o :: r) st K := by
  refine ⟨fun seen was hs hw' h0 => draw_read hw hm hr (op_at (hv _ h0) ⟨?_, h.ex _ was ?_ hw' h0⟩)⟩
  · unfold stillWas
    rw [List.all_eq_true]
    intro w m
    rw [Bool.or_eq_true]
    exact .inr (still_of ((opD_stays (hv _ (hw' w m).2) hm).2.1 hr))
  · intro s m
    rcases List.mem_cons.mp m with rfl | m
    · exact ⟨List.mem_cons_self, fun H' hp => (opD_stays (hv _ hp) hm).2.1 hr⟩
    · exact ⟨List.mem_cons_of_mem _ (hs s m).1, (hs s m).2⟩
theorem drawr_move (hw : Region.wanted o (dyield all st.env) = true) (hm : mover P o.op = true)
    (h : OpWp P X o st.env st.H (fun v H => Φ H ∧ DrawR P X all bef rs (i :: ms) Φ (i + 1) r ⟨putD st.env o.dst v, H⟩ K)) : DrawR P X all bef rs ms Φ i (o :: r) st K := by
  refine ⟨fun seen was hs hw' h0 => draw_move hw hm ?_⟩
  obtain ⟨k, v, H, h1, hH, h2⟩ := h.ex
  refine ⟨⟨k, v, H, h1, ?_, h2.ex _ _ hs ?_ hH⟩⟩
  · unfold stillAll
    rw [List.all_eq_true]
    intro s m
    rw [Bool.or_eq_true]
    exact .inr (still_of ((hs s m).2 _ hH))
  · intro w m
    rcases List.mem_cons.mp m with rfl | m
    · exact ⟨List.mem_cons_self, h0⟩
    · exact ⟨List.mem_cons_of_mem _ (hw' w m).1, (hw' w m).2⟩
end
/-- As DrawR; but some of what is read stays readable in all heaps of a wider kind Ψ. -/
structure DrawQ (P : Program) (X : Ext) (all : Array Oper) (bef : Array Nat) (rs r2 ms : List Nat) (Φ Ψ : DH → Prop) (i : Nat) (l : List Oper) (st : DSt) (K : DSt → Prop) : Prop where
  ex : ∀ seen was, (∀ s ∈ seen, s.i ∈ rs ∧ (∀ H', Φ H' → readD P s.o (evalO s.env) H' = some s.v) ∧ (s.i ∈ r2 → ∀ H', Ψ H' → readD P s.o (evalO s.env) H' = some s.v)) → (∀ w ∈ was, w.i ∈ ms ∧ Φ w.H) → Φ st.H → DrawWp P X all bef l i seen was st K
section
variable {all : Array Oper} {bef : Array Nat} {rs r2 ms : List Nat} {i : Nat} {Φ Ψ : DH → Prop} {o : Oper} {r : List Oper} {st : DSt} {K : DSt → Prop}
end
end
end Go.Det

/- The cutter: what it holds; a fault noted, a token added. -/
namespace Go.Det.C
open Go Go.Det Go.Proofs
set_option maxRecDepth 4000
set_option maxHeartbeats 4000000
set_option linter.unusedVariables false
set_option linter.unusedSimpArgs false
noncomputable def E3 : List (FuncId × G) := [(22, gLive), (106, gSet), (71, gUnits)]
noncomputable def X3 : Ext := Xof L E3
structure Sv where
  p : Option (Nat × Nat × Nat)
  n : Nat
  c : Nat
  ex : Bool
def Sv.dv (s : Sv) : DV := .sl s.p s.n s.c s.ex
theorem Sv.cells (s : Sv) : DV.cells s.dv = [s.dv] := rfl
theorem own_sv {z : Nat} {R : List (List DV)} {s : DV} {bx : List (Nat × DObj)} (h : Own1 z R s bx) : ∃ v : Sv, s = v.dv := by
  cases h with
  | nil h => exact ⟨⟨none, 0, 0, _⟩, rfl⟩
  | «at» h1 h2 h3 => exact ⟨⟨_, _, _, _⟩, rfl⟩
structure Tok where
  k : Int
  s : List UInt8
  n : Int
  t : Bool
  deriving DecidableEq
abbrev Tok.row (t : Tok) : List DV := [.int .i64 t.k, .str t.s, .int .i64 t.n, .bool t.t]
abbrev placeRow (p : Int × Int) : List DV := [.int .i64 p.1, .int .i64 p.2]
/-- A cutter. -/
structure Cu where
  toks : List Tok
  places : List (Int × Int)
  piece : List UInt8
  at' : Int × Int
  remark : Bool
  w : Int × Int
  e : Int
abbrev Cu.row (c : Cu) (s1 s2 s3 : Sv) : List DV := [s1.dv, s2.dv, s3.dv, .int .i64 c.at'.1, .int .i64 c.at'.2, .bool c.remark, .int .i64 c.w.1, .int .i64 c.w.2, .int .i64 c.e]
/-- A cutter in the heap. -/
structure RepS (A H : DH) (bc : Nat) (c : Cu) (rest : List (Nat × DObj)) (fs : List (DH → Prop)) (s1 s2 s3 : Sv) (x1 x2 x3 : List (Nat × DObj)) : Prop where
  o1 : Own1 4 (c.toks.map Tok.row) s1.dv x1
  o2 : Own1 2 (c.places.map placeRow) s2.dv x2
  o3 : Own1 1 (rowsB c.piece) s3.dv x3
  bx : Bx A H ((bc, .rows false 9 [c.row s1 s2 s3]) :: (x1 ++ (x2 ++ (x3 ++ rest)))) fs
structure Rep (A H : DH) (bc : Nat) (c : Cu) (rest : List (Nat × DObj)) (fs : List (DH → Prop)) : Prop where
  ex : ∃ s1 s2 s3 x1 x2 x3, RepS A H bc c rest fs s1 s2 s3 x1 x2 x3
def Cu.fail (c : Cu) (p : Int × Int) (e : Int) : Cu := if c.e = 0 then { c with w := p, e := e } else c
def Cu.add (c : Cu) (t : Tok) (p : Int × Int) : Cu := { c with toks := c.toks ++ [t], places := c.places ++ [p] }
theorem zero5 : zeroT Tryd.prog 5 = some (.int .u8 0) := by kernel_rfl
theorem et68 : ElemT Tryd.prog 68 5 1 1 (.int .u8 0) := ⟨rfl, rfl, rfl, zero5, by decide, by decide, rfl, rfl⟩
theorem op_append_s {P : Program} {X : Ext} {o : Oper} {env : List DV} {K : DV → DH → Prop} {A H : DH} {bs bx : List (Nat × DObj)} {fs : List (DH → Prop)} {z : Nat} {R : List (List DV)} {s : DV} {st e : TypeId} {by_ : Nat} {z0 : DV} {x y : Operand} {xt : TypeId} {F : List (Nat × DObj) → List (Nat × DObj)} {row : List DV} {b : Nat} {ex : Bool} {t : TypeId}
    (ho : o.op = .call ⟨.builtin .append, #[x, y], #[st, xt]⟩) (hx : evalO env x = some s) (hy : evalO env y = some (.sl (some (b, 0, z)) 1 1 ex)) (hu : P.underlying xt = some (.slice t))
    (E : ElemT P st e z by_ z0) (hown : Own1 z R s bx) (hB : Bx A H bs fs) (hc : Ctx bx bs F) (hm : At b (.rows false z [row]) bs) (hl : row.length = z) (h1 : row.all DV.one = true) (hlen : R.length + 1 ≤ mostD)
    (hk : ∀ (s' : Sv) bx' H', Own1 z (R ++ [row]) s'.dv bx' → Bx A H' (F bx') fs → K s'.dv H') : OpWp P X o env H K := by
  refine op_append_own ho hx hy E hown hB hc (new := [row]) (appended_box hu hB hm) (by simp) (by simp [hl, h1]) hlen fun s' bx' H' h2 h3 => ?_
  obtain ⟨v, rfl⟩ := own_sv h2
  exact hk v bx' H' h2 h3
section
variable {A H : DH} {bc : Nat} {c : Cu} {rest : List (Nat × DObj)} {fs : List (DH → Prop)} {K : DV → DH → Prop}
end
end Go.Det.C
