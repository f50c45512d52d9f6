/- Which of two things comes first: tables for the functions that tell it. -/
import Derived.Test.YtpgobchpnjgbdaaRows
import Derived.Test.YtpgobchpnjgbdaaKOrd7
namespace Go.Det.Q
open Go Go.Det Go.Proofs
set_option maxRecDepth 4000
set_option maxHeartbeats 4000000
set_option linter.unusedVariables false
set_option linter.unusedSimpArgs false
abbrev G := List DV → DH → Option (DV × DH)
abbrev H0 : DH := ⟨0, fun _ => none⟩
def L : List FuncId := [3, 4, 5, 6, 7, 8, 9, 10, 11, 12, 13, 14, 15, 16, 17, 18, 19, 20, 21, 22, 23, 24, 25, 26, 27, 28, 29, 30, 31, 32, 33, 34, 36, 37, 38, 40, 41, 42, 43, 50, 51, 53, 54, 55, 56, 57, 58, 60, 61, 62, 64, 66, 67, 68, 69, 70, 71, 72, 73, 74, 75, 76, 77, 78, 79, 80, 81, 82, 83, 84, 85, 86, 87, 88, 89, 90, 91, 92, 93, 94, 95, 96]
theorem mixed : Try.prog.follows .mixedOrders = true := by kernel_rfl
def LF : List FuncId := [59, 63, 65, 49, 52, 44, 45, 46, 47, 35, 48, 39] ++ L
theorem okLF : LF.all (fun f => okB Try.prog f || [16].contains f) = true := by kernel_rfl
theorem okL : L.all (fun f => okB Try.prog f || [16].contains f) = true := by kernel_rfl
set_option maxHeartbeats 400000 in
theorem push_code : ∀ f ∈ [16], ∀ fn c, Try.prog.funcs[f]? = some fn → fn.body = some c → (fn.name == "runtime.NumGoroutine") = false ∧ CodeOk Try.prog c := by
  intro f hf fn c h hb
  simp only [List.mem_singleton] at hf
  subst hf
  have hfn := Try.func16
  rw [h] at hfn
  cases hfn
  have hb' : Try.f16.body = some c := hb
  cases hb'
  refine ⟨by kernel_rfl, ?_⟩
  simp only [CodeOk, true_and, and_true]
  exact regFloat mixed rfl rfl rfl rfl rfl rfl rfl rfl rfl rfl rfl rfl rfl rfl (by decide) (by decide) (by decide) (by decide) (by decide) (by decide) (by decide) (by decide) (by decide) (by decide) (by kernel_rfl)
    (by kernel_rfl) (by kernel_rfl) (by kernel_rfl) (by kernel_rfl) (by kernel_rfl) (by kernel_rfl) (by kernel_rfl) (by kernel_rfl) (by kernel_rfl) (by kernel_rfl) (by kernel_rfl)
def XF : Ext := Xof LF []
theorem okXF : ProgOk Try.prog XF := progOk_of2 mixed okLF push_code (by simp)
def X0 : Ext := Xof L []
theorem ok0 : ProgOk Try.prog X0 := progOk_of2 mixed okL push_code (by simp)
/-- The chapters' examples. -/
def gLive : G := fun args H => match args with
  | [] => some (.bool true, H)
  | _ => none
theorem live_run15 : (match callD Try.prog XF 1000 15 [] H0 with | some (.bool true, _) => true | _ => false) = true := by kernel_rfl
theorem live_run34 : (match callD Try.prog XF 1000 34 [] H0 with | some (.bool true, _) => true | _ => false) = true := by kernel_rfl
theorem live15_ok : ExtSound Try.prog gLive 15 := ext_closed okXF Try.func15 rfl rfl (by
  intro args H r H' h
  unfold gLive at h
  split at h <;> cases h
  refine ⟨rfl, rfl, rfl, 1000, ?_⟩
  have := live_run15
  split at this
  · rename_i H1 e
    exact ⟨H1, e⟩
  · cases this)
theorem live34_ok : ExtSound Try.prog gLive 34 := ext_closed okXF Try.func34 rfl rfl (by
  intro args H r H' h
  unfold gLive at h
  split at h <;> cases h
  refine ⟨rfl, rfl, rfl, 1000, ?_⟩
  have := live_run34
  split at this
  · rename_i H1 e
    exact ⟨H1, e⟩
  · cases this)
/-- How two whole numbers compare. -/
def cmpI (x y : Int) : Int := if x < y then -1 else if x > y then 1 else 0
theorem nan87 (x : Int) (H : DH) (K : DV → DH → Prop) (h : K (.bool false) H) : CallWp Try.prog X0 87 [.int .i64 x] H K := by
  refine enter rfl Try.func87 rfl Try.ntmps87 rfl ?_
  dsimp only [List.cons_append, List.nil_append, List.length_cons, List.length_nil, List.replicate_succ, List.replicate_zero, Nat.reduceAdd, Nat.reduceSub]
  repeat' (first
    | dsimp only [putD, DV.cells, DH.new_next, DH.set_next, List.length_cons, List.length_nil, Nat.reduceAdd, List.set_cons_zero, List.set_cons_succ, getD_zero, getD_succ, fieldAt_zero, fieldAt_succ, thenD, blockD, retR]
    | apply dwp_seq
    | apply dwp_region
    | apply ops_nil
    | (apply ops_plain; (· exact rfl))
    | (apply op_at; (· exact rfl))
    | apply dwp_ret
    | (refine ⟨_, rfl, ?_⟩)
    | fail)
  have e : (x != x) = false := by simp
  show K (.bool (x != x)) H
  rw [e]
  exact h
def g72 : G := fun args H => match args with
  | [.int .i64 x, .int .i64 y] => some (.int .i64 (cmpI x y), H)
  | _ => none
theorem cmp72 (x y : Int) : CallWp Try.prog X0 72 [.int .i64 x, .int .i64 y] H0 (fun r _ => r = .int .i64 (cmpI x y)) := by
  refine enter rfl Try.func72 rfl Try.ntmps72 rfl ?_
  dsimp only [List.cons_append, List.nil_append, List.length_cons, List.length_nil, List.replicate_succ, List.replicate_zero, Nat.reduceAdd, Nat.reduceSub]
  repeat' (first
    | dsimp only [putD, DV.cells, DH.new_next, DH.set_next, List.length_cons, List.length_nil, Nat.reduceAdd, List.set_cons_zero, List.set_cons_succ, getD_zero, getD_succ, fieldAt_zero, fieldAt_succ, thenD, blockD, retR]
    | apply dwp_seq
    | apply dwp_region
    | apply ops_nil
    | (apply ops_plain; (· exact rfl))
    | (apply op_call; (· exact rfl); (· exact rfl); (· exact rfl); refine nan87 _ _ _ ?_)
    | (apply op_at; (· exact rfl))
    | (apply dwp_cond_f; (· exact rfl); (· (first | with_reducible assumption | with_reducible rfl | decide)))
    | (refine dwp_cond rfl ?_ ?_ <;> intro hb)
    | apply dwp_skip
    | apply dwp_ret
    | (refine ⟨_, rfl, ?_⟩)
    | fail)
  all_goals simp_all [cmpI]
  all_goals (rw [if_neg (by omega), if_neg (by omega)])
theorem ok72 : ExtSound Try.prog g72 72 := ext_closed ok0 Try.func72 rfl rfl (by
  intro args H r H' h
  unfold g72 at h
  split at h <;> cases h
  refine ⟨rfl, rfl, rfl, ?_⟩
  obtain ⟨k, r, H1, h1, rfl⟩ := (cmp72 _ _).ex
  exact ⟨k, H1, h1⟩)
theorem nan88 (x : Int) (H : DH) (K : DV → DH → Prop) (h : K (.bool false) H) : CallWp Try.prog X0 88 [.int .i64 x] H K := by
  refine enter rfl Try.func88 rfl Try.ntmps88 rfl ?_
  dsimp only [List.cons_append, List.nil_append, List.length_cons, List.length_nil, List.replicate_succ, List.replicate_zero, Nat.reduceAdd, Nat.reduceSub]
  repeat' (first
    | dsimp only [putD, DV.cells, DH.new_next, DH.set_next, List.length_cons, List.length_nil, Nat.reduceAdd, List.set_cons_zero, List.set_cons_succ, getD_zero, getD_succ, fieldAt_zero, fieldAt_succ, thenD, blockD, retR]
    | apply dwp_seq
    | apply dwp_region
    | apply ops_nil
    | (apply ops_plain; (· exact rfl))
    | (apply op_at; (· exact rfl))
    | apply dwp_ret
    | (refine ⟨_, rfl, ?_⟩)
    | fail)
  have e : (x != x) = false := by simp
  show K (.bool (x != x)) H
  rw [e]
  exact h
def g73 : G := fun args H => match args with
  | [.int .i64 x, .int .i64 y] => some (.int .i64 (cmpI x y), H)
  | _ => none
theorem cmp73 (x y : Int) : CallWp Try.prog X0 73 [.int .i64 x, .int .i64 y] H0 (fun r _ => r = .int .i64 (cmpI x y)) := by
  refine enter rfl Try.func73 rfl Try.ntmps73 rfl ?_
  dsimp only [List.cons_append, List.nil_append, List.length_cons, List.length_nil, List.replicate_succ, List.replicate_zero, Nat.reduceAdd, Nat.reduceSub]
  repeat' (first
    | dsimp only [putD, DV.cells, DH.new_next, DH.set_next, List.length_cons, List.length_nil, Nat.reduceAdd, List.set_cons_zero, List.set_cons_succ, getD_zero, getD_succ, fieldAt_zero, fieldAt_succ, thenD, blockD, retR]
    | apply dwp_seq
    | apply dwp_region
    | apply ops_nil
    | (apply ops_plain; (· exact rfl))
    | (apply op_call; (· exact rfl); (· exact rfl); (· exact rfl); refine nan88 _ _ _ ?_)
    | (apply op_at; (· exact rfl))
    | (apply dwp_cond_f; (· exact rfl); (· (first | with_reducible assumption | with_reducible rfl | decide)))
    | (refine dwp_cond rfl ?_ ?_ <;> intro hb)
    | apply dwp_skip
    | apply dwp_ret
    | (refine ⟨_, rfl, ?_⟩)
    | fail)
  all_goals simp_all [cmpI]
  all_goals (rw [if_neg (by omega), if_neg (by omega)])
theorem ok73 : ExtSound Try.prog g73 73 := ext_closed ok0 Try.func73 rfl rfl (by
  intro args H r H' h
  unfold g73 at h
  split at h <;> cases h
  refine ⟨rfl, rfl, rfl, ?_⟩
  obtain ⟨k, r, H1, h1, rfl⟩ := (cmp73 _ _).ex
  exact ⟨k, H1, h1⟩)
theorem nan89 (x : Int) (H : DH) (K : DV → DH → Prop) (h : K (.bool false) H) : CallWp Try.prog X0 89 [.int .u64 x] H K := by
  refine enter rfl Try.func89 rfl Try.ntmps89 rfl ?_
  dsimp only [List.cons_append, List.nil_append, List.length_cons, List.length_nil, List.replicate_succ, List.replicate_zero, Nat.reduceAdd, Nat.reduceSub]
  repeat' (first
    | dsimp only [putD, DV.cells, DH.new_next, DH.set_next, List.length_cons, List.length_nil, Nat.reduceAdd, List.set_cons_zero, List.set_cons_succ, getD_zero, getD_succ, fieldAt_zero, fieldAt_succ, thenD, blockD, retR]
    | apply dwp_seq
    | apply dwp_region
    | apply ops_nil
    | (apply ops_plain; (· exact rfl))
    | (apply op_at; (· exact rfl))
    | apply dwp_ret
    | (refine ⟨_, rfl, ?_⟩)
    | fail)
  have e : (x != x) = false := by simp
  show K (.bool (x != x)) H
  rw [e]
  exact h
def g74 : G := fun args H => match args with
  | [.int .u64 x, .int .u64 y] => some (.int .i64 (cmpI x y), H)
  | _ => none
theorem cmp74 (x y : Int) : CallWp Try.prog X0 74 [.int .u64 x, .int .u64 y] H0 (fun r _ => r = .int .i64 (cmpI x y)) := by
  refine enter rfl Try.func74 rfl Try.ntmps74 rfl ?_
  dsimp only [List.cons_append, List.nil_append, List.length_cons, List.length_nil, List.replicate_succ, List.replicate_zero, Nat.reduceAdd, Nat.reduceSub]
  repeat' (first
    | dsimp only [putD, DV.cells, DH.new_next, DH.set_next, List.length_cons, List.length_nil, Nat.reduceAdd, List.set_cons_zero, List.set_cons_succ, getD_zero, getD_succ, fieldAt_zero, fieldAt_succ, thenD, blockD, retR]
    | apply dwp_seq
    | apply dwp_region
    | apply ops_nil
    | (apply ops_plain; (· exact rfl))
    | (apply op_call; (· exact rfl); (· exact rfl); (· exact rfl); refine nan89 _ _ _ ?_)
    | (apply op_at; (· exact rfl))
    | (apply dwp_cond_f; (· exact rfl); (· (first | with_reducible assumption | with_reducible rfl | decide)))
    | (refine dwp_cond rfl ?_ ?_ <;> intro hb)
    | apply dwp_skip
    | apply dwp_ret
    | (refine ⟨_, rfl, ?_⟩)
    | fail)
  all_goals simp_all [cmpI]
  all_goals (rw [if_neg (by omega), if_neg (by omega)])
theorem ok74 : ExtSound Try.prog g74 74 := ext_closed ok0 Try.func74 rfl rfl (by
  intro args H r H' h
  unfold g74 at h
  split at h <;> cases h
  refine ⟨rfl, rfl, rfl, ?_⟩
  obtain ⟨k, r, H1, h1, rfl⟩ := (cmp74 _ _).ex
  exact ⟨k, H1, h1⟩)
def E1 : List (FuncId × G) := [(15, gLive), (34, gLive), (72, g72), (73, g73), (74, g74)]
theorem okE1 : ∀ f g, (f, g) ∈ E1 → ExtSound Try.prog g f := by
  intro f g h
  simp only [E1, List.mem_cons, List.not_mem_nil, or_false, Prod.mk.injEq] at h
  rcases h with ⟨rfl, rfl⟩ | ⟨rfl, rfl⟩ | ⟨rfl, rfl⟩ | ⟨rfl, rfl⟩ | ⟨rfl, rfl⟩
  · exact live15_ok
  · exact live34_ok
  · exact ok72
  · exact ok73
  · exact ok74
def X1 : Ext := Xof L E1
theorem okX1 : ProgOk Try.prog X1 := progOk_of2 mixed okL push_code okE1
/-- The first that is not nought. -/
def orI : List Int → Int
  | [] => 0
  | x :: r => if x = 0 then orI r else x
theorem or6 (o1 o2 : DObj) (a b c d e f : Int) : CallWp Try.prog X1 71 [.sl (some (2, 0, 1)) 6 6 true] (((H0.new o1).new o2).new (.rows false 1 [[.int .i64 a], [.int .i64 b], [.int .i64 c], [.int .i64 d], [.int .i64 e], [.int .i64 f]])) (fun r _ => r = .int .i64 (orI [a, b, c, d, e, f])) := by
  refine enter rfl Try.func71 rfl Try.ntmps71 rfl ?_
  dsimp only [List.cons_append, List.nil_append, List.length_cons, List.length_nil, List.replicate_succ, List.replicate_zero, Nat.reduceAdd, Nat.reduceSub]
  repeat' (first
    | dsimp only [putD, DV.cells, DH.new_next, DH.set_next, List.length_cons, List.length_nil, Nat.reduceAdd, List.set_cons_zero, List.set_cons_succ, getD_zero, getD_succ, fieldAt_zero, fieldAt_succ, thenD, blockD, retR]
    | refine dwp_round ?_
    | apply dwp_seq
    | apply dwp_region
    | apply ops_nil
    | (apply ops_plain; (· exact rfl))
    | (apply op_load_at; (· exact rfl); (· exact rfl); (· repeat (first | with_reducible assumption | (with_reducible apply obj_here; with_reducible rfl) | with_reducible apply obj_set | (with_reducible apply obj_skip_lo; (· ((repeat (first | with_reducible assumption | with_reducible apply Lo.self | with_reducible apply Lo.new | with_reducible apply Lo.set | with_reducible apply Lo.self1 | with_reducible apply Lo.self2)); done))) | (with_reducible apply obj_past; (· ((first | with_reducible assumption | with_reducible apply ne_add1 | with_reducible apply ne_add1' | with_reducible apply ne_add2 | with_reducible apply ne_add2' | with_reducible apply ne_add12 | with_reducible apply ne_add21 | (with_reducible apply Lo.ne; (repeat (first | with_reducible assumption | with_reducible apply Lo.self | with_reducible apply Lo.new | with_reducible apply Lo.set | with_reducible apply Lo.self1 | with_reducible apply Lo.self2)); done) | (with_reducible apply Lo.ne1; (repeat (first | with_reducible assumption | with_reducible apply Lo.self | with_reducible apply Lo.new | with_reducible apply Lo.set | with_reducible apply Lo.self1 | with_reducible apply Lo.self2)); done) | (with_reducible apply Lo.ne'; (repeat (first | with_reducible assumption | with_reducible apply Lo.self | with_reducible apply Lo.new | with_reducible apply Lo.set | with_reducible apply Lo.self1 | with_reducible apply Lo.self2)); done) | (with_reducible apply Lo.ne1'; (repeat (first | with_reducible assumption | with_reducible apply Lo.self | with_reducible apply Lo.new | with_reducible apply Lo.set | with_reducible apply Lo.self1 | with_reducible apply Lo.self2)); done)); done))) | exact obj_here rfl)); (· exact rfl); (· exact rfl))
    | (apply op_at; (· exact rfl))
    | (apply dwp_cond_t; (· exact rfl); (· (first | with_reducible assumption | with_reducible rfl | decide)))
    | (apply dwp_cond_f; (· exact rfl); (· (first | with_reducible assumption | with_reducible rfl | decide)))
    | (refine dwp_cond rfl ?_ ?_ <;> intro hb)
    | apply dwp_block
    | apply dwp_skip
    | apply dwp_ret
    | apply dwp_exit
    | (refine ⟨_, rfl, ?_⟩)
    | fail)
  all_goals simp_all [orI]
/-- How two things compare. -/
def cmpL : List Int → List Int → Int
  | x :: xs, y :: ys => if cmpI x y = 0 then cmpL xs ys else cmpI x y
  | _, _ => 0
/-- A thing. -/
structure Item where
  a : Int
  c : Int
  s : Int
  w : Int
  h : Int
  n : Int
  deriving DecidableEq
def Item.cells (x : Item) : List DV := [.int .i64 x.a, .int .i64 x.c, .int .u64 x.s, .int .i64 x.w, .int .i64 x.h, .int .u64 x.n]
def Item.key (x : Item) : List Int := [x.a, x.c, x.s, x.w, x.h, x.n]
/-- Does one come ahead? -/
def ilt (x y : Item) : Bool := decide (cmpL x.key y.key < 0)
def icmp (x y : Item) : Int := cmpL x.key y.key
def itemOf : List DV → Option Item
  | [.int .i64 a, .int .i64 c, .int .u64 s, .int .i64 w, .int .i64 h, .int .u64 n] => some ⟨a, c, s, w, h, n⟩
  | _ => none
theorem itemOf_cells (x : Item) : itemOf x.cells = some x := rfl
theorem cells_itemOf {r : List DV} {x : Item} (h : itemOf r = some x) : r = x.cells := by
  unfold itemOf at h
  split at h
  · cases h; rfl
  · cases h
def g60 : G := fun args H => match args with
  | [.agg x, .agg y] => match itemOf x, itemOf y with
    | some x, some y => some (.int .i64 (icmp x y), H)
    | _, _ => none
  | _ => none
theorem closed_cells (x : Item) : DV.closeds x.cells = true := rfl
theorem cmp60 (x y : Item) : CallWp Try.prog X1 60 [.agg x.cells, .agg y.cells] H0 (fun r _ => r = .int .i64 (icmp x y)) := by
  refine enter rfl Try.func60 rfl Try.ntmps60 rfl ?_
  dsimp only [List.cons_append, List.nil_append, List.length_cons, List.length_nil, List.replicate_succ, List.replicate_zero, Nat.reduceAdd, Nat.reduceSub]
  repeat' (first
    | dsimp only [putD, DV.cells, DH.new_next, DH.set_next, List.length_cons, List.length_nil, Nat.reduceAdd, List.set_cons_zero, List.set_cons_succ, getD_zero, getD_succ, fieldAt_zero, fieldAt_succ, thenD, blockD, retR]
    | (refine drawc_sync (by exact wanted_plain rfl) rfl (by kernel_rfl) ?_; refine op_call rfl rfl rfl ?_; refine (or6 _ _ _ _ _ _ _ _).mono ?_; rintro r H' rfl)
    | apply dwp_seq
    | apply dwp_region
    | apply ops_nil
    | (apply ops_plain; (· exact rfl))
    | (apply op_at; (· exact rfl))
    | refine dwp_drawc _ rfl ?_
    | apply drawc_nil
    | (apply drawc_read_at; (· exact rfl); (· (first | exact wanted_plain rfl | (apply wanted_on; (· exact rfl); (· exact rfl); (· (first | with_reducible assumption | with_reducible rfl | decide))))); (· exact rfl); (· repeat (first | with_reducible assumption | (with_reducible apply obj_here; with_reducible rfl) | with_reducible apply obj_set | (with_reducible apply obj_skip_lo; (· ((repeat (first | with_reducible assumption | with_reducible apply Lo.self | with_reducible apply Lo.new | with_reducible apply Lo.set | with_reducible apply Lo.self1 | with_reducible apply Lo.self2)); done))) | (with_reducible apply obj_past; (· ((first | with_reducible assumption | with_reducible apply ne_add1 | with_reducible apply ne_add1' | with_reducible apply ne_add2 | with_reducible apply ne_add2' | with_reducible apply ne_add12 | with_reducible apply ne_add21 | (with_reducible apply Lo.ne; (repeat (first | with_reducible assumption | with_reducible apply Lo.self | with_reducible apply Lo.new | with_reducible apply Lo.set | with_reducible apply Lo.self1 | with_reducible apply Lo.self2)); done) | (with_reducible apply Lo.ne1; (repeat (first | with_reducible assumption | with_reducible apply Lo.self | with_reducible apply Lo.new | with_reducible apply Lo.set | with_reducible apply Lo.self1 | with_reducible apply Lo.self2)); done) | (with_reducible apply Lo.ne'; (repeat (first | with_reducible assumption | with_reducible apply Lo.self | with_reducible apply Lo.new | with_reducible apply Lo.set | with_reducible apply Lo.self1 | with_reducible apply Lo.self2)); done) | (with_reducible apply Lo.ne1'; (repeat (first | with_reducible assumption | with_reducible apply Lo.self | with_reducible apply Lo.new | with_reducible apply Lo.set | with_reducible apply Lo.self1 | with_reducible apply Lo.self2)); done)); done))) | exact obj_here rfl)); (· exact rfl); (· exact rfl); (· decide +kernel))
    | (apply drawc_pure; (· (first | exact wanted_plain rfl | (apply wanted_on; (· exact rfl); (· exact rfl); (· (first | with_reducible assumption | with_reducible rfl | decide))))); (· exact rfl); (· exact rfl); (· exact rfl))
    | (apply drawc_same; (· (first | exact wanted_plain rfl | (apply wanted_on; (· exact rfl); (· exact rfl); (· (first | with_reducible assumption | with_reducible rfl | decide))))); (· exact rfl); (· decide +kernel); (first | (apply op_call; (· exact rfl); (· exact rfl); (· exact rfl); refine call_table (g := g72) rfl rfl ?_; refine ⟨rfl, ?_⟩) | (apply op_call; (· exact rfl); (· exact rfl); (· exact rfl); refine call_table (g := g73) rfl rfl ?_; refine ⟨rfl, ?_⟩) | (apply op_call; (· exact rfl); (· exact rfl); (· exact rfl); refine call_table (g := g74) rfl rfl ?_; refine ⟨rfl, ?_⟩)))
    | (apply drawc_sync; (· (first | exact wanted_plain rfl | (apply wanted_on; (· exact rfl); (· exact rfl); (· (first | with_reducible assumption | with_reducible rfl | decide))))); (· exact rfl); (· decide +kernel))
    | apply dwp_ret
    | (refine ⟨_, rfl, ?_⟩)
    | fail)
  rfl
theorem ok60 : ExtSound Try.prog g60 60 := ext_closed okX1 Try.func60 rfl rfl (by
  intro args H r H' h
  unfold g60 at h
  split at h
  · split at h
    · rename_i hx hy
      cases h
      cases cells_itemOf hx; cases cells_itemOf hy
      refine ⟨rfl, by simp [DV.closeds, DV.closed, closed_cells], rfl, ?_⟩
      obtain ⟨k, r, H1, h1, rfl⟩ := (cmp60 _ _).ex
      exact ⟨k, H1, h1⟩
    · cases h
  · cases h)
end Go.Det.Q

/- Lists of things to come; which comes ahead. -/
namespace Go.Det.Q
open Go Go.Det Go.Proofs
set_option maxRecDepth 4000
set_option maxHeartbeats 4000000
set_option linter.unusedVariables false
set_option linter.unusedSimpArgs false
theorem wrapI {x : Int} (h : -9223372036854775808 ≤ x ∧ x < 9223372036854775808) : IntKind.i64.wrap x = x := by
  unfold IntKind.wrap
  simp [IntKind.signed, IntKind.bits]
  omega
theorem wrapNat {k : Nat} (h : k < 9223372036854775807) : IntKind.i64.wrap ((k : Int) + 1) = ((k + 1 : Nat) : Int) := by
  rw [wrapI (by omega)]; rfl
def kOf (st : DSt) (s : Nat) : Nat := ((intOf (st.env.getD s undefD)).getD 0).toNat
theorem cmpI_zero (x y : Int) : cmpI x y = 0 ↔ x = y := by unfold cmpI; split <;> (try split) <;> omega
theorem cmpI_neg (x y : Int) : cmpI x y < 0 ↔ x < y := by unfold cmpI; split <;> (try split) <;> omega
theorem cmpL_cons (x y : Int) (xs ys : List Int) : cmpL (x :: xs) (y :: ys) = if cmpI x y = 0 then cmpL xs ys else cmpI x y := rfl
theorem cmpL_neg : ∀ (xs ys : List Int) (x y : Int), cmpL (x :: xs) (y :: ys) < 0 ↔ x < y ∨ (x = y ∧ cmpL xs ys < 0) := by
  intro xs ys x y
  rw [cmpL_cons]
  split
  · rename_i h; rw [cmpI_zero] at h; omega
  · rename_i h; rw [cmpI_zero] at h; rw [cmpI_neg]; omega
theorem cmpL_nil : cmpL [] [] = 0 := rfl
theorem cmpL_asym : ∀ (xs ys : List Int), cmpL xs ys < 0 → ¬ cmpL ys xs < 0
  | [], [], h => by simp [cmpL] at h
  | [], _ :: _, h => by simp [cmpL] at h
  | _ :: _, [], h => by simp [cmpL] at h
  | x :: xs, y :: ys, h => by
    rw [cmpL_neg] at h ⊢
    have := cmpL_asym xs ys
    omega
theorem cmpL_total : ∀ (xs ys : List Int), xs.length = ys.length → (¬ cmpL xs ys < 0 ∧ ¬ cmpL ys xs < 0 ↔ xs = ys)
  | [], [], _ => by simp [cmpL]
  | [], _ :: _, h => by simp at h
  | _ :: _, [], h => by simp at h
  | x :: xs, y :: ys, h => by
    have ih := cmpL_total xs ys (by simpa using h)
    rw [cmpL_neg, cmpL_neg, List.cons.injEq, ← ih]
    omega
theorem cmpL_trans : ∀ (xs ys zs : List Int), cmpL xs ys < 0 → cmpL ys zs < 0 → cmpL xs zs < 0
  | [], _, _, h, _ => by simp [cmpL] at h
  | _ :: _, [], _, h, _ => by simp [cmpL] at h
  | _ :: _, _ :: _, [], _, h => by simp [cmpL] at h
  | x :: xs, y :: ys, z :: zs, h, k => by
    rw [cmpL_neg] at *
    have := cmpL_trans xs ys zs
    omega
theorem key_inj {x y : Item} (h : x.key = y.key) : x = y := by
  cases x; cases y
  simp only [Item.key, List.cons.injEq] at h
  obtain ⟨rfl, rfl, rfl, rfl, rfl, rfl, _⟩ := h
  rfl
theorem ilt_asym {x y : Item} (h : ilt x y = true) : ilt y x = false := by
  unfold ilt at *
  simpa using cmpL_asym _ _ (by simpa using h)
theorem ilt_irrefl (x : Item) : ilt x x = false := by
  cases h : ilt x x
  · rfl
  · rw [ilt_asym h] at h; cases h
theorem ilt_trans {x y z : Item} (h : ilt x y = true) (k : ilt y z = true) : ilt x z = true := by
  unfold ilt at *
  simpa using cmpL_trans _ _ _ (by simpa using h) (by simpa using k)
theorem ilt_total {x y : Item} (h : ilt x y = false) (k : ilt y x = false) : x = y := by
  unfold ilt at *
  exact key_inj ((cmpL_total x.key y.key rfl).mp ⟨by simpa using h, by simpa using k⟩)
theorem nlt_trans {x y z : Item} (h : ilt y x = false) (k : ilt z y = false) : ilt z x = false := by
  cases e : ilt z x
  · rfl
  · cases f : ilt x y
    · have := ilt_total f h; subst this; rw [e] at k; cases k
    · rw [ilt_trans e f] at k; cases k
def gLess : G := fun args H => match args with
  | [.agg x, .agg y] => match itemOf x, itemOf y with
    | some x, some y => some (.bool (ilt x y), H)
    | _, _ => none
  | _ => none
theorem gLess_at (x y : Item) (H : DH) : gLess [.agg x.cells, .agg y.cells] H = some (.bool (ilt x y), H) := rfl
def E2 : List (FuncId × G) := [(15, gLive), (34, gLive), (72, g72), (73, g73), (74, g74), (60, g60)]
theorem okE2 : ∀ f g, (f, g) ∈ E2 → ExtSound Try.prog g f := by
  intro f g h
  simp only [E2, List.mem_cons, List.not_mem_nil, or_false, Prod.mk.injEq] at h
  rcases h with ⟨rfl, rfl⟩ | ⟨rfl, rfl⟩ | ⟨rfl, rfl⟩ | ⟨rfl, rfl⟩ | ⟨rfl, rfl⟩ | ⟨rfl, rfl⟩
  · exact live15_ok
  · exact live34_ok
  · exact ok72
  · exact ok73
  · exact ok74
  · exact ok60
def X2 : Ext := Xof L E2
theorem okX2 : ProgOk Try.prog X2 := progOk_of2 mixed okL push_code okE2
theorem less33 (x y : Item) : CallWp Try.prog X2 33 [.agg x.cells, .agg y.cells] H0 (fun r _ => r = .bool (ilt x y)) := by
  refine enter rfl Try.func33 rfl Try.ntmps33 rfl ?_
  dsimp only [List.cons_append, List.nil_append, List.length_cons, List.length_nil, List.replicate_succ, List.replicate_zero, Nat.reduceAdd, Nat.reduceSub]
  repeat' (first
    | dsimp only [putD, DV.cells, DH.new_next, DH.set_next, List.length_cons, List.length_nil, Nat.reduceAdd, List.set_cons_zero, List.set_cons_succ, getD_zero, getD_succ, fieldAt_zero, fieldAt_succ, thenD, blockD, retR]
    | apply dwp_seq
    | apply dwp_region
    | apply ops_nil
    | (apply ops_plain; (· exact rfl))
    | (apply op_call; (· exact rfl); (· exact rfl); (· exact rfl); refine call_table (g := g60) rfl rfl ?_)
    | (apply op_load_at; (· exact rfl); (· exact rfl); (· repeat (first | with_reducible assumption | (with_reducible apply obj_here; with_reducible rfl) | with_reducible apply obj_set | (with_reducible apply obj_skip_lo; (· ((repeat (first | with_reducible assumption | with_reducible apply Lo.self | with_reducible apply Lo.new | with_reducible apply Lo.set | with_reducible apply Lo.self1 | with_reducible apply Lo.self2)); done))) | (with_reducible apply obj_past; (· ((first | with_reducible assumption | with_reducible apply ne_add1 | with_reducible apply ne_add1' | with_reducible apply ne_add2 | with_reducible apply ne_add2' | with_reducible apply ne_add12 | with_reducible apply ne_add21 | (with_reducible apply Lo.ne; (repeat (first | with_reducible assumption | with_reducible apply Lo.self | with_reducible apply Lo.new | with_reducible apply Lo.set | with_reducible apply Lo.self1 | with_reducible apply Lo.self2)); done) | (with_reducible apply Lo.ne1; (repeat (first | with_reducible assumption | with_reducible apply Lo.self | with_reducible apply Lo.new | with_reducible apply Lo.set | with_reducible apply Lo.self1 | with_reducible apply Lo.self2)); done) | (with_reducible apply Lo.ne'; (repeat (first | with_reducible assumption | with_reducible apply Lo.self | with_reducible apply Lo.new | with_reducible apply Lo.set | with_reducible apply Lo.self1 | with_reducible apply Lo.self2)); done) | (with_reducible apply Lo.ne1'; (repeat (first | with_reducible assumption | with_reducible apply Lo.self | with_reducible apply Lo.new | with_reducible apply Lo.set | with_reducible apply Lo.self1 | with_reducible apply Lo.self2)); done)); done))) | exact obj_here rfl)); (· exact rfl); (· exact rfl))
    | (apply op_at; (· exact rfl))
    | apply dwp_ret
    | (refine ⟨_, rfl, ?_⟩)
    | fail)
  rfl
theorem rless20 (x y : Item) : CallWp Try.prog X2 20 [.agg x.cells, .agg y.cells] H0 (fun r _ => r = .bool (ilt x y)) := by
  refine enter rfl Try.func20 rfl Try.ntmps20 rfl ?_
  dsimp only [List.cons_append, List.nil_append, List.length_cons, List.length_nil, List.replicate_succ, List.replicate_zero, Nat.reduceAdd, Nat.reduceSub]
  repeat' (first
    | dsimp only [putD, DV.cells, DH.new_next, DH.set_next, List.length_cons, List.length_nil, Nat.reduceAdd, List.set_cons_zero, List.set_cons_succ, getD_zero, getD_succ, fieldAt_zero, fieldAt_succ, thenD, blockD, retR]
    | apply dwp_seq
    | apply dwp_region
    | apply ops_nil
    | (apply ops_plain; (· exact rfl))
    | (apply op_load_at; (· exact rfl); (· exact rfl); (· repeat (first | with_reducible assumption | (with_reducible apply obj_here; with_reducible rfl) | with_reducible apply obj_set | (with_reducible apply obj_skip_lo; (· ((repeat (first | with_reducible assumption | with_reducible apply Lo.self | with_reducible apply Lo.new | with_reducible apply Lo.set | with_reducible apply Lo.self1 | with_reducible apply Lo.self2)); done))) | (with_reducible apply obj_past; (· ((first | with_reducible assumption | with_reducible apply ne_add1 | with_reducible apply ne_add1' | with_reducible apply ne_add2 | with_reducible apply ne_add2' | with_reducible apply ne_add12 | with_reducible apply ne_add21 | (with_reducible apply Lo.ne; (repeat (first | with_reducible assumption | with_reducible apply Lo.self | with_reducible apply Lo.new | with_reducible apply Lo.set | with_reducible apply Lo.self1 | with_reducible apply Lo.self2)); done) | (with_reducible apply Lo.ne1; (repeat (first | with_reducible assumption | with_reducible apply Lo.self | with_reducible apply Lo.new | with_reducible apply Lo.set | with_reducible apply Lo.self1 | with_reducible apply Lo.self2)); done) | (with_reducible apply Lo.ne'; (repeat (first | with_reducible assumption | with_reducible apply Lo.self | with_reducible apply Lo.new | with_reducible apply Lo.set | with_reducible apply Lo.self1 | with_reducible apply Lo.self2)); done) | (with_reducible apply Lo.ne1'; (repeat (first | with_reducible assumption | with_reducible apply Lo.self | with_reducible apply Lo.new | with_reducible apply Lo.set | with_reducible apply Lo.self1 | with_reducible apply Lo.self2)); done)); done))) | exact obj_here rfl)); (· exact rfl); (· exact rfl))
    | (apply op_at; (· exact rfl))
    | (refine dwp_cond rfl ?_ ?_ <;> intro hb)
    | apply dwp_skip
    | apply dwp_ret
    | (refine ⟨_, rfl, ?_⟩)
    | fail)
  all_goals refine congrArg DV.bool ?_
  all_goals rw [Bool.eq_iff_iff]
  all_goals simp only [ilt, Item.key, cmpL_neg, decide_eq_true_eq, cmpL_nil] at *
  all_goals simp only [bne_iff_ne, ne_eq, bne_eq_false_iff_eq, Bool.not_eq_true] at *
  all_goals omega
theorem ok33 : ExtSound Try.prog gLess 33 := ext_closed okX2 Try.func33 rfl rfl (by
  intro args H r H' h
  unfold gLess at h
  split at h
  · split at h
    · rename_i hx hy
      cases h
      cases cells_itemOf hx; cases cells_itemOf hy
      refine ⟨rfl, by simp [DV.closeds, DV.closed, closed_cells], rfl, ?_⟩
      obtain ⟨k, r, H1, h1, rfl⟩ := (less33 _ _).ex
      exact ⟨k, H1, h1⟩
    · cases h
  · cases h)
theorem ok20 : ExtSound Try.prog gLess 20 := ext_closed okX2 Try.func20 rfl rfl (by
  intro args H r H' h
  unfold gLess at h
  split at h
  · split at h
    · rename_i hx hy
      cases h
      cases cells_itemOf hx; cases cells_itemOf hy
      refine ⟨rfl, by simp [DV.closeds, DV.closed, closed_cells], rfl, ?_⟩
      obtain ⟨k, r, H1, h1, rfl⟩ := (rless20 _ _).ex
      exact ⟨k, H1, h1⟩
    · cases h
  · cases h)
/-- A slice of things. -/
structure It (H : DH) (p : Option (Nat × Nat × Nat)) (c : Nat) (ex : Bool) (l : List Item) : Prop where
  sl : Sl H 6 (l.map Item.cells) p
  nil : p = none → c = 0 ∧ ex = true
  len : l.length ≤ maxLen
  cap : l.length ≤ c
theorem It.mono {H H' : DH} {p : Option (Nat × Nat × Nat)} {c : Nat} {ex : Bool} {l : List Item} (h : It H p c ex l) (k : Above H H') : It H' p c ex l := ⟨h.sl.mono k, h.nil, h.len, h.cap⟩
theorem It.nil0 (H : DH) : It H none 0 true [] := ⟨.nil rfl, fun _ => ⟨rfl, rfl⟩, by decide, Nat.le_refl _⟩
def itemsL : List (List DV) → Option (List Item)
  | [] => some []
  | r :: rs => match itemOf r, itemsL rs with
    | some x, some l => some (x :: l)
    | _, _ => none
theorem itemsL_map : ∀ (l : List Item), itemsL (l.map Item.cells) = some l
  | [] => rfl
  | x :: l => by simp only [List.map_cons, itemsL, itemOf_cells, itemsL_map l]
theorem map_itemsL : ∀ {rs : List (List DV)} {l : List Item}, itemsL rs = some l → rs = l.map Item.cells
  | [], l, h => by simp only [itemsL] at h; cases h; rfl
  | r :: rs, l, h => by
    simp only [itemsL] at h
    split at h
    · rename_i x l' h1 h2
      cases h
      rw [cells_itemOf h1, map_itemsL h2]
      rfl
    · cases h
/-- The things that a slice holds. -/
def itemsOf (H : DH) : DV → Option (List Item)
  | .sl none n c ex => if n = 0 ∧ c = 0 ∧ ex = true then some [] else none
  | .sl (some (a, i, z)) n c ex => match H.obj a with
    | some (.rows ro sz rs) => if sz = 6 ∧ z = 6 ∧ i + n ≤ rs.length ∧ n ≤ maxLen ∧ n ≤ c then itemsL ((rs.drop i).take n) else none
    | _ => none
  | _ => none
theorem It.of {H : DH} {p : Option (Nat × Nat × Nat)} {c : Nat} {ex : Bool} {l : List Item} (h : It H p c ex l) : itemsOf H (.sl p l.length c ex) = some l := by
  obtain ⟨h1, h2, h3, h4⟩ := h
  generalize hR : l.map Item.cells = R at h1
  have hl : R.length = l.length := by rw [← hR, List.length_map]
  cases h1 with
  | nil h =>
    obtain ⟨rfl, rfl⟩ := h2 rfl
    subst h
    have : l = [] := by simpa using hR
    subst this
    rfl
  | «at» a1 a2 a3 a4 =>
    simp only [itemsOf, a2]
    rw [if_pos ⟨trivial, trivial, by omega, h3, h4⟩, ← hl, a4, ← hR]
    exact itemsL_map l
theorem items_it {H : DH} (hw : WF H) {s : DV} {l : List Item} (h : itemsOf H s = some l) : ∃ p c ex, s = .sl p l.length c ex ∧ It H p c ex l := by
  unfold itemsOf at h
  split at h
  · rename_i n c ex
    split at h
    · rename_i hc
      obtain ⟨rfl, rfl, rfl⟩ := hc
      cases h
      exact ⟨none, 0, true, rfl, .nil0 H⟩
    · cases h
  · rename_i a i z n c ex
    split at h
    · rename_i ro sz rs ho
      split at h
      · rename_i hc
        obtain ⟨rfl, rfl, h1, h2, h3⟩ := hc
        have hm := map_itemsL h
        have hlen : l.length = n := by
          have := congrArg List.length hm
          rw [List.length_map, List.length_take, List.length_drop] at this
          omega
        subst hlen
        refine ⟨_, _, _, rfl, .at (hw _ _ ho) ho (by rw [List.length_map]; exact h1) (by rw [List.length_map]; exact hm), fun h => (by cases h), h2, h3⟩
      · cases h
    · cases h
  · cases h
/-- A slice of one's own. -/
theorem it_of_mine {A H : DH} {l : List Item} {s : DV} (h : Mine A H 6 (l.map Item.cells) s) (hm : l.length ≤ maxLen) : ∃ p c ex, s = .sl p l.length c ex ∧ It H p c ex l := by
  generalize hR : l.map Item.cells = R at h
  have hl : R.length = l.length := by rw [← hR, List.length_map]
  cases h with
  | nil h => exact ⟨none, 0, true, by rw [← hl, h]; rfl, .nil (by rw [hR, h]), fun _ => ⟨rfl, rfl⟩, hm, by rw [← hl, h]; exact Nat.le_refl _⟩
  | empty h h1 h2 h3 => exact ⟨_, _, _, by rw [← hl, h]; rfl, .at h1 h2 (by rw [hR, h]; simpa using h3) (by rw [hR, h]; simp), fun h => (by cases h), hm, by rw [← hl, h]; exact Nat.le_refl _⟩
  | «at» h1 h2 h3 => exact ⟨_, _, _, by rw [hl], .at h2 h3 (by rw [hR]; omega) (by rw [hR, List.drop_zero, List.take_length]), fun h => (by cases h), hm, by omega⟩
def Its (H : DH) (s : DV) (l : List Item) : Prop := ∃ p c ex, s = .sl p l.length c ex ∧ It H p c ex l
theorem Its.mono {H H' : DH} {s : DV} {l : List Item} (h : Its H s l) (k : Above H H') : Its H' s l := by
  obtain ⟨p, c, ex, h1, h2⟩ := h
  exact ⟨p, c, ex, h1, h2.mono k⟩
theorem Its.nil (H : DH) : Its H (.sl none 0 0 true) [] := ⟨none, 0, true, rfl, .nil0 H⟩
/-- Where a thing lies. -/
theorem It.rd {H : DH} {p : Option (Nat × Nat × Nat)} {c : Nat} {ex : Bool} {l : List Item} (h : It H p c ex l) {k : Nat} {x : Item} (hk : l[k]? = some x) : ∃ loc i ro rs, p = some (loc, i, 6) ∧ loc < H.next ∧ H.obj loc = some (.rows ro 6 rs) ∧ rs[i + k]? = some x.cells :=
  h.sl.rd (by rw [List.getElem?_map, hk]; rfl)
end Go.Det.Q

/- Whether a list is a heap, two are the same, where a number stands. -/
namespace Go.Det.Q
open Go Go.Det Go.Proofs
set_option maxRecDepth 4000
set_option maxHeartbeats 4000000
set_option linter.unusedVariables false
set_option linter.unusedSimpArgs false
def E3 : List (FuncId × G) := [(33, gLess), (20, gLess), (60, g60), (15, gLive), (34, gLive), (72, g72), (73, g73), (74, g74)]
theorem okE3 : ∀ f g, (f, g) ∈ E3 → ExtSound Try.prog g f := by
  intro f g h
  simp only [E3, List.mem_cons, List.not_mem_nil, or_false, Prod.mk.injEq] at h
  rcases h with ⟨rfl, rfl⟩ | ⟨rfl, rfl⟩ | ⟨rfl, rfl⟩ | ⟨rfl, rfl⟩ | ⟨rfl, rfl⟩ | ⟨rfl, rfl⟩ | ⟨rfl, rfl⟩ | ⟨rfl, rfl⟩
  · exact ok33
  · exact ok20
  · exact ok60
  · exact live15_ok
  · exact live34_ok
  · exact ok72
  · exact ok73
  · exact ok74
def X3 : Ext := Xof L E3
theorem okX3 : ProgOk Try.prog X3 := progOk_of2 mixed okL push_code okE3
theorem less_call {x y : Item} {H : DH} {K : DV → DH → Prop} (h : K (.bool (ilt x y)) H) : CallWp Try.prog X3 33 [.agg x.cells, .agg y.cells] H K := call_table (g := gLess) rfl rfl h
theorem rless_call {x y : Item} {H : DH} {K : DV → DH → Prop} (h : K (.bool (ilt x y)) H) : CallWp Try.prog X3 20 [.agg x.cells, .agg y.cells] H K := call_table (g := gLess) rfl rfl h
theorem item_part (x : Item) : partD Try.prog 26 x.cells 0 = some (.agg x.cells) := rfl
def badAt (l : List Item) (i : Nat) : Bool := match l[i]?, l[(i - 1) / 2]? with
  | some x, some y => ilt x y
  | _, _ => false
def heapB (l : List Item) : Bool := (List.range l.length).all fun i => i == 0 || !badAt l i
def checkB (l : List Item) : Bool := heapB l && decide (l.length ≤ 4096)
theorem badAt_at {l : List Item} {i : Nat} {x y : Item} (hx : l[i]? = some x) (hy : l[(i - 1) / 2]? = some y) : badAt l i = ilt x y := by unfold badAt; rw [hx, hy]
theorem heapB_iff {l : List Item} : heapB l = true ↔ ∀ i, 0 < i → i < l.length → badAt l i = false := by
  unfold heapB
  rw [List.all_eq_true]
  constructor
  · intro h i h0 hi
    have := h i (List.mem_range.mpr hi)
    simpa [show i ≠ 0 by omega] using this
  · intro h i hi
    by_cases h0 : i = 0
    · simp [h0]
    · simp [h i (by omega) (List.mem_range.mp hi)]
theorem heapB_false {l : List Item} {i : Nat} (h0 : 0 < i) (hi : i < l.length) (h : badAt l i = true) : heapB l = false := by
  cases e : heapB l
  · rfl
  · rw [heapB_iff.mp e i h0 hi] at h; cases h
theorem check17 (H : DH) (p : Option (Nat × Nat × Nat)) (c : Nat) (ex : Bool) (l : List Item) (hl : It H p c ex l) :
    CallWp Try.prog X3 17 [.sl p l.length c ex] H (fun r H' => r = .bool (checkB l) ∧ H' = H) := by
  have hlen : l.length ≤ 9223372036854775807 := hl.len
  have hw0 : DV.int .i64 (IntKind.i64.wrap ((l.length : Int) - 1)) = .int .i64 ((l.length : Int) - 1) := by rw [wrapI (by omega)]
  refine enter rfl Try.func17 rfl Try.ntmps17 rfl ?_
  dsimp only [List.cons_append, List.nil_append, List.length_cons, List.length_nil, List.replicate_succ, List.replicate_zero, Nat.reduceAdd, Nat.reduceSub]
  repeat' (first
    | dsimp only [putD, DV.cells, DH.new_next, DH.set_next, List.length_cons, List.length_nil, Nat.reduceAdd, List.set_cons_zero, List.set_cons_succ, getD_zero, getD_succ, fieldAt_zero, fieldAt_succ, thenD, blockD, retR]
    | apply dwp_seq
    | apply dwp_region
    | apply ops_nil
    | (apply ops_plain; (· exact rfl))
    | (apply op_at; (· exact opD_int rfl rfl rfl rfl hw0))
    | (apply op_at; (· exact rfl))
    | apply dwp_block
    | fail)
  refine dwp_loop (fun st => ∃ (k : Nat) (z : Int), ∃ J : Nat → DV, (z = (k : Int) - 1 ∧ k ≤ l.length ∧ ∀ i, k ≤ i → i < l.length → badAt l i = false) ∧ st = ⟨[.sl p l.length c ex, J 1, J 2, .int .i64 z, J 4, J 5, J 6, J 7, J 8, J 9, J 10, J 11, J 12, J 13, J 14, J 15, J 16, J 17, J 18, J 19, J 20, J 21, J 22, J 23, J 24], H⟩) (fun st => kOf st 3) (⟨l.length, _, junk_facts (⟨rfl, Nat.le_refl _, fun i h1 h2 => absurd h2 (by omega)⟩) rfl rfl⟩) ?_
  rintro st ⟨k, z, J, ⟨hz, hk, hrest⟩, rfl⟩
  by_cases hk2 : 2 ≤ k
  · obtain ⟨j, rfl⟩ : ∃ j, k = j + 2 := ⟨k - 2, by omega⟩
    obtain rfl : z = ((j + 1 : Nat) : Int) := by omega
    obtain ⟨x, hx⟩ : ∃ x, l[j + 1]? = some x := ⟨l[j + 1]'(by omega), List.getElem?_eq_getElem _⟩
    obtain ⟨y, hy⟩ : ∃ y, l[j / 2]? = some y := ⟨l[j / 2]'(by omega), List.getElem?_eq_getElem _⟩
    obtain ⟨loc, i0, ro, rs, rfl, hloc, ho, hrx⟩ := hl.rd hx
    obtain ⟨loc', i0', ro', rs', he, _, ho', hry⟩ := hl.rd hy
    cases he
    rw [ho] at ho'; cases ho'
    have hr1 : rs[i0 + (((j + 1 : Nat) : Int)).toNat]? = some x.cells := by rw [Int.toNat_natCast]; exact hrx
    have hr2 : rs[i0 + (((j / 2 : Nat) : Int)).toNat]? = some y.cells := by rw [Int.toNat_natCast]; exact hry
    have hc : decide (((j + 1 : Nat) : Int) > 0) = true := by simp only [decide_eq_true_eq]; omega
    have hin1 : 0 ≤ ((j + 1 : Nat) : Int) ∧ ((j + 1 : Nat) : Int) < (l.length : Int) := by omega
    have hin2 : 0 ≤ ((j / 2 : Nat) : Int) ∧ ((j / 2 : Nat) : Int) < (l.length : Int) := by omega
    have hv1 : DV.int .i64 (IntKind.i64.wrap (((j + 1 : Nat) : Int) - 1)) = .int .i64 ((j : Nat) : Int) := by rw [wrapI (by omega), show ((j + 1 : Nat) : Int) - 1 = ((j : Nat) : Int) by omega]
    have hv2 : DV.int .i64 (IntKind.i64.wrap (((j : Nat) : Int).tdiv 2)) = .int .i64 ((j / 2 : Nat) : Int) := by rw [wrapI (by rw [Int.tdiv_eq_ediv_of_nonneg (by omega)]; omega), Int.tdiv_eq_ediv_of_nonneg (by omega)]; rfl
    have hbad : badAt l (j + 1) = ilt x y := badAt_at hx (by rw [Nat.add_sub_cancel]; exact hy)
    repeat' (first
      | dsimp only [putD, DV.cells, DH.new_next, DH.set_next, List.length_cons, List.length_nil, Nat.reduceAdd, List.set_cons_zero, List.set_cons_succ, getD_zero, getD_succ, fieldAt_zero, fieldAt_succ, thenD, blockD, retR]
      | (apply drawc_pure; (· (first | exact wanted_plain rfl | (apply wanted_on; (· exact rfl); (· exact rfl); (· (first | with_reducible assumption | with_reducible rfl | decide))))); (· exact rfl); (· exact rfl); (· exact opD_index rfl rfl rfl rfl rfl hin1))
      | (apply drawc_pure; (· (first | exact wanted_plain rfl | (apply wanted_on; (· exact rfl); (· exact rfl); (· (first | with_reducible assumption | with_reducible rfl | decide))))); (· exact rfl); (· exact rfl); (· exact opD_index rfl rfl rfl rfl rfl hin2))
      | (apply drawc_pure; (· (first | exact wanted_plain rfl | (apply wanted_on; (· exact rfl); (· exact rfl); (· (first | with_reducible assumption | with_reducible rfl | decide))))); (· exact rfl); (· exact rfl); (· exact opD_int rfl rfl rfl rfl hv1))
      | (apply drawc_pure; (· (first | exact wanted_plain rfl | (apply wanted_on; (· exact rfl); (· exact rfl); (· (first | with_reducible assumption | with_reducible rfl | decide))))); (· exact rfl); (· exact rfl); (· exact opD_int rfl rfl rfl rfl hv2))
      | (apply drawc_read_at; (· exact rfl); (· (first | exact wanted_plain rfl | (apply wanted_on; (· exact rfl); (· exact rfl); (· (first | with_reducible assumption | with_reducible rfl | decide))))); (· exact rfl); (· exact ho); (· with_reducible exact hr1); (· exact item_part x); (· decide +kernel))
      | (apply drawc_read_at; (· exact rfl); (· (first | exact wanted_plain rfl | (apply wanted_on; (· exact rfl); (· exact rfl); (· (first | with_reducible assumption | with_reducible rfl | decide))))); (· exact rfl); (· exact ho); (· with_reducible exact hr2); (· exact item_part y); (· decide +kernel))
      | apply dwp_seq
      | apply dwp_region
      | apply ops_nil
      | (apply ops_plain; (· exact rfl))
      | (apply op_at; (· exact opD_int rfl rfl rfl rfl hv1))
      | (apply op_at; (· exact rfl))
      | refine dwp_drawc _ rfl ?_
      | apply drawc_nil
      | (apply drawc_pure; (· (first | exact wanted_plain rfl | (apply wanted_on; (· exact rfl); (· exact rfl); (· (first | with_reducible assumption | with_reducible rfl | decide))))); (· exact rfl); (· exact rfl); (· exact rfl))
      | (apply drawc_same; (· (first | exact wanted_plain rfl | (apply wanted_on; (· exact rfl); (· exact rfl); (· (first | with_reducible assumption | with_reducible rfl | decide))))); (· exact rfl); (· decide +kernel); (first | (apply op_call; (· exact rfl); (· exact rfl); (· exact rfl); refine less_call ?_; refine ⟨rfl, ?_⟩)))
      | (apply dwp_cond_t; (· exact rfl); (· (first | with_reducible assumption | with_reducible rfl | decide)))
      | (refine dwp_cond rfl ?_ ?_ <;> intro hb)
      | apply dwp_block
      | apply dwp_skip
      | apply dwp_ret
      | (refine ⟨_, rfl, ?_⟩)
      | fail)
    · refine ⟨?_, rfl⟩
      have : heapB l = false := heapB_false (i := j + 1) (by omega) (by omega) (by rw [hbad]; exact hb)
      unfold checkB
      rw [this]
      rfl
    · refine ⟨⟨j + 1, _, junk_facts (⟨by omega, by omega, fun i h1 h2 => ?_⟩) rfl rfl⟩, ?_⟩
      · by_cases e : i = j + 1
        · subst e; rw [hbad]; exact hb
        · exact hrest i (by omega) h2
      · show ((j : Nat) : Int).toNat < ((j + 1 : Nat) : Int).toNat
        omega
  · have hc : decide (z > 0) = false := by simp; omega
    have hh : heapB l = true := heapB_iff.mpr fun i h0 hi => hrest i (by omega) hi
    repeat' (first
      | dsimp only [putD, DV.cells, DH.new_next, DH.set_next, List.length_cons, List.length_nil, Nat.reduceAdd, List.set_cons_zero, List.set_cons_succ, getD_zero, getD_succ, fieldAt_zero, fieldAt_succ, thenD, blockD, retR]
      | apply dwp_seq
      | apply dwp_region
      | apply ops_nil
      | (apply ops_plain; (· exact rfl))
      | (apply op_at; (· exact rfl))
      | (apply dwp_cond_f; (· exact rfl); (· (first | with_reducible assumption | with_reducible rfl | decide)))
      | apply dwp_ret
      | apply dwp_exit
      | (refine ⟨_, rfl, ?_⟩)
      | fail)
    refine ⟨?_, rfl⟩
    unfold checkB
    rw [hh]
    show DV.bool (decide ((l.length : Int) ≤ 4096)) = DV.bool (decide (l.length ≤ 4096))
    congr 1
    rw [Bool.eq_iff_iff]
    simp only [decide_eq_true_eq]
    omega
end Go.Det.Q

/- Whether a list is a heap, by the document's reference; two are the same; where a number stands. -/
namespace Go.Det.Q
open Go Go.Det Go.Proofs
set_option maxRecDepth 4000
set_option maxHeartbeats 4000000
set_option linter.unusedVariables false
set_option linter.unusedSimpArgs false
theorem rcheck18 (H : DH) (p : Option (Nat × Nat × Nat)) (c : Nat) (ex : Bool) (l : List Item) (hl : It H p c ex l) :
    CallWp Try.prog X3 18 [.sl p l.length c ex] H (fun r H' => r = .bool (checkB l) ∧ H' = H) := by
  have hlen : l.length ≤ 9223372036854775807 := hl.len
  refine enter rfl Try.func18 rfl Try.ntmps18 rfl ?_
  dsimp only [List.cons_append, List.nil_append, List.length_cons, List.length_nil, List.replicate_succ, List.replicate_zero, Nat.reduceAdd, Nat.reduceSub]
  repeat' (first
    | dsimp only [putD, DV.cells, DH.new_next, DH.set_next, List.length_cons, List.length_nil, Nat.reduceAdd, List.set_cons_zero, List.set_cons_succ, getD_zero, getD_succ, fieldAt_zero, fieldAt_succ, thenD, blockD, retR]
    | apply dwp_seq
    | apply dwp_region
    | apply ops_nil
    | (apply ops_plain; (· exact rfl))
    | (apply op_at; (· exact rfl))
    | apply dwp_block
    | fail)
  refine dwp_loop (fun st => ∃ (k : Nat), ∃ J : Nat → DV, (k ≤ l.length ∧ ∀ i, 0 < i → i < k → badAt l i = false) ∧ st = ⟨[.sl p l.length c ex, J 1, J 2, J 3, J 4, .int .i64 l.length, .int .i64 (k : Int), J 7, J 8, J 9, J 10, J 11, J 12, J 13, J 14, J 15, J 16, J 17, J 18, J 19, J 20, J 21, J 22, J 23, J 24, J 25, J 26, J 27], H⟩) (fun st => l.length - kOf st 6) (⟨0, junk_facts (⟨Nat.zero_le _, fun i h1 h2 => absurd h2 (by omega)⟩) rfl rfl⟩) ?_
  rintro st ⟨k, J, ⟨hk, hbef⟩, rfl⟩
  by_cases hlt : k < l.length
  · have hc : decide ((k : Int) < (l.length : Int)) = true := by simp [hlt]
    have hw := wrapNat (k := k) (by omega)
    cases k with
    | zero =>
      have hc0 : decide (((0 : Nat) : Int) > 0) = false := by simp
      repeat' (first
        | dsimp only [putD, DV.cells, DH.new_next, DH.set_next, List.length_cons, List.length_nil, Nat.reduceAdd, List.set_cons_zero, List.set_cons_succ, getD_zero, getD_succ, fieldAt_zero, fieldAt_succ, thenD, blockD, retR]
        | apply dwp_seq
        | apply dwp_region
        | apply ops_nil
        | (apply ops_plain; (· exact rfl))
        | (apply op_at; (· exact rfl))
        | refine dwp_drawc _ rfl ?_
        | apply drawc_nil
        | (apply drawc_pick_f; (· (first | exact wanted_plain rfl | (apply wanted_on; (· exact rfl); (· exact rfl); (· (first | with_reducible assumption | with_reducible rfl | decide))))); (· exact rfl); (· exact rfl); (· (first | with_reducible assumption | with_reducible rfl | decide)); (· exact rfl))
        | (apply drawc_pure; (· (first | exact wanted_plain rfl | (apply wanted_on; (· exact rfl); (· exact rfl); (· (first | with_reducible assumption | with_reducible rfl | decide))))); (· exact rfl); (· exact rfl); (· exact rfl))
        | (apply drawc_off; (· (first | (apply wanted_off1; (· exact rfl); (· exact rfl); (· (first | with_reducible assumption | with_reducible rfl | decide))) | (apply wanted_off0; (· exact rfl); (· exact rfl); (· (first | with_reducible assumption | with_reducible rfl | decide))) | (apply wanted_none; (· exact rfl); (· exact rfl)))))
        | (apply dwp_cond_t; (· exact rfl); (· (first | with_reducible assumption | with_reducible rfl | decide)))
        | (apply dwp_cond_f; (· exact rfl); (· (first | with_reducible assumption | with_reducible rfl | decide)))
        | apply dwp_block
        | apply dwp_skip
        | fail)
      rw [hw]
      refine ⟨⟨1, junk_facts (⟨by omega, fun i h1 h2 => by omega⟩) rfl rfl⟩, ?_⟩
      show l.length - ((1 : Nat) : Int).toNat < l.length - ((0 : Nat) : Int).toNat
      omega
    | succ j =>
      obtain ⟨x, hx⟩ : ∃ x, l[j + 1]? = some x := ⟨l[j + 1]'(by omega), List.getElem?_eq_getElem _⟩
      obtain ⟨y, hy⟩ : ∃ y, l[j / 2]? = some y := ⟨l[j / 2]'(by omega), List.getElem?_eq_getElem _⟩
      obtain ⟨loc, i0, ro, rs, rfl, hloc, ho, hrx⟩ := hl.rd hx
      obtain ⟨loc', i0', ro', rs', he, _, ho', hry⟩ := hl.rd hy
      cases he
      rw [ho] at ho'; cases ho'
      have hr1 : rs[i0 + (((j + 1 : Nat) : Int)).toNat]? = some x.cells := by rw [Int.toNat_natCast]; exact hrx
      have hr2 : rs[i0 + (((j / 2 : Nat) : Int)).toNat]? = some y.cells := by rw [Int.toNat_natCast]; exact hry
      have hc0 : decide (((j + 1 : Nat) : Int) > 0) = true := by simp only [decide_eq_true_eq]; omega
      have hin1 : 0 ≤ ((j + 1 : Nat) : Int) ∧ ((j + 1 : Nat) : Int) < (l.length : Int) := by omega
      have hin2 : 0 ≤ ((j / 2 : Nat) : Int) ∧ ((j / 2 : Nat) : Int) < (l.length : Int) := by omega
      have hv1 : DV.int .i64 (IntKind.i64.wrap (((j + 1 : Nat) : Int) - 1)) = .int .i64 ((j : Nat) : Int) := by rw [wrapI (by omega), show ((j + 1 : Nat) : Int) - 1 = ((j : Nat) : Int) by omega]
      have hv2 : DV.int .i64 (IntKind.i64.wrap (((j : Nat) : Int).tdiv 2)) = .int .i64 ((j / 2 : Nat) : Int) := by rw [wrapI (by rw [Int.tdiv_eq_ediv_of_nonneg (by omega)]; omega), Int.tdiv_eq_ediv_of_nonneg (by omega)]; rfl
      have hbad : badAt l (j + 1) = ilt x y := badAt_at hx (by rw [Nat.add_sub_cancel]; exact hy)
      repeat' (first
        | dsimp only [putD, DV.cells, DH.new_next, DH.set_next, List.length_cons, List.length_nil, Nat.reduceAdd, List.set_cons_zero, List.set_cons_succ, getD_zero, getD_succ, fieldAt_zero, fieldAt_succ, thenD, blockD, retR]
        | (apply drawc_pure; (· (first | exact wanted_plain rfl | (apply wanted_on; (· exact rfl); (· exact rfl); (· (first | with_reducible assumption | with_reducible rfl | decide))))); (· exact rfl); (· exact rfl); (· exact opD_index rfl rfl rfl rfl rfl hin1))
        | (apply drawc_pure; (· (first | exact wanted_plain rfl | (apply wanted_on; (· exact rfl); (· exact rfl); (· (first | with_reducible assumption | with_reducible rfl | decide))))); (· exact rfl); (· exact rfl); (· exact opD_index rfl rfl rfl rfl rfl hin2))
        | (apply drawc_pure; (· (first | exact wanted_plain rfl | (apply wanted_on; (· exact rfl); (· exact rfl); (· (first | with_reducible assumption | with_reducible rfl | decide))))); (· exact rfl); (· exact rfl); (· exact opD_int rfl rfl rfl rfl hv1))
        | (apply drawc_pure; (· (first | exact wanted_plain rfl | (apply wanted_on; (· exact rfl); (· exact rfl); (· (first | with_reducible assumption | with_reducible rfl | decide))))); (· exact rfl); (· exact rfl); (· exact opD_int rfl rfl rfl rfl hv2))
        | (apply drawc_read_at; (· exact rfl); (· (first | exact wanted_plain rfl | (apply wanted_on; (· exact rfl); (· exact rfl); (· (first | with_reducible assumption | with_reducible rfl | decide))))); (· exact rfl); (· exact ho); (· with_reducible exact hr1); (· exact item_part x); (· decide +kernel))
        | (apply drawc_read_at; (· exact rfl); (· (first | exact wanted_plain rfl | (apply wanted_on; (· exact rfl); (· exact rfl); (· (first | with_reducible assumption | with_reducible rfl | decide))))); (· exact rfl); (· exact ho); (· with_reducible exact hr2); (· exact item_part y); (· decide +kernel))
        | apply dwp_seq
        | apply dwp_region
        | apply ops_nil
        | (apply ops_plain; (· exact rfl))
        | (apply op_at; (· exact rfl))
        | refine dwp_drawc _ rfl ?_
        | apply drawc_nil
        | (apply drawc_pick_t; (· (first | exact wanted_plain rfl | (apply wanted_on; (· exact rfl); (· exact rfl); (· (first | with_reducible assumption | with_reducible rfl | decide))))); (· exact rfl); (· exact rfl); (· (first | with_reducible assumption | with_reducible rfl | decide)); (· exact rfl))
        | (apply drawc_pure; (· (first | exact wanted_plain rfl | (apply wanted_on; (· exact rfl); (· exact rfl); (· (first | with_reducible assumption | with_reducible rfl | decide))))); (· exact rfl); (· exact rfl); (· exact rfl))
        | (apply drawc_same; (· (first | exact wanted_plain rfl | (apply wanted_on; (· exact rfl); (· exact rfl); (· (first | with_reducible assumption | with_reducible rfl | decide))))); (· exact rfl); (· decide +kernel); (first | (apply op_call; (· exact rfl); (· exact rfl); (· exact rfl); refine rless_call ?_; refine ⟨rfl, ?_⟩)))
        | (apply dwp_cond_t; (· exact rfl); (· (first | with_reducible assumption | with_reducible rfl | decide)))
        | (refine dwp_cond rfl ?_ ?_ <;> intro hb)
        | apply dwp_block
        | apply dwp_skip
        | apply dwp_ret
        | (refine ⟨_, rfl, ?_⟩)
        | fail)
      · refine ⟨?_, rfl⟩
        have : heapB l = false := heapB_false (i := j + 1) (by omega) (by omega) (by rw [hbad]; exact hb)
        unfold checkB
        rw [this]
        rfl
      · skip
        rw [hw]
        refine ⟨⟨j + 1 + 1, junk_facts (⟨by omega, fun i h1 h2 => ?_⟩) rfl rfl⟩, ?_⟩
        · by_cases e : i = j + 1
          · subst e; rw [hbad]; exact hb
          · exact hbef i h1 (by omega)
        · show l.length - ((j + 1 + 1 : Nat) : Int).toNat < l.length - ((j + 1 : Nat) : Int).toNat
          omega
  · have hc : decide ((k : Int) < (l.length : Int)) = false := by simp; omega
    have hh : heapB l = true := heapB_iff.mpr fun i h0 hi => hbef i h0 (by omega)
    repeat' (first
      | dsimp only [putD, DV.cells, DH.new_next, DH.set_next, List.length_cons, List.length_nil, Nat.reduceAdd, List.set_cons_zero, List.set_cons_succ, getD_zero, getD_succ, fieldAt_zero, fieldAt_succ, thenD, blockD, retR]
      | apply dwp_seq
      | apply dwp_region
      | apply ops_nil
      | (apply ops_plain; (· exact rfl))
      | (apply op_at; (· exact rfl))
      | (apply dwp_cond_f; (· exact rfl); (· (first | with_reducible assumption | with_reducible rfl | decide)))
      | apply dwp_ret
      | apply dwp_exit
      | (refine ⟨_, rfl, ?_⟩)
      | fail)
    refine ⟨?_, rfl⟩
    unfold checkB
    rw [hh]
    show DV.bool (decide ((l.length : Int) ≤ 4096)) = DV.bool (decide (l.length ≤ 4096))
    congr 1
    rw [Bool.eq_iff_iff]
    simp only [decide_eq_true_eq]
    omega
theorem eqItem (x y : Item) : eqD Try.prog 26 (.agg x.cells) (.agg y.cells) = some (decide (x = y)) := by
  have h : eqD Try.prog 26 (.agg x.cells) (.agg y.cells) = andO (x.a == y.a) (andO (x.c == y.c) (andO (x.s == y.s) (andO (x.w == y.w) (andO (x.h == y.h) (andO (x.n == y.n) (some true)))))) := by kernel_rfl
  rw [h]
  simp only [andO_some]
  refine congrArg some ?_
  rw [Bool.eq_iff_iff]
  cases x; cases y
  simp
theorem rsame21 (H : DH) (p p' : Option (Nat × Nat × Nat)) (c c' : Nat) (ex ex' : Bool) (l m : List Item) (hl : It H p c ex l) (hm : It H p' c' ex' m) :
    CallWp Try.prog X3 21 [.sl p l.length c ex, .sl p' m.length c' ex'] H (fun r H' => r = .bool (decide (l = m)) ∧ H' = H) := by
  have hlen : l.length ≤ 9223372036854775807 := hl.len
  by_cases hne : ((l.length : Int) != (m.length : Int)) = true
  · skip
    refine enter rfl Try.func21 rfl Try.ntmps21 rfl ?_
    dsimp only [List.cons_append, List.nil_append, List.length_cons, List.length_nil, List.replicate_succ, List.replicate_zero, Nat.reduceAdd, Nat.reduceSub]
    repeat' (first
      | dsimp only [putD, DV.cells, DH.new_next, DH.set_next, List.length_cons, List.length_nil, Nat.reduceAdd, List.set_cons_zero, List.set_cons_succ, getD_zero, getD_succ, fieldAt_zero, fieldAt_succ, thenD, blockD, retR]
      | apply dwp_seq
      | apply dwp_region
      | apply ops_nil
      | (apply ops_plain; (· exact rfl))
      | (apply op_at; (· exact rfl))
      | (apply dwp_cond_t; (· exact rfl); (· (first | with_reducible assumption | with_reducible rfl | decide)))
      | apply dwp_ret
      | (refine ⟨_, rfl, ?_⟩)
      | fail)
    refine ⟨?_, rfl⟩
    have : ¬ l = m := fun e => by subst e; simp at hne
    simp [this]
  · have hne' : ((l.length : Int) != (m.length : Int)) = false := by simpa using hne
    have hlm : l.length = m.length := by simp at hne'; omega
    refine enter rfl Try.func21 rfl Try.ntmps21 rfl ?_
    dsimp only [List.cons_append, List.nil_append, List.length_cons, List.length_nil, List.replicate_succ, List.replicate_zero, Nat.reduceAdd, Nat.reduceSub]
    repeat' (first
      | dsimp only [putD, DV.cells, DH.new_next, DH.set_next, List.length_cons, List.length_nil, Nat.reduceAdd, List.set_cons_zero, List.set_cons_succ, getD_zero, getD_succ, fieldAt_zero, fieldAt_succ, thenD, blockD, retR]
      | apply dwp_seq
      | apply dwp_region
      | apply ops_nil
      | (apply ops_plain; (· exact rfl))
      | (apply op_at; (· exact rfl))
      | (apply dwp_cond_f; (· exact rfl); (· (first | with_reducible assumption | with_reducible rfl | decide)))
      | apply dwp_block
      | apply dwp_skip
      | fail)
    refine dwp_loop (fun st => ∃ (k : Nat), ∃ J : Nat → DV, (k ≤ l.length ∧ ∀ i, i < k → l[i]? = m[i]?) ∧ st = ⟨[.sl p l.length c ex, .sl p' m.length c' ex', J 2, J 3, J 4, J 5, J 6, J 7, J 8, J 9, J 10, J 11, .int .i64 l.length, .int .i64 (k : Int), J 14, J 15, J 16, J 17, J 18, J 19, J 20, J 21, J 22, J 23, J 24, J 25], H⟩) (fun st => l.length - kOf st 13) (⟨0, junk_facts (⟨Nat.zero_le _, fun i h2 => absurd h2 (by omega)⟩) rfl rfl⟩) ?_
    rintro st ⟨k, J, ⟨hk, hbef⟩, rfl⟩
    by_cases hlt : k < l.length
    · obtain ⟨x, hx⟩ : ∃ x, l[k]? = some x := ⟨l[k], List.getElem?_eq_getElem hlt⟩
      obtain ⟨y, hy⟩ : ∃ y, m[k]? = some y := ⟨m[k]'(by omega), List.getElem?_eq_getElem _⟩
      obtain ⟨loc, i0, ro, rs, rfl, hloc, ho, hrx⟩ := hl.rd hx
      obtain ⟨loc', i0', ro', rs', rfl, hloc', ho', hry⟩ := hm.rd hy
      have hr1 : rs[i0 + ((k : Int)).toNat]? = some x.cells := by rw [Int.toNat_natCast]; exact hrx
      have hr2 : rs'[i0' + ((k : Int)).toNat]? = some y.cells := by rw [Int.toNat_natCast]; exact hry
      have hc : decide ((k : Int) < (l.length : Int)) = true := by simp [hlt]
      have hin1 : 0 ≤ (k : Int) ∧ (k : Int) < (l.length : Int) := by omega
      have hin2 : 0 ≤ (k : Int) ∧ (k : Int) < (m.length : Int) := by omega
      have hw := wrapNat (k := k) (by omega)
      repeat' (first
        | dsimp only [putD, DV.cells, DH.new_next, DH.set_next, List.length_cons, List.length_nil, Nat.reduceAdd, List.set_cons_zero, List.set_cons_succ, getD_zero, getD_succ, fieldAt_zero, fieldAt_succ, thenD, blockD, retR]
        | (apply drawc_pure; (· (first | exact wanted_plain rfl | (apply wanted_on; (· exact rfl); (· exact rfl); (· (first | with_reducible assumption | with_reducible rfl | decide))))); (· exact rfl); (· exact rfl); (· exact opD_index rfl rfl rfl rfl rfl hin1))
        | (apply drawc_pure; (· (first | exact wanted_plain rfl | (apply wanted_on; (· exact rfl); (· exact rfl); (· (first | with_reducible assumption | with_reducible rfl | decide))))); (· exact rfl); (· exact rfl); (· exact opD_index rfl rfl rfl rfl rfl hin2))
        | (apply drawc_read_at; (· exact rfl); (· (first | exact wanted_plain rfl | (apply wanted_on; (· exact rfl); (· exact rfl); (· (first | with_reducible assumption | with_reducible rfl | decide))))); (· exact rfl); (· exact ho); (· with_reducible exact hr1); (· exact item_part x); (· decide +kernel))
        | (apply drawc_read_at; (· exact rfl); (· (first | exact wanted_plain rfl | (apply wanted_on; (· exact rfl); (· exact rfl); (· (first | with_reducible assumption | with_reducible rfl | decide))))); (· exact rfl); (· exact ho'); (· with_reducible exact hr2); (· exact item_part y); (· decide +kernel))
        | (apply drawc_pure; (· (first | exact wanted_plain rfl | (apply wanted_on; (· exact rfl); (· exact rfl); (· (first | with_reducible assumption | with_reducible rfl | decide))))); (· exact rfl); (· exact rfl); (· exact opD_neql rfl rfl rfl (eqItem x y)))
        | apply dwp_seq
        | apply dwp_region
        | apply ops_nil
        | (apply ops_plain; (· exact rfl))
        | (apply op_at; (· exact rfl))
        | refine dwp_drawc _ rfl ?_
        | apply drawc_nil
        | (apply drawc_pure; (· (first | exact wanted_plain rfl | (apply wanted_on; (· exact rfl); (· exact rfl); (· (first | with_reducible assumption | with_reducible rfl | decide))))); (· exact rfl); (· exact rfl); (· exact rfl))
        | (apply dwp_cond_t; (· exact rfl); (· (first | with_reducible assumption | with_reducible rfl | decide)))
        | (refine dwp_cond rfl ?_ ?_ <;> intro hb)
        | apply dwp_block
        | apply dwp_skip
        | apply dwp_ret
        | (refine ⟨_, rfl, ?_⟩)
        | fail)
      · refine ⟨?_, rfl⟩
        have hxy : ¬ x = y := by simpa using hb
        have : ¬ l = m := fun e => by subst e; rw [hx] at hy; cases hy; exact hxy rfl
        simp [this]
      · have hxy : x = y := by simpa using hb
        rw [hw]
        refine ⟨⟨k + 1, junk_facts (⟨by omega, fun i h2 => ?_⟩) rfl rfl⟩, ?_⟩
        · by_cases e : i = k
          · subst e; rw [hx, hy, hxy]
          · exact hbef i (by omega)
        · show l.length - ((k + 1 : Nat) : Int).toNat < l.length - (k : Int).toNat
          omega
    · have hc : decide ((k : Int) < (l.length : Int)) = false := by simp; omega
      repeat' (first
        | dsimp only [putD, DV.cells, DH.new_next, DH.set_next, List.length_cons, List.length_nil, Nat.reduceAdd, List.set_cons_zero, List.set_cons_succ, getD_zero, getD_succ, fieldAt_zero, fieldAt_succ, thenD, blockD, retR]
        | apply dwp_seq
        | apply dwp_region
        | apply ops_nil
        | (apply ops_plain; (· exact rfl))
        | (apply op_at; (· exact rfl))
        | (apply dwp_cond_f; (· exact rfl); (· (first | with_reducible assumption | with_reducible rfl | decide)))
        | apply dwp_ret
        | apply dwp_exit
        | (refine ⟨_, rfl, ?_⟩)
        | fail)
      refine ⟨?_, rfl⟩
      have : l = m := by
        apply List.ext_getElem?
        intro i
        by_cases hi : i < k
        · exact hbef i hi
        · rw [List.getElem?_eq_none (by omega), List.getElem?_eq_none (by omega)]
      simp [this]
theorem rfind32 (H : DH) (p : Option (Nat × Nat × Nat)) (c : Nat) (ex : Bool) (l : List Item) (hl : It H p c ex l) (q : Int) :
    CallWp Try.prog X3 32 [.sl p l.length c ex, .int .u64 q] H (fun r H' => r = (match l.findIdx? (fun x => x.s == q) with | some k => .tuple [.int .i64 (k : Int), .bool true] | none => .tuple [.int .i64 0, .bool false]) ∧ Above H H') := by
  have hlen : l.length ≤ 9223372036854775807 := hl.len
  refine enter rfl Try.func32 rfl Try.ntmps32 rfl ?_
  dsimp only [List.cons_append, List.nil_append, List.length_cons, List.length_nil, List.replicate_succ, List.replicate_zero, Nat.reduceAdd, Nat.reduceSub]
  repeat' (first
    | dsimp only [putD, DV.cells, DH.new_next, DH.set_next, List.length_cons, List.length_nil, Nat.reduceAdd, List.set_cons_zero, List.set_cons_succ, getD_zero, getD_succ, fieldAt_zero, fieldAt_succ, thenD, blockD, retR]
    | apply dwp_seq
    | apply dwp_region
    | apply ops_nil
    | (apply ops_plain; (· exact rfl))
    | (apply op_at; (· exact rfl))
    | apply dwp_block
    | fail)
  refine dwp_loop (fun st => ∃ (Hk : DH) (k : Nat), ∃ J : Nat → DV, (k ≤ l.length ∧ Above H Hk ∧ ∀ (i : Nat) (x : Item), i < k → l[i]? = some x → (x.s == q) = false) ∧ st = ⟨[.sl p l.length c ex, .int .u64 q, J 2, J 3, J 4, J 5, J 6, J 7, .sl p l.length c ex, .int .i64 l.length, .int .i64 (k : Int), J 11, J 12, J 13, J 14, J 15, J 16, J 17, J 18, J 19, J 20], Hk⟩) (fun st => l.length - kOf st 10) (⟨H, 0, junk_facts (⟨Nat.zero_le _, Above.refl H, fun i x h2 => absurd h2 (by omega)⟩) rfl rfl⟩) ?_
  rintro st ⟨Hk, k, J, ⟨hk, hab, hbef⟩, rfl⟩
  by_cases hlt : k < l.length
  · obtain ⟨x, hx⟩ : ∃ x, l[k]? = some x := ⟨l[k], List.getElem?_eq_getElem hlt⟩
    obtain ⟨loc, i0, ro, rs, rfl, hloc, ho, hrx⟩ := hl.rd hx
    have ho1 := hab.obj hloc ho
    have hr1 : rs[i0 + ((k : Int)).toNat]? = some x.cells := by rw [Int.toNat_natCast]; exact hrx
    have hc : decide ((k : Int) < (l.length : Int)) = true := by simp [hlt]
    have hin1 : 0 ≤ (k : Int) ∧ (k : Int) < (l.length : Int) := by omega
    have hw := wrapNat (k := k) (by omega)
    repeat' (first
      | dsimp only [putD, DV.cells, DH.new_next, DH.set_next, List.length_cons, List.length_nil, Nat.reduceAdd, List.set_cons_zero, List.set_cons_succ, getD_zero, getD_succ, fieldAt_zero, fieldAt_succ, thenD, blockD, retR]
      | apply dwp_seq
      | apply dwp_region
      | apply ops_nil
      | (apply ops_plain; (· exact rfl))
      | (apply op_index_at; (· exact rfl); (· exact rfl); (· exact rfl); (· with_reducible exact hin1); (· exact rfl); (· exact rfl))
      | (apply op_load_at; (· exact rfl); (· exact rfl); (· with_reducible exact ho1); (· with_reducible exact hr1); (· exact item_part x))
      | (apply op_load_at; (· exact rfl); (· exact rfl); (· repeat (first | with_reducible assumption | (with_reducible apply obj_here; with_reducible rfl) | with_reducible apply obj_set | (with_reducible apply obj_skip_lo; (· ((repeat (first | with_reducible assumption | with_reducible apply Lo.self | with_reducible apply Lo.new | with_reducible apply Lo.set | with_reducible apply Lo.self1 | with_reducible apply Lo.self2)); done))) | (with_reducible apply obj_past; (· ((first | with_reducible assumption | with_reducible apply ne_add1 | with_reducible apply ne_add1' | with_reducible apply ne_add2 | with_reducible apply ne_add2' | with_reducible apply ne_add12 | with_reducible apply ne_add21 | (with_reducible apply Lo.ne; (repeat (first | with_reducible assumption | with_reducible apply Lo.self | with_reducible apply Lo.new | with_reducible apply Lo.set | with_reducible apply Lo.self1 | with_reducible apply Lo.self2)); done) | (with_reducible apply Lo.ne1; (repeat (first | with_reducible assumption | with_reducible apply Lo.self | with_reducible apply Lo.new | with_reducible apply Lo.set | with_reducible apply Lo.self1 | with_reducible apply Lo.self2)); done) | (with_reducible apply Lo.ne'; (repeat (first | with_reducible assumption | with_reducible apply Lo.self | with_reducible apply Lo.new | with_reducible apply Lo.set | with_reducible apply Lo.self1 | with_reducible apply Lo.self2)); done) | (with_reducible apply Lo.ne1'; (repeat (first | with_reducible assumption | with_reducible apply Lo.self | with_reducible apply Lo.new | with_reducible apply Lo.set | with_reducible apply Lo.self1 | with_reducible apply Lo.self2)); done)); done))) | exact obj_here rfl)); (· exact rfl); (· exact rfl))
      | (apply op_store_at; (· exact rfl); (· exact rfl); (· exact rfl); (· repeat (first | with_reducible assumption | (with_reducible apply obj_here; with_reducible rfl) | with_reducible apply obj_set | (with_reducible apply obj_skip_lo; (· ((repeat (first | with_reducible assumption | with_reducible apply Lo.self | with_reducible apply Lo.new | with_reducible apply Lo.set | with_reducible apply Lo.self1 | with_reducible apply Lo.self2)); done))) | (with_reducible apply obj_past; (· ((first | with_reducible assumption | with_reducible apply ne_add1 | with_reducible apply ne_add1' | with_reducible apply ne_add2 | with_reducible apply ne_add2' | with_reducible apply ne_add12 | with_reducible apply ne_add21 | (with_reducible apply Lo.ne; (repeat (first | with_reducible assumption | with_reducible apply Lo.self | with_reducible apply Lo.new | with_reducible apply Lo.set | with_reducible apply Lo.self1 | with_reducible apply Lo.self2)); done) | (with_reducible apply Lo.ne1; (repeat (first | with_reducible assumption | with_reducible apply Lo.self | with_reducible apply Lo.new | with_reducible apply Lo.set | with_reducible apply Lo.self1 | with_reducible apply Lo.self2)); done) | (with_reducible apply Lo.ne'; (repeat (first | with_reducible assumption | with_reducible apply Lo.self | with_reducible apply Lo.new | with_reducible apply Lo.set | with_reducible apply Lo.self1 | with_reducible apply Lo.self2)); done) | (with_reducible apply Lo.ne1'; (repeat (first | with_reducible assumption | with_reducible apply Lo.self | with_reducible apply Lo.new | with_reducible apply Lo.set | with_reducible apply Lo.self1 | with_reducible apply Lo.self2)); done)); done))) | exact obj_here rfl)); (· exact rfl); (· exact rfl); (· exact rfl))
      | (apply op_at; (· exact rfl))
      | (apply dwp_cond_t; (· exact rfl); (· (first | with_reducible assumption | with_reducible rfl | decide)))
      | (refine dwp_cond rfl ?_ ?_ <;> intro hb)
      | apply dwp_block
      | apply dwp_skip
      | apply dwp_ret
      | (refine ⟨_, rfl, ?_⟩)
      | fail)
    · refine ⟨?_, hab.trans (((Above.refl Hk).new _).set (Nat.le_refl _) _)⟩
      have : l.findIdx? (fun x => x.s == q) = some k := by
        obtain ⟨hk', rfl⟩ := List.getElem?_eq_some_iff.mp hx
        rw [List.findIdx?_eq_some_iff_getElem]
        exact ⟨hk', hb, fun j hj => by rw [hbef j _ hj (List.getElem?_eq_getElem (by omega))]; simp⟩
      rw [this]
      rfl
    · rw [hw]
      refine ⟨⟨_, k + 1, junk_facts (⟨by omega, hab.trans (((Above.refl Hk).new _).set (Nat.le_refl _) _), fun i y h1 h2 => ?_⟩) rfl rfl⟩, ?_⟩
      · by_cases e : i = k
        · subst e; rw [hx] at h2; cases h2; exact hb
        · exact hbef i y (by omega) h2
      · show l.length - ((k + 1 : Nat) : Int).toNat < l.length - (k : Int).toNat
        omega
  · have hc : decide ((k : Int) < (l.length : Int)) = false := by simp; omega
    repeat' (first
      | dsimp only [putD, DV.cells, DH.new_next, DH.set_next, List.length_cons, List.length_nil, Nat.reduceAdd, List.set_cons_zero, List.set_cons_succ, getD_zero, getD_succ, fieldAt_zero, fieldAt_succ, thenD, blockD, retR]
      | apply dwp_seq
      | apply dwp_region
      | apply ops_nil
      | (apply ops_plain; (· exact rfl))
      | (apply op_at; (· exact rfl))
      | (apply dwp_cond_f; (· exact rfl); (· (first | with_reducible assumption | with_reducible rfl | decide)))
      | apply dwp_ret
      | apply dwp_exit
      | (refine ⟨_, rfl, ?_⟩)
      | fail)
    refine ⟨?_, hab⟩
    have : l.findIdx? (fun x => x.s == q) = none := by
      rw [List.findIdx?_eq_none_iff]
      intro y hy
      obtain ⟨j, hj, rfl⟩ := List.getElem_of_mem hy
      exact hbef j _ (by omega) (List.getElem?_eq_getElem hj)
    rw [this]
    rfl
def gCheck : G := fun args H => match args with
  | [s] => match itemsOf H s with
    | some l => some (.bool (checkB l), H)
    | none => none
  | _ => none
def gSame : G := fun args H => match args with
  | [s, t] => match itemsOf H s, itemsOf H t with
    | some l, some m => some (.bool (decide (l = m)), H)
    | _, _ => none
  | _ => none
def gFind : G := fun args H => match args with
  | [s, .int .u64 q] => match itemsOf H s with
    | some l => some ((match l.findIdx? (fun x => x.s == q) with | some k => .tuple [.int .i64 (k : Int), .bool true] | none => .tuple [.int .i64 0, .bool false]), H)
    | none => none
  | _ => none
theorem ok17 : ExtSound Try.prog gCheck 17 := ext_read okX3 Try.func17 rfl rfl (by
  intro args H r H' hw h
  unfold gCheck at h
  split at h
  · rename_i s
    split at h
    · rename_i l hl
      cases h
      obtain ⟨p, c, ex, rfl, hi⟩ := items_it hw hl
      exact ⟨rfl, rfl, (check17 H p c ex l hi).mono fun r' H1 ⟨h1, h2⟩ => ⟨h1, by rw [h2]; exact Above.refl H⟩⟩
    · cases h
  · cases h)
theorem ok18 : ExtSound Try.prog gCheck 18 := ext_read okX3 Try.func18 rfl rfl (by
  intro args H r H' hw h
  unfold gCheck at h
  split at h
  · rename_i s
    split at h
    · rename_i l hl
      cases h
      obtain ⟨p, c, ex, rfl, hi⟩ := items_it hw hl
      exact ⟨rfl, rfl, (rcheck18 H p c ex l hi).mono fun r' H1 ⟨h1, h2⟩ => ⟨h1, by rw [h2]; exact Above.refl H⟩⟩
    · cases h
  · cases h)
theorem ok21 : ExtSound Try.prog gSame 21 := ext_read okX3 Try.func21 rfl rfl (by
  intro args H r H' hw h
  unfold gSame at h
  split at h
  · rename_i s t
    split at h
    · rename_i l m hl hm
      cases h
      obtain ⟨p, c, ex, rfl, hi⟩ := items_it hw hl
      obtain ⟨p', c', ex', rfl, hi'⟩ := items_it hw hm
      exact ⟨rfl, rfl, (rsame21 H p p' c c' ex ex' l m hi hi').mono fun r' H1 ⟨h1, h2⟩ => ⟨h1, by rw [h2]; exact Above.refl H⟩⟩
    · cases h
  · cases h)
theorem ok32 : ExtSound Try.prog gFind 32 := ext_read okX3 Try.func32 rfl rfl (by
  intro args H r H' hw h
  unfold gFind at h
  split at h
  · rename_i s q
    split at h
    · rename_i l hl
      cases h
      obtain ⟨p, c, ex, rfl, hi⟩ := items_it hw hl
      refine ⟨rfl, ?_, rfind32 H p c ex l hi q⟩
      split <;> rfl
    · cases h
  · cases h)
theorem It.check {H : DH} {p : Option (Nat × Nat × Nat)} {c : Nat} {ex : Bool} {l : List Item} (h : It H p c ex l) : gCheck [.sl p l.length c ex] H = some (.bool (checkB l), H) := by simp only [gCheck, h.of]
theorem It.same {H : DH} {p p' : Option (Nat × Nat × Nat)} {c c' : Nat} {ex ex' : Bool} {l m : List Item} (h : It H p c ex l) (k : It H p' c' ex' m) : gSame [.sl p l.length c ex, .sl p' m.length c' ex'] H = some (.bool (decide (l = m)), H) := by simp only [gSame, h.of, k.of]
theorem It.find {H : DH} {p : Option (Nat × Nat × Nat)} {c : Nat} {ex : Bool} {l : List Item} (h : It H p c ex l) (q : Int) : gFind [.sl p l.length c ex, .int .u64 q] H = some ((match l.findIdx? (fun x => x.s == q) with | some k => .tuple [.int .i64 (k : Int), .bool true] | none => .tuple [.int .i64 0, .bool false]), H) := by simp only [gFind, h.of]
def E4 : List (FuncId × G) := [(17, gCheck), (18, gCheck), (21, gSame), (32, gFind), (33, gLess), (20, gLess), (60, g60), (15, gLive), (34, gLive), (72, g72), (73, g73), (74, g74)]
theorem okE4 : ∀ f g, (f, g) ∈ E4 → ExtSound Try.prog g f := by
  intro f g h
  simp only [E4, List.mem_cons, List.not_mem_nil, or_false, Prod.mk.injEq] at h
  rcases h with ⟨rfl, rfl⟩ | ⟨rfl, rfl⟩ | ⟨rfl, rfl⟩ | ⟨rfl, rfl⟩ | ⟨rfl, rfl⟩ | ⟨rfl, rfl⟩ | ⟨rfl, rfl⟩ | ⟨rfl, rfl⟩ | ⟨rfl, rfl⟩ | ⟨rfl, rfl⟩ | ⟨rfl, rfl⟩ | ⟨rfl, rfl⟩
  · exact ok17
  · exact ok18
  · exact ok21
  · exact ok32
  · exact ok33
  · exact ok20
  · exact ok60
  · exact live15_ok
  · exact live34_ok
  · exact ok72
  · exact ok73
  · exact ok74
def X4 : Ext := Xof L E4
end Go.Det.Q

/- A heap's thing taken up, or down. -/
namespace Go.Det.Q
open Go Go.Det Go.Proofs
set_option maxRecDepth 4000
set_option maxHeartbeats 4000000
set_option linter.unusedVariables false
set_option linter.unusedSimpArgs false
def itemZero : List DV := [.int .i64 0, .int .i64 0, .int .u64 0, .int .i64 0, .int .i64 0, .int .u64 0]
theorem E23 : ElemT Try.prog 23 26 6 48 (.agg itemZero) := ⟨by kernel_rfl, by kernel_rfl, by kernel_rfl, by kernel_rfl, by decide, by decide, rfl, rfl⟩
theorem E73 : ElemT Try.prog 73 26 6 48 (.agg itemZero) := ⟨by kernel_rfl, by kernel_rfl, by kernel_rfl, by kernel_rfl, by decide, by decide, rfl, rfl⟩
theorem cells_all (l : List Item) : (l.map Item.cells).all (fun r => r.length == 6 && r.all DV.one) = true := by
  rw [List.all_eq_true]
  intro r hr
  obtain ⟨a, _, rfl⟩ := List.mem_map.mp hr
  rfl
theorem It.appended {H : DH} {p : Option (Nat × Nat × Nat)} {c : Nat} {ex : Bool} {l : List Item} (h : It H p c ex l) {xt : Option TypeDesc} {t : TypeId} (hu : xt = some (.slice t)) : appendedD Try.prog 26 H xt (.sl p l.length c ex) = some (l.map Item.cells) := by
  have := appended_sl (P := Try.prog) (e := 26) hu h.sl c ex
  rw [List.length_map] at this
  exact this
/-- A slice of things, made since. -/
def ItsF (A H : DH) (s : DV) (l : List Item) : Prop := ∃ p c ex, s = .sl p l.length c ex ∧ It H p c ex l ∧ ∀ loc i z, p = some (loc, i, z) → A.next ≤ loc
theorem ItsF.its {A H : DH} {s : DV} {l : List Item} (h : ItsF A H s l) : Its H s l := by
  obtain ⟨p, c, ex, h1, h2, _⟩ := h
  exact ⟨p, c, ex, h1, h2⟩
theorem ItsF.mono {A H H' : DH} {s : DV} {l : List Item} (h : ItsF A H s l) (k : Above H H') : ItsF A H' s l := by
  obtain ⟨p, c, ex, h1, h2, h3⟩ := h
  exact ⟨p, c, ex, h1, h2.mono k, h3⟩
theorem ItsF.older {A B H : DH} {s : DV} {l : List Item} (h : ItsF A H s l) (k : B.next ≤ A.next) : ItsF B H s l := by
  obtain ⟨p, c, ex, h1, h2, h3⟩ := h
  exact ⟨p, c, ex, h1, h2, fun loc i z e => Nat.le_trans k (h3 loc i z e)⟩
theorem It.set {H : DH} {p : Option (Nat × Nat × Nat)} {c : Nat} {ex : Bool} {l : List Item} (h : It H p c ex l) (m : Nat) (o : Option DObj) (hm : ∀ loc i z, p = some (loc, i, z) → loc ≠ m) : It (H.set m o) p c ex l := ⟨h.sl.set m o hm, h.nil, h.len, h.cap⟩
theorem ItsF.set {A H : DH} {s : DV} {l : List Item} (h : ItsF A H s l) {m : Nat} {o : Option DObj} (k : m < A.next) : ItsF A (H.set m o) s l := by
  obtain ⟨p, c, ex, h1, h2, h3⟩ := h
  exact ⟨p, c, ex, h1, h2.set m o (fun loc i z e => by have := h3 loc i z e; omega), h3⟩
theorem clone54 (H : DH) (p : Option (Nat × Nat × Nat)) (c : Nat) (ex : Bool) (l : List Item) (hl : It H p c ex l) (hn : l.length ≤ 1000000) :
    CallWp Try.prog X4 54 [.sl p l.length c ex] H (fun r H' => Above H H' ∧ Mine H H' 6 (l.map Item.cells) r ∧ ∀ m, leads r m → H.next ≤ m) := by
  have hm : l.length ≤ mostD := by unfold mostD; omega
  cases p with
  | none =>
    have h0 : l = [] := by simpa using hl.sl.none_len
    subst h0
    refine enter rfl Try.func54 rfl Try.ntmps54 rfl ?_
    dsimp only [List.cons_append, List.nil_append, List.length_cons, List.length_nil, List.replicate_succ, List.replicate_zero, Nat.reduceAdd, Nat.reduceSub]
    repeat' (first
      | dsimp only [putD, DV.cells, DH.new_next, DH.set_next, List.length_cons, List.length_nil, Nat.reduceAdd, List.set_cons_zero, List.set_cons_succ, getD_zero, getD_succ, fieldAt_zero, fieldAt_succ, thenD, blockD, retR]
      | apply dwp_seq
      | apply dwp_region
      | apply ops_nil
      | (apply ops_plain; (· exact rfl))
      | (apply op_at; (· exact rfl))
      | (apply dwp_cond_t; (· exact rfl); (· (first | with_reducible assumption | with_reducible rfl | decide)))
      | apply dwp_ret
      | (refine ⟨_, rfl, ?_⟩)
      | fail)
    exact ⟨Above.refl H, .nil rfl, fun m h => by obtain ⟨_, _, _, _, _, e⟩ := h; cases e⟩
  | some q =>
    obtain ⟨loc, i, z⟩ := q
    have hab : Above H (H.new (.rows false 6 [])) := (Above.refl H).new _
    have hmine : Mine H (H.new (.rows false 6 [])) 6 [] (.sl (some (H.next, 0, 6)) 0 0 true) := .at (Nat.le_refl _) (Nat.lt_succ_self _) (obj_here rfl)
    by_cases hl0 : l = []
    · subst hl0
      refine enter rfl Try.func54 rfl Try.ntmps54 rfl ?_
      dsimp only [List.cons_append, List.nil_append, List.length_cons, List.length_nil, List.replicate_succ, List.replicate_zero, Nat.reduceAdd, Nat.reduceSub]
      repeat' (first
        | dsimp only [putD, DV.cells, DH.new_next, DH.set_next, List.length_cons, List.length_nil, Nat.reduceAdd, List.set_cons_zero, List.set_cons_succ, getD_zero, getD_succ, fieldAt_zero, fieldAt_succ, thenD, blockD, retR]
        | apply dwp_seq
        | apply dwp_region
        | apply ops_nil
        | (apply ops_plain; (· exact rfl))
        | (refine op_append_none (xt := 23) rfl rfl rfl E23 ((hl.mono hab).appended Try.underlying23) ?_)
        | (apply op_at; (· exact rfl))
        | (apply dwp_cond_f; (· exact rfl); (· (first | with_reducible assumption | with_reducible rfl | decide)))
        | apply dwp_skip
        | apply dwp_ret
        | (refine ⟨_, rfl, ?_⟩)
        | fail)
      exact ⟨hab, hmine, fun m h => leads_at h (Nat.le_refl _)⟩
    · skip
      refine enter rfl Try.func54 rfl Try.ntmps54 rfl ?_
      dsimp only [List.cons_append, List.nil_append, List.length_cons, List.length_nil, List.replicate_succ, List.replicate_zero, Nat.reduceAdd, Nat.reduceSub]
      repeat' (first
        | dsimp only [putD, DV.cells, DH.new_next, DH.set_next, List.length_cons, List.length_nil, Nat.reduceAdd, List.set_cons_zero, List.set_cons_succ, getD_zero, getD_succ, fieldAt_zero, fieldAt_succ, thenD, blockD, retR]
        | apply dwp_seq
        | apply dwp_region
        | apply ops_nil
        | (apply ops_plain; (· exact rfl))
        | (refine op_append (xt := 23) rfl rfl rfl E23 hmine hab ((hl.mono hab).appended Try.underlying23) (cells_all l) (by rw [List.length_map]; simpa using hm) ?_; intro s1 H1 hm1 hab1 hax1 hfr1)
        | (apply op_at; (· exact rfl))
        | (apply dwp_cond_f; (· exact rfl); (· (first | with_reducible assumption | with_reducible rfl | decide)))
        | apply dwp_skip
        | apply dwp_ret
        | (refine ⟨_, rfl, ?_⟩)
        | fail)
      exact ⟨hab1, hm1, fun m h => Nat.le_trans (Nat.le_succ _) (hfr1 (by simpa using hl0) m h)⟩
/-! ### up -/
def upL (l : List Item) (i : Nat) : List Item :=
  if h : 0 < i then
    match l[i]?, l[(i - 1) / 2]? with
    | some x, some y => if ilt x y then upL ((l.set i y).set ((i - 1) / 2) x) ((i - 1) / 2) else l
    | _, _ => l
  else l
termination_by i
theorem upL_zero (l : List Item) : upL l 0 = l := by unfold upL; simp
theorem upL_stop {l : List Item} {i : Nat} {x y : Item} (h : 0 < i) (hx : l[i]? = some x) (hy : l[(i - 1) / 2]? = some y) (hl : ilt x y = false) : upL l i = l := by
  unfold upL; rw [dif_pos h, hx, hy]; simp [hl]
theorem upL_go {l : List Item} {i : Nat} {x y : Item} (h : 0 < i) (hx : l[i]? = some x) (hy : l[(i - 1) / 2]? = some y) (hl : ilt x y = true) : upL l i = upL ((l.set i y).set ((i - 1) / 2) x) ((i - 1) / 2) := by
  conv => lhs; unfold upL
  rw [dif_pos h, hx, hy]; simp [hl]
theorem rows_at {l : List Item} {W : List (List DV)} {i : Nat} {x : Item} (hx : l[i]? = some x) : (l.map Item.cells ++ W)[i]? = some x.cells := by
  rw [List.getElem?_append_left (by rw [List.length_map]; exact (List.getElem?_eq_some_iff.mp hx).1), List.getElem?_map, hx]; rfl
theorem rows_set {l : List Item} {W : List (List DV)} {i : Nat} {x : Item} (hi : i < l.length) : (l.map Item.cells ++ W).set i x.cells = (l.set i x).map Item.cells ++ W := by
  rw [List.set_append_left _ _ (by rw [List.length_map]; exact hi), List.map_set]
theorem setRow_at {rs : List (List DV)} {i off : Nat} {r vs : List DV} (hr : rs[i]? = some r) (hv : off + vs.length ≤ r.length) (ho : vs.all DV.one = true) : setRow rs i off vs = some (rs.set i (splice r off vs)) := by
  simp only [setRow, hr]
  rw [if_pos ⟨hv, ho⟩]
theorem setRow_item {l : List Item} {W : List (List DV)} {i : Nat} {x y : Item} (hx : l[i]? = some x) : setRow (l.map Item.cells ++ W) i 0 y.cells = some ((l.set i y).map Item.cells ++ W) := by
  rw [setRow_at (rows_at hx) (Nat.le_of_ble_eq_true rfl) rfl, ← rows_set (List.getElem?_eq_some_iff.mp hx).1]
  rfl
theorem up55 (H : DH) (loc n c : Nat) (ex : Bool) (l : List Item) (W : List (List DV)) (i : Nat) (hloc : loc < H.next) (ho : H.obj loc = some (.rows false 6 (l.map Item.cells ++ W))) (hn : l.length = n) (hi : i < n) (hlen : n ≤ 1000000) :
    CallWp Try.prog X4 55 [.sl (some (loc, 0, 6)) n c ex, .int .i64 i] H (fun r H' => AboveX (fun m => m = loc) H H' ∧ H'.obj loc = some (.rows false 6 ((upL l i).map Item.cells ++ W))) := by
  refine enter rfl Try.func55 rfl Try.ntmps55 rfl ?_
  dsimp only [List.cons_append, List.nil_append, List.length_cons, List.length_nil, List.replicate_succ, List.replicate_zero, Nat.reduceAdd, Nat.reduceSub]
  apply dwp_block
  refine dwp_loop (fun st => ∃ (Hk : DH) (k : Nat) (lk : List Item), ∃ J : Nat → DV, (k < n ∧ lk.length = n ∧ upL lk k = upL l i ∧ Hk.obj loc = some (.rows false 6 (lk.map Item.cells ++ W)) ∧ AboveX (fun m => m = loc) H Hk) ∧ st = ⟨(.sl (some (loc, 0, 6)) n c ex :: .int .i64 (k : Int) :: J 2 :: J 3 :: J 4 :: J 5 :: J 6 :: J 7 :: J 8 :: J 9 :: J 10 :: J 11 :: J 12 :: J 13 :: J 14 :: J 15 :: J 16 :: J 17 :: J 18 :: J 19 :: J 20 :: J 21 :: J 22 :: J 23 :: J 24 :: J 25 :: J 26 :: J 27 :: J 28 :: J 29 :: J 30 :: J 31 :: J 32 :: J 33 :: J 34 :: []), Hk⟩) (fun st => kOf st 1) (⟨H, i, l, junk_facts (⟨hi, hn, rfl, ho, .refl H⟩) rfl rfl⟩) ?_
  rintro st ⟨Hk, k, lk, J, ⟨hk, hlk, hup, hobj, hab⟩, rfl⟩
  cases k with
  | zero =>
    have hc : decide (((0 : Nat) : Int) > 0) = false := by simp
    repeat' (first
      | dsimp only [putD, DV.cells, DH.new_next, DH.set_next, List.length_cons, List.length_nil, Nat.reduceAdd, List.set_cons_zero, List.set_cons_succ, getD_zero, getD_succ, fieldAt_zero, fieldAt_succ, thenD, blockD, retR]
      | apply dwp_seq
      | apply dwp_region
      | apply ops_nil
      | (apply ops_plain; (· exact rfl))
      | (apply op_at; (· exact rfl))
      | (apply dwp_cond_f; (· exact rfl); (· (first | with_reducible assumption | with_reducible rfl | decide)))
      | apply dwp_exit
      | (refine ⟨_, rfl, ?_⟩)
      | fail)
    refine ⟨hab, ?_⟩
    rw [hobj, ← hup, upL_zero]
  | succ j =>
    obtain ⟨x, hx⟩ : ∃ x, lk[j + 1]? = some x := ⟨lk[j + 1]'(by omega), List.getElem?_eq_getElem _⟩
    obtain ⟨y, hy⟩ : ∃ y, lk[j / 2]? = some y := ⟨lk[j / 2]'(by omega), List.getElem?_eq_getElem _⟩
    have hy' : lk[(j + 1 - 1) / 2]? = some y := by rw [Nat.add_sub_cancel]; exact hy
    have hr1 : (lk.map Item.cells ++ W)[0 + (((j + 1 : Nat) : Int)).toNat]? = some x.cells := by rw [Int.toNat_natCast, Nat.zero_add]; exact rows_at hx
    have hr2 : (lk.map Item.cells ++ W)[0 + (((j / 2 : Nat) : Int)).toNat]? = some y.cells := by rw [Int.toNat_natCast, Nat.zero_add]; exact rows_at hy
    have hc : decide (((j + 1 : Nat) : Int) > 0) = true := by simp only [decide_eq_true_eq]; omega
    have hin1 : 0 ≤ ((j + 1 : Nat) : Int) ∧ ((j + 1 : Nat) : Int) < (n : Int) := by omega
    have hin2 : 0 ≤ ((j / 2 : Nat) : Int) ∧ ((j / 2 : Nat) : Int) < (n : Int) := by omega
    have hv1 : DV.int .i64 (IntKind.i64.wrap (((j + 1 : Nat) : Int) - 1)) = .int .i64 ((j : Nat) : Int) := by rw [wrapI (by omega), show ((j + 1 : Nat) : Int) - 1 = ((j : Nat) : Int) by omega]
    have hv2 : DV.int .i64 (IntKind.i64.wrap (((j : Nat) : Int).tdiv 2)) = .int .i64 ((j / 2 : Nat) : Int) := by rw [wrapI (by rw [Int.tdiv_eq_ediv_of_nonneg (by omega)]; omega), Int.tdiv_eq_ediv_of_nonneg (by omega)]; rfl
    have hlo : Lo Hk loc := lo (Nat.lt_of_lt_of_le hloc hab.le)
    have hs1 : setRow (lk.map Item.cells ++ W) (0 + (((j + 1 : Nat) : Int)).toNat) 0 y.cells = some ((lk.set (j + 1) y).map Item.cells ++ W) := by rw [Int.toNat_natCast, Nat.zero_add]; exact setRow_item hx
    have hy2 : (lk.set (j + 1) y)[j / 2]? = some y := by rw [List.getElem?_set_ne (by omega)]; exact hy
    have hs2 : setRow ((lk.set (j + 1) y).map Item.cells ++ W) (0 + (((j / 2 : Nat) : Int)).toNat) 0 x.cells = some (((lk.set (j + 1) y).set (j / 2) x).map Item.cells ++ W) := by rw [Int.toNat_natCast, Nat.zero_add]; exact setRow_item hy2
    repeat' (first
      | dsimp only [putD, DV.cells, DH.new_next, DH.set_next, List.length_cons, List.length_nil, Nat.reduceAdd, List.set_cons_zero, List.set_cons_succ, getD_zero, getD_succ, fieldAt_zero, fieldAt_succ, thenD, blockD, retR]
      | apply dwp_seq
      | apply dwp_region
      | apply ops_nil
      | (apply ops_plain; (· exact rfl))
      | (apply op_call; (· exact rfl); (· exact rfl); (· exact rfl); refine call_table (g := gLess) rfl (gLess_at x y _) ?_)
      | (apply op_index_at; (· exact rfl); (· exact rfl); (· exact rfl); (· with_reducible exact hin1); (· exact rfl); (· exact rfl))
      | (apply op_index_at; (· exact rfl); (· exact rfl); (· exact rfl); (· with_reducible exact hin2); (· exact rfl); (· exact rfl))
      | (apply op_load_at; (· exact rfl); (· exact rfl); (· with_reducible exact hobj); (· with_reducible exact hr1); (· exact item_part x))
      | (apply op_load_at; (· exact rfl); (· exact rfl); (· with_reducible exact hobj); (· with_reducible exact hr2); (· exact item_part y))
      | (apply op_at; (· exact opD_int rfl rfl rfl rfl hv1))
      | (apply op_at; (· exact opD_int rfl rfl rfl rfl hv2))
      | (apply op_store_at; (· exact rfl); (· exact rfl); (· exact rfl); (· with_reducible exact hobj); (· exact hs1); (· exact rfl); (· exact rfl))
      | (apply op_store_at; (· exact rfl); (· exact rfl); (· exact rfl); (· with_reducible exact obj_set); (· exact hs2); (· exact rfl); (· exact rfl))
      | (apply op_at; (· exact rfl))
      | refine dwp_draw _ rfl ?_
      | apply draw_nil
      | (apply all_and; (· kernel_rfl))
      | (apply was_and; (· kernel_rfl))
      | (apply draw_pure; (· (first | exact wanted_plain rfl | (apply wanted_on; (· exact rfl); (· exact rfl); (· (first | with_reducible assumption | with_reducible rfl | decide))))); (· exact rfl); (· exact rfl))
      | (apply draw_read; (· (first | exact wanted_plain rfl | (apply wanted_on; (· exact rfl); (· exact rfl); (· (first | with_reducible assumption | with_reducible rfl | decide))))); (· exact rfl); (· exact rfl))
      | (apply draw_move; (· (first | exact wanted_plain rfl | (apply wanted_on; (· exact rfl); (· exact rfl); (· (first | with_reducible assumption | with_reducible rfl | decide))))); (· exact rfl))
      | (apply dwp_cond_t; (· exact rfl); (· (first | with_reducible assumption | with_reducible rfl | decide)))
      | (refine dwp_cond rfl ?_ ?_ <;> intro hb)
      | apply dwp_block
      | apply dwp_skip
      | apply dwp_ret
      | (refine ⟨_, rfl, ?_⟩)
      | fail)
    · refine ⟨hab, ?_⟩
      rw [hobj, ← hup, upL_stop (Nat.succ_pos j) hx hy' (by simpa using hb)]
    · have hlt : ilt x y = true := by simpa using hb
      refine ⟨⟨_, j / 2, _, junk_facts (⟨by omega, by simp [hlk], ?_, obj_set, (hab.trans (.set _ _ _ _ rfl)).trans (.set _ _ _ _ rfl)⟩) rfl rfl⟩, ?_⟩
      · rw [← hup, upL_go (Nat.succ_pos j) hx hy' hlt]
        rfl
      · show ((j / 2 : Nat) : Int).toNat < ((j + 1 : Nat) : Int).toNat
        omega
/-! ### down -/
def lessAt (l : List Item) (a b : Nat) : Bool := match l[a]?, l[b]? with
  | some x, some y => ilt x y
  | _, _ => false
theorem lessAt_at {l : List Item} {a b : Nat} {x y : Item} (hx : l[a]? = some x) (hy : l[b]? = some y) : lessAt l a b = ilt x y := by unfold lessAt; rw [hx, hy]
theorem lessAt_out {l : List Item} {a b : Nat} (h : l.length ≤ a) : lessAt l a b = false := by unfold lessAt; rw [List.getElem?_eq_none h]
def first1 (l : List Item) (i : Nat) : Nat := if lessAt l (2 * i + 1) i then 2 * i + 1 else i
def firstL (l : List Item) (i : Nat) : Nat := if lessAt l (2 * i + 2) (first1 l i) then 2 * i + 2 else first1 l i
def swapL (l : List Item) (i f : Nat) : List Item := match l[i]?, l[f]? with
  | some x, some y => (l.set i y).set f x
  | _, _ => l
theorem swapL_at {l : List Item} {i f : Nat} {x y : Item} (hx : l[i]? = some x) (hy : l[f]? = some y) : swapL l i f = (l.set i y).set f x := by unfold swapL; rw [hx, hy]
theorem swapL_length (l : List Item) (i f : Nat) : (swapL l i f).length = l.length := by unfold swapL; split <;> simp
def downF : Nat → List Item → Nat → List Item
  | 0, l, _ => l
  | n + 1, l, i => if firstL l i = i then l else downF n (swapL l i (firstL l i)) (firstL l i)
def downL (l : List Item) (i : Nat) : List Item := downF l.length l i
theorem down58 (H : DH) (loc n c : Nat) (ex : Bool) (l : List Item) (W : List (List DV)) (i : Nat) (hloc : loc < H.next) (ho : H.obj loc = some (.rows false 6 (l.map Item.cells ++ W))) (hn : l.length = n) (hi : i < n) (hlen : n ≤ 1000000) :
    CallWp Try.prog X4 58 [.sl (some (loc, 0, 6)) n c ex, .int .i64 i] H (fun r H' => AboveX (fun m => m = loc) H H' ∧ H'.obj loc = some (.rows false 6 ((downL l i).map Item.cells ++ W))) := by
  refine enter rfl Try.func58 rfl Try.ntmps58 rfl ?_
  dsimp only [List.cons_append, List.nil_append, List.length_cons, List.length_nil, List.replicate_succ, List.replicate_zero, Nat.reduceAdd, Nat.reduceSub]
  apply dwp_block
  refine dwp_loop (fun st => ∃ (Hk : DH) (k f : Nat) (lk : List Item), ∃ J : Nat → DV, (k < n ∧ n ≤ k + f ∧ lk.length = n ∧ downF f lk k = downL l i ∧ Hk.obj loc = some (.rows false 6 (lk.map Item.cells ++ W)) ∧ AboveX (fun m => m = loc) H Hk) ∧ st = ⟨(.sl (some (loc, 0, 6)) n c ex :: .int .i64 (k : Int) :: J 2 :: J 3 :: J 4 :: J 5 :: J 6 :: J 7 :: J 8 :: J 9 :: J 10 :: J 11 :: J 12 :: J 13 :: J 14 :: J 15 :: J 16 :: J 17 :: J 18 :: J 19 :: J 20 :: J 21 :: J 22 :: J 23 :: J 24 :: J 25 :: J 26 :: J 27 :: J 28 :: J 29 :: J 30 :: J 31 :: J 32 :: J 33 :: J 34 :: J 35 :: J 36 :: J 37 :: J 38 :: J 39 :: J 40 :: J 41 :: J 42 :: J 43 :: J 44 :: J 45 :: J 46 :: J 47 :: J 48 :: J 49 :: J 50 :: []), Hk⟩) (fun st => n - kOf st 1) (⟨H, i, n, l, junk_facts (⟨hi, by omega, hn, by rw [← hn]; rfl, ho, .refl H⟩) rfl rfl⟩) ?_
  rintro st ⟨Hk, k, f, lk, J, ⟨hk, hkf, hlk, hdn, hobj, hab⟩, rfl⟩
  obtain ⟨f, rfl⟩ : ∃ g, f = g + 1 := ⟨f - 1, by omega⟩
  obtain ⟨x0, h0⟩ : ∃ x, lk[k]? = some x := ⟨lk[k]'(by omega), List.getElem?_eq_getElem _⟩
  have r0 : (lk.map Item.cells ++ W)[0 + ((k : Int)).toNat]? = some x0.cells := by rw [Int.toNat_natCast, Nat.zero_add]; exact rows_at h0
  have in0 : 0 ≤ (k : Int) ∧ (k : Int) < (n : Int) := by omega
  have hv1 : DV.int .i64 (IntKind.i64.wrap (2 * (k : Int))) = .int .i64 ((2 * k : Nat) : Int) := by rw [wrapI (by omega)]; rfl
  have hv2 : DV.int .i64 (IntKind.i64.wrap (((2 * k : Nat) : Int) + 1)) = .int .i64 ((2 * k + 1 : Nat) : Int) := by rw [wrapI (by omega)]; rfl
  have hv3 : DV.int .i64 (IntKind.i64.wrap (((2 * k : Nat) : Int) + 2)) = .int .i64 ((2 * k + 2 : Nat) : Int) := by rw [wrapI (by omega)]; rfl
  have hv4 : DV.int .i64 (IntKind.i64.wrap (((2 * k + 1 : Nat) : Int) + 1)) = .int .i64 ((2 * k + 2 : Nat) : Int) := by rw [wrapI (by omega)]; rfl
  have hv5 : DV.int .i64 (IntKind.i64.wrap (((2 * k + 2 : Nat) : Int) + 1)) = .int .i64 ((2 * k + 3 : Nat) : Int) := by rw [wrapI (by omega)]; rfl
  have c1 : decide (((2 * k + 1 : Nat) : Int) ≤ ((2 * k + 2 : Nat) : Int)) = true := by simp only [decide_eq_true_eq]; omega
  have c2 : decide (((2 * k + 2 : Nat) : Int) ≤ ((2 * k + 2 : Nat) : Int)) = true := by simp only [decide_eq_true_eq]; omega
  have c3 : decide (((2 * k + 3 : Nat) : Int) ≤ ((2 * k + 2 : Nat) : Int)) = false := by simp only [decide_eq_false_iff_not]; omega
  have q0 : ((k : Int) == (k : Int)) = true := by simp
  have q1 : (((2 * k + 1 : Nat) : Int) == (k : Int)) = false := by simp only [beq_eq_false_iff_ne]; omega
  have q2 : (((2 * k + 2 : Nat) : Int) == (k : Int)) = false := by simp only [beq_eq_false_iff_ne]; omega
  have hlo : Lo Hk loc := lo (Nat.lt_of_lt_of_le hloc hab.le)
  have hstop : firstL lk k = k → downL l i = lk := fun e => by rw [← hdn]; simp [downF, e]
  have hgo : ∀ g, firstL lk k = g → g ≠ k → downF f (swapL lk k g) g = downL l i := fun g e hne => by rw [← hdn]; simp [downF, e, hne]
  by_cases hn1 : 2 * k + 1 < n
  · obtain ⟨x1, h1⟩ : ∃ x, lk[2 * k + 1]? = some x := ⟨lk[2 * k + 1]'(by omega), List.getElem?_eq_getElem _⟩
    have r1 : (lk.map Item.cells ++ W)[0 + (((2 * k + 1 : Nat) : Int)).toNat]? = some x1.cells := by rw [Int.toNat_natCast, Nat.zero_add]; exact rows_at h1
    have in1 : 0 ≤ ((2 * k + 1 : Nat) : Int) ∧ ((2 * k + 1 : Nat) : Int) < (n : Int) := by omega
    have c4 : decide (((2 * k + 1 : Nat) : Int) < (n : Int)) = true := by simp only [decide_eq_true_eq]; omega
    have sA : setRow (lk.map Item.cells ++ W) (0 + ((k : Int)).toNat) 0 x1.cells = some ((lk.set k x1).map Item.cells ++ W) := by rw [Int.toNat_natCast, Nat.zero_add]; exact setRow_item h0
    have sA' : setRow ((lk.set k x1).map Item.cells ++ W) (0 + (((2 * k + 1 : Nat) : Int)).toNat) 0 x0.cells = some (((lk.set k x1).set (2 * k + 1) x0).map Item.cells ++ W) := by rw [Int.toNat_natCast, Nat.zero_add]; exact setRow_item (by rw [List.getElem?_set_ne (by omega)]; exact h1)
    have l1 : lessAt lk (2 * k + 1) k = ilt x1 x0 := lessAt_at h1 h0
    by_cases hn2 : 2 * k + 2 < n
    · obtain ⟨x2, h2⟩ : ∃ x, lk[2 * k + 2]? = some x := ⟨lk[2 * k + 2]'(by omega), List.getElem?_eq_getElem _⟩
      have r2 : (lk.map Item.cells ++ W)[0 + (((2 * k + 2 : Nat) : Int)).toNat]? = some x2.cells := by rw [Int.toNat_natCast, Nat.zero_add]; exact rows_at h2
      have in2 : 0 ≤ ((2 * k + 2 : Nat) : Int) ∧ ((2 * k + 2 : Nat) : Int) < (n : Int) := by omega
      have c5 : decide (((2 * k + 2 : Nat) : Int) < (n : Int)) = true := by simp only [decide_eq_true_eq]; omega
      have sB : setRow (lk.map Item.cells ++ W) (0 + ((k : Int)).toNat) 0 x2.cells = some ((lk.set k x2).map Item.cells ++ W) := by rw [Int.toNat_natCast, Nat.zero_add]; exact setRow_item h0
      have sB' : setRow ((lk.set k x2).map Item.cells ++ W) (0 + (((2 * k + 2 : Nat) : Int)).toNat) 0 x0.cells = some (((lk.set k x2).set (2 * k + 2) x0).map Item.cells ++ W) := by rw [Int.toNat_natCast, Nat.zero_add]; exact setRow_item (by rw [List.getElem?_set_ne (by omega)]; exact h2)
      have l20 : lessAt lk (2 * k + 2) k = ilt x2 x0 := lessAt_at h2 h0
      have l21 : lessAt lk (2 * k + 2) (2 * k + 1) = ilt x2 x1 := lessAt_at h2 h1
      repeat' (first
        | dsimp only [putD, DV.cells, DH.new_next, DH.set_next, List.length_cons, List.length_nil, Nat.reduceAdd, List.set_cons_zero, List.set_cons_succ, getD_zero, getD_succ, fieldAt_zero, fieldAt_succ, thenD, blockD, retR]
        | apply dwp_round
        | apply dwp_seq
        | apply dwp_region
        | apply ops_nil
        | (apply ops_plain; (· exact rfl))
        | (apply ops_on; (· exact rfl); (· exact rfl); (· (first | with_reducible assumption | with_reducible rfl | decide)))
        | (apply ops_off1; (· exact rfl); (· exact rfl); (· (first | with_reducible assumption | with_reducible rfl | decide)))
        | (apply op_call; (· exact rfl); (· exact rfl); (· exact rfl); refine call_table (g := gLess) rfl (gLess_at _ _ _) ?_)
        | (apply op_pick_t; (· exact rfl); (· exact rfl); (· (first | with_reducible assumption | with_reducible rfl | decide)); (· exact rfl))
        | (apply op_pick_f; (· exact rfl); (· exact rfl); (· (first | with_reducible assumption | with_reducible rfl | decide)); (· exact rfl))
        | (apply op_index_at; (· exact rfl); (· exact rfl); (· exact rfl); (· with_reducible exact in0); (· exact rfl); (· exact rfl))
        | (apply op_load_at; (· exact rfl); (· exact rfl); (· with_reducible exact hobj); (· with_reducible exact r0); (· exact item_part x0))
        | (apply op_index_at; (· exact rfl); (· exact rfl); (· exact rfl); (· with_reducible exact in1); (· exact rfl); (· exact rfl))
        | (apply op_load_at; (· exact rfl); (· exact rfl); (· with_reducible exact hobj); (· with_reducible exact r1); (· exact item_part x1))
        | (apply op_index_at; (· exact rfl); (· exact rfl); (· exact rfl); (· with_reducible exact in2); (· exact rfl); (· exact rfl))
        | (apply op_load_at; (· exact rfl); (· exact rfl); (· with_reducible exact hobj); (· with_reducible exact r2); (· exact item_part x2))
        | (apply op_at; (· exact opD_int rfl rfl rfl rfl hv1))
        | (apply op_at; (· exact opD_int rfl rfl rfl rfl hv2))
        | (apply op_at; (· exact opD_int rfl rfl rfl rfl hv3))
        | (apply op_at; (· exact opD_int rfl rfl rfl rfl hv5))
        | (apply op_store_at; (· exact rfl); (· exact rfl); (· exact rfl); (· with_reducible exact hobj); (· exact sA); (· exact rfl); (· exact rfl))
        | (apply op_store_at; (· exact rfl); (· exact rfl); (· exact rfl); (· with_reducible exact obj_set); (· exact sA'); (· exact rfl); (· exact rfl))
        | (apply op_store_at; (· exact rfl); (· exact rfl); (· exact rfl); (· with_reducible exact hobj); (· exact sB); (· exact rfl); (· exact rfl))
        | (apply op_store_at; (· exact rfl); (· exact rfl); (· exact rfl); (· with_reducible exact obj_set); (· exact sB'); (· exact rfl); (· exact rfl))
        | (apply op_at; (· exact rfl))
        | refine dwp_draw _ rfl ?_
        | apply draw_nil
        | (apply all_and; (· kernel_rfl))
        | (apply was_and; (· kernel_rfl))
        | (apply draw_pure; (· (first | exact wanted_plain rfl | (apply wanted_on; (· exact rfl); (· exact rfl); (· (first | with_reducible assumption | with_reducible rfl | decide))))); (· exact rfl); (· exact rfl))
        | (apply draw_read; (· (first | exact wanted_plain rfl | (apply wanted_on; (· exact rfl); (· exact rfl); (· (first | with_reducible assumption | with_reducible rfl | decide))))); (· exact rfl); (· exact rfl))
        | (apply draw_move; (· (first | exact wanted_plain rfl | (apply wanted_on; (· exact rfl); (· exact rfl); (· (first | with_reducible assumption | with_reducible rfl | decide))))); (· exact rfl))
        | (apply dwp_cond_t; (· exact rfl); (· (first | with_reducible assumption | with_reducible rfl | decide)))
        | (apply dwp_cond_f; (· exact rfl); (· (first | with_reducible assumption | with_reducible rfl | decide)))
        | (refine dwp_cond rfl ?_ ?_ <;> intro hb)
        | apply dwp_block
        | apply dwp_skip
        | apply dwp_ret
        | apply dwp_exit
        | (refine ⟨_, rfl, ?_⟩)
        | fail)
      · rename_i ha
        refine ⟨⟨_, 2 * k + 2, f, _, junk_facts (⟨by omega, by omega, by simp [hlk], ?_, obj_set, (hab.trans (.set _ _ _ _ rfl)).trans (.set _ _ _ _ rfl)⟩) rfl rfl⟩, ?_⟩
        · have e := hgo (2 * k + 2) (by simp [firstL, first1, l1, ha, l21, hb]) (by omega)
          rw [swapL_at h0 h2] at e
          exact e
        · show n - ((2 * k + 2 : Nat) : Int).toNat < n - (k : Int).toNat
          omega
      · rename_i ha
        refine ⟨⟨_, 2 * k + 1, f, _, junk_facts (⟨by omega, by omega, by simp [hlk], ?_, obj_set, (hab.trans (.set _ _ _ _ rfl)).trans (.set _ _ _ _ rfl)⟩) rfl rfl⟩, ?_⟩
        · have e := hgo (2 * k + 1) (by simp [firstL, first1, l1, ha, l21, hb]) (by omega)
          rw [swapL_at h0 h1] at e
          exact e
        · show n - ((2 * k + 1 : Nat) : Int).toNat < n - (k : Int).toNat
          omega
      · rename_i ha
        refine ⟨⟨_, 2 * k + 2, f, _, junk_facts (⟨by omega, by omega, by simp [hlk], ?_, obj_set, (hab.trans (.set _ _ _ _ rfl)).trans (.set _ _ _ _ rfl)⟩) rfl rfl⟩, ?_⟩
        · have e := hgo (2 * k + 2) (by simp [firstL, first1, l1, ha, l20, hb]) (by omega)
          rw [swapL_at h0 h2] at e
          exact e
        · show n - ((2 * k + 2 : Nat) : Int).toNat < n - (k : Int).toNat
          omega
      · rename_i ha
        refine ⟨hab, ?_⟩
        rw [hstop (by simp [firstL, first1, l1, ha, l20, hb])]
        exact hobj
    · have c5 : decide (((2 * k + 2 : Nat) : Int) < (n : Int)) = false := by simp only [decide_eq_false_iff_not]; omega
      have l2 : ∀ b, lessAt lk (2 * k + 2) b = false := fun b => lessAt_out (by omega)
      repeat' (first
        | dsimp only [putD, DV.cells, DH.new_next, DH.set_next, List.length_cons, List.length_nil, Nat.reduceAdd, List.set_cons_zero, List.set_cons_succ, getD_zero, getD_succ, fieldAt_zero, fieldAt_succ, thenD, blockD, retR]
        | apply dwp_round
        | apply dwp_seq
        | apply dwp_region
        | apply ops_nil
        | (apply ops_plain; (· exact rfl))
        | (apply ops_on; (· exact rfl); (· exact rfl); (· (first | with_reducible assumption | with_reducible rfl | decide)))
        | (apply op_call; (· exact rfl); (· exact rfl); (· exact rfl); refine call_table (g := gLess) rfl (gLess_at _ _ _) ?_)
        | (apply op_pick_t; (· exact rfl); (· exact rfl); (· (first | with_reducible assumption | with_reducible rfl | decide)); (· exact rfl))
        | (apply op_index_at; (· exact rfl); (· exact rfl); (· exact rfl); (· with_reducible exact in0); (· exact rfl); (· exact rfl))
        | (apply op_load_at; (· exact rfl); (· exact rfl); (· with_reducible exact hobj); (· with_reducible exact r0); (· exact item_part x0))
        | (apply op_index_at; (· exact rfl); (· exact rfl); (· exact rfl); (· with_reducible exact in1); (· exact rfl); (· exact rfl))
        | (apply op_load_at; (· exact rfl); (· exact rfl); (· with_reducible exact hobj); (· with_reducible exact r1); (· exact item_part x1))
        | (apply op_at; (· exact opD_int rfl rfl rfl rfl hv1))
        | (apply op_at; (· exact opD_int rfl rfl rfl rfl hv2))
        | (apply op_at; (· exact opD_int rfl rfl rfl rfl hv3))
        | (apply op_store_at; (· exact rfl); (· exact rfl); (· exact rfl); (· with_reducible exact hobj); (· exact sA); (· exact rfl); (· exact rfl))
        | (apply op_store_at; (· exact rfl); (· exact rfl); (· exact rfl); (· with_reducible exact obj_set); (· exact sA'); (· exact rfl); (· exact rfl))
        | (apply op_at; (· exact rfl))
        | refine dwp_draw _ rfl ?_
        | apply draw_nil
        | (apply all_and; (· kernel_rfl))
        | (apply was_and; (· kernel_rfl))
        | (apply draw_pure; (· (first | exact wanted_plain rfl | (apply wanted_on; (· exact rfl); (· exact rfl); (· (first | with_reducible assumption | with_reducible rfl | decide))))); (· exact rfl); (· exact rfl))
        | (apply draw_read; (· (first | exact wanted_plain rfl | (apply wanted_on; (· exact rfl); (· exact rfl); (· (first | with_reducible assumption | with_reducible rfl | decide))))); (· exact rfl); (· exact rfl))
        | (apply draw_move; (· (first | exact wanted_plain rfl | (apply wanted_on; (· exact rfl); (· exact rfl); (· (first | with_reducible assumption | with_reducible rfl | decide))))); (· exact rfl))
        | (apply dwp_cond_t; (· exact rfl); (· (first | with_reducible assumption | with_reducible rfl | decide)))
        | (apply dwp_cond_f; (· exact rfl); (· (first | with_reducible assumption | with_reducible rfl | decide)))
        | (refine dwp_cond rfl ?_ ?_ <;> intro hb)
        | apply dwp_block
        | apply dwp_skip
        | apply dwp_ret
        | apply dwp_exit
        | (refine ⟨_, rfl, ?_⟩)
        | fail)
      · refine ⟨⟨_, 2 * k + 1, f, _, junk_facts (⟨by omega, by omega, by simp [hlk], ?_, obj_set, (hab.trans (.set _ _ _ _ rfl)).trans (.set _ _ _ _ rfl)⟩) rfl rfl⟩, ?_⟩
        · have e := hgo (2 * k + 1) (by simp [firstL, first1, l1, hb, l2]) (by omega)
          rw [swapL_at h0 h1] at e
          exact e
        · show n - ((2 * k + 1 : Nat) : Int).toNat < n - (k : Int).toNat
          omega
      · refine ⟨hab, ?_⟩
        rw [hstop (by simp [firstL, first1, l1, hb, l2])]
        exact hobj
  · have c4 : decide (((2 * k + 1 : Nat) : Int) < (n : Int)) = false := by simp only [decide_eq_false_iff_not]; omega
    have l1 : ∀ b, lessAt lk (2 * k + 1) b = false := fun b => lessAt_out (by omega)
    have l2 : ∀ b, lessAt lk (2 * k + 2) b = false := fun b => lessAt_out (by omega)
    repeat' (first
      | dsimp only [putD, DV.cells, DH.new_next, DH.set_next, List.length_cons, List.length_nil, Nat.reduceAdd, List.set_cons_zero, List.set_cons_succ, getD_zero, getD_succ, fieldAt_zero, fieldAt_succ, thenD, blockD, retR]
      | apply dwp_round
      | apply dwp_seq
      | apply dwp_region
      | apply ops_nil
      | (apply ops_plain; (· exact rfl))
      | (apply ops_on; (· exact rfl); (· exact rfl); (· (first | with_reducible assumption | with_reducible rfl | decide)))
      | (apply op_pick_t; (· exact rfl); (· exact rfl); (· (first | with_reducible assumption | with_reducible rfl | decide)); (· exact rfl))
      | (apply op_at; (· exact opD_int rfl rfl rfl rfl hv1))
      | (apply op_at; (· exact opD_int rfl rfl rfl rfl hv2))
      | (apply op_at; (· exact opD_int rfl rfl rfl rfl hv3))
      | (apply op_at; (· exact rfl))
      | (apply dwp_cond_t; (· exact rfl); (· (first | with_reducible assumption | with_reducible rfl | decide)))
      | (apply dwp_cond_f; (· exact rfl); (· (first | with_reducible assumption | with_reducible rfl | decide)))
      | apply dwp_block
      | apply dwp_ret
      | apply dwp_exit
      | (refine ⟨_, rfl, ?_⟩)
      | fail)
    refine ⟨hab, ?_⟩
    rw [hstop (by simp [firstL, first1, l1, l2])]
    exact hobj
end Go.Det.Q

/- Heaps: made, with a thing more, without one. -/
namespace Go.Det.Q
open Go Go.Det Go.Proofs
set_option maxRecDepth 4000
set_option maxHeartbeats 4000000
set_option linter.unusedVariables false
set_option linter.unusedSimpArgs false
theorem Mine.its {A H : DH} {l : List Item} {s : DV} (h : Mine A H 6 (l.map Item.cells) s) (hm : l.length ≤ maxLen) : Its H s l := it_of_mine h hm
theorem mine_itsF {A B H : DH} {l : List Item} {p : Option (Nat × Nat × Nat)} {n c : Nat} {ex : Bool} (h : Mine B H 6 (l.map Item.cells) (.sl p n c ex)) (hl : l.length = n) (hm : l.length ≤ maxLen) (hf : ∀ loc i z, p = some (loc, i, z) → A.next ≤ loc) : ItsF A H (.sl p n c ex) l := by
  obtain ⟨p', c', ex', h1, h2⟩ := it_of_mine h hm
  cases h1
  exact ⟨_, _, _, rfl, h2, hf⟩
theorem downF_length : ∀ (n : Nat) (l : List Item) (i : Nat), (downF n l i).length = l.length
  | 0, l, i => rfl
  | n + 1, l, i => by
    simp only [downF]
    split
    · rfl
    · rw [downF_length n, swapL_length]
theorem downL_length (l : List Item) (i : Nat) : (downL l i).length = l.length := downF_length _ _ _
theorem upL_length (l : List Item) (i : Nat) : (upL l i).length = l.length := by
  induction i using Nat.strongRecOn generalizing l with
  | _ i ih =>
    unfold upL
    split
    · rename_i h
      split
      · rename_i x y hx hy
        split
        · rw [ih ((i - 1) / 2) (by omega)]; simp
        · rfl
      · rfl
    · rfl
/-! ### Push -/
theorem push16 (H : DH) (p : Option (Nat × Nat × Nat)) (c : Nat) (ex : Bool) (l : List Item) (x : Item) (hl : It H p c ex l) (hn : l.length ≤ 1000000) :
    CallWp Try.prog X4 16 [.sl p l.length c ex, .agg x.cells] H (fun r H' => Above H H' ∧
      ((checkB l = false ∧ r = .tuple [.sl none 0 0 true, .int .i64 1]) ∨ (checkB l = true ∧ l.length = 4096 ∧ r = .tuple [.sl none 0 0 true, .int .i64 7]) ∨
       (checkB l = true ∧ l.length ≠ 4096 ∧ ∃ s, r = .tuple [s, .int .i64 0] ∧ ItsF H H' s (upL (l ++ [x]) l.length)))) := by
  have hchk := (hl.mono ((Above.refl H).new (.rows false 6 [x.cells]))).check
  cases hcb : checkB l with
  | false =>
    rw [hcb] at hchk
    refine enter rfl Try.func16 rfl Try.ntmps16 rfl ?_
    dsimp only [List.cons_append, List.nil_append, List.length_cons, List.length_nil, List.replicate_succ, List.replicate_zero, Nat.reduceAdd, Nat.reduceSub]
    repeat' (first
      | dsimp only [putD, DV.cells, DH.new_next, DH.set_next, List.length_cons, List.length_nil, Nat.reduceAdd, List.set_cons_zero, List.set_cons_succ, getD_zero, getD_succ, fieldAt_zero, fieldAt_succ, thenD, blockD, retR]
      | apply dwp_seq
      | apply dwp_region
      | apply ops_nil
      | (apply ops_plain; (· exact rfl))
      | (apply op_call; (· exact rfl); (· exact rfl); (· exact rfl); refine call_table (g := gCheck) rfl hchk ?_)
      | (apply op_at; (· exact rfl))
      | (apply dwp_cond_t; (· exact rfl); (· (first | with_reducible assumption | with_reducible rfl | decide)))
      | apply dwp_block
      | apply dwp_ret
      | (refine ⟨_, rfl, ?_⟩)
      | fail)
    exact ⟨(Above.refl H).new _, .inl ⟨by simp, rfl⟩⟩
  | true =>
    rw [hcb] at hchk
    by_cases h4 : l.length = 4096
    · have hc : ((l.length : Int) == 4096) = true := by simp [h4]
      refine enter rfl Try.func16 rfl Try.ntmps16 rfl ?_
      dsimp only [List.cons_append, List.nil_append, List.length_cons, List.length_nil, List.replicate_succ, List.replicate_zero, Nat.reduceAdd, Nat.reduceSub]
      repeat' (first
        | dsimp only [putD, DV.cells, DH.new_next, DH.set_next, List.length_cons, List.length_nil, Nat.reduceAdd, List.set_cons_zero, List.set_cons_succ, getD_zero, getD_succ, fieldAt_zero, fieldAt_succ, thenD, blockD, retR]
        | apply dwp_seq
        | apply dwp_region
        | apply ops_nil
        | (apply ops_plain; (· exact rfl))
        | (apply op_call; (· exact rfl); (· exact rfl); (· exact rfl); refine call_table (g := gCheck) rfl hchk ?_)
        | (apply op_at; (· exact rfl))
        | (apply dwp_cond_t; (· exact rfl); (· (first | with_reducible assumption | with_reducible rfl | decide)))
        | (apply dwp_cond_f; (· exact rfl); (· (first | with_reducible assumption | with_reducible rfl | decide)))
        | apply dwp_block
        | apply dwp_ret
        | (refine ⟨_, rfl, ?_⟩)
        | fail)
      exact ⟨(Above.refl H).new _, .inr (.inl ⟨by simp, h4, rfl⟩)⟩
    · have hc : ((l.length : Int) == 4096) = false := by simp only [beq_eq_false_iff_ne]; omega
      have hab0 : Above H (H.new (.rows false 6 [x.cells])) := (Above.refl H).new _
      have h4096 : l.length ≤ 4096 := by
        unfold checkB at hcb
        simp only [Bool.and_eq_true, decide_eq_true_eq] at hcb
        exact hcb.2
      refine enter rfl Try.func16 rfl Try.ntmps16 rfl ?_
      dsimp only [List.cons_append, List.nil_append, List.length_cons, List.length_nil, List.replicate_succ, List.replicate_zero, Nat.reduceAdd, Nat.reduceSub]
      repeat' (first
        | dsimp only [putD, DV.cells, DH.new_next, DH.set_next, List.length_cons, List.length_nil, Nat.reduceAdd, List.set_cons_zero, List.set_cons_succ, getD_zero, getD_succ, fieldAt_zero, fieldAt_succ, thenD, blockD, retR]
        | (apply drawp_read; (· (first | exact wanted_plain rfl | (apply wanted_on; (· exact rfl); (· exact rfl); (· (first | with_reducible assumption | with_reducible rfl | decide))))); (· exact rfl); (· exact rfl); (· decide +kernel); (· intro H' h; have h : Above _ _ := h; exact opD_load rfl rfl (h.obj (l := H.next) (by exact Nat.lt_succ_self _) (by exact obj_here rfl)) (rfl) (item_part x)))
        | apply dwp_seq
        | apply dwp_region
        | apply ops_nil
        | (apply ops_plain; (· exact rfl))
        | (apply op_call; (· exact rfl); (· exact rfl); (· exact rfl); refine call_table (g := gCheck) rfl hchk ?_)
        | (apply op_call; (· exact rfl); (· exact rfl); (· exact rfl); refine (clone54 _ p c ex l (hl.mono hab0) hn).mono ?_; rintro r H1 ⟨hab1, hm1, _⟩; refine ⟨hab1, ?_⟩; have hm1' := hm1.mono ((Above.refl H1).new (.rows false 6 [x.cells])))
        | (apply op_call; (· exact rfl); (· exact rfl); (· exact rfl); refine (up55 _ loc (l.length + 1) _ _ (l ++ [x]) [] l.length hlt (by rw [List.append_nil, List.map_append]; exact ho2) (by simp) (by omega) (by omega)).mono ?_; rintro r3 H3 ⟨hab3, ho3⟩)
        | (refine op_append (xt := 73) (new := [x.cells]) rfl rfl rfl E73 hm1' (hab1.new _) (appended_sl Try.underlying73 Sl.fresh _ _) rfl (by rw [List.length_map]; show l.length + 1 ≤ mostD; unfold mostD; omega) ?_; intro s2 H2 hm2 hab2 hax2 hfr2; obtain ⟨loc, e2, heq, hge, hlt, ho2⟩ := hm2.wr (k := l.length) (r := x.cells) (by rw [List.getElem?_append_right (by simp)]; simp); have hle : (l.map Item.cells ++ [x.cells]).length = l.length + 1 := (by simp); rw [hle] at heq; subst heq; refine ⟨hab2, ?_⟩)
        | (apply op_at; (· exact rfl); refine ⟨hab1.new _, ?_⟩)
        | (apply op_at; (· exact rfl))
        | refine dwp_drawp _ rfl (fun H' => Above _ H') (Above.refl _) ?_
        | apply drawp_nil
        | (apply drawp_pure; (· (first | exact wanted_plain rfl | (apply wanted_on; (· exact rfl); (· exact rfl); (· (first | with_reducible assumption | with_reducible rfl | decide))))); (· exact rfl); (· exact rfl); (· exact rfl))
        | (apply drawp_move; (· (first | exact wanted_plain rfl | (apply wanted_on; (· exact rfl); (· exact rfl); (· (first | with_reducible assumption | with_reducible rfl | decide))))); (· exact rfl); (· decide +kernel))
        | (apply dwp_cond_f; (· exact rfl); (· (first | with_reducible assumption | with_reducible rfl | decide)))
        | apply dwp_block
        | apply dwp_skip
        | apply dwp_ret
        | (refine ⟨_, rfl, ?_⟩)
        | fail)
      rw [List.append_nil] at ho3
      have hab4 : Above H H3 := hab3.above (hab0.trans hab2) (fun m h => by rw [h]; exact Nat.le_trans (Nat.le_succ _) hge)
      have hlen := hl.len
      refine ⟨hab4, .inr (.inr ⟨by simp, h4, _, rfl, mine_itsF (B := H) (mine_of (n := l.length + 1) ?_ ?_ (Nat.lt_of_lt_of_le hlt hab3.le) ho3) (by rw [upL_length]; simp) ?_ (fun a i z e => by cases e; exact Nat.le_trans (Nat.le_succ _) hge)⟩)⟩
      · rw [List.length_map, upL_length]; simp
      · exact Nat.le_trans (Nat.le_succ _) hge
      · rw [upL_length]; simp; unfold maxLen; omega
/-! ### without -/
def withoutL (l : List Item) (i : Nat) : List Item := match l[l.length - 1]? with
  | some y => if i < l.length - 1 then upL (downL (((l.set i y)).take (l.length - 1)) i) i else (l.set i y).take (l.length - 1)
  | none => l
theorem withoutL_length {l : List Item} {i : Nat} (h : 0 < l.length) : (withoutL l i).length = l.length - 1 := by
  unfold withoutL
  rw [List.getElem?_eq_getElem (by omega)]
  simp only
  split
  · rw [upL_length, downL_length]; simp
  · simp
theorem without56 (H : DH) (p : Option (Nat × Nat × Nat)) (c : Nat) (ex : Bool) (l : List Item) (i : Nat) (hl : It H p c ex l) (hi : i < l.length) (hn : l.length ≤ 1000000) :
    CallWp Try.prog X4 56 [.sl p l.length c ex, .int .i64 i] H (fun r H' => Above H H' ∧ ItsF H H' r (withoutL l i)) := by
  obtain ⟨y, hy⟩ : ∃ y, l[l.length - 1]? = some y := ⟨l[l.length - 1]'(by omega), List.getElem?_eq_getElem _⟩
  have hv1 : DV.int .i64 (IntKind.i64.wrap (((l.length : Nat) : Int) - 1)) = .int .i64 ((l.length - 1 : Nat) : Int) := by rw [wrapI (by omega), show ((l.length : Nat) : Int) - 1 = ((l.length - 1 : Nat) : Int) by omega]
  have hr1 : (l.map Item.cells)[0 + (((l.length - 1 : Nat) : Int)).toNat]? = some y.cells := by rw [Int.toNat_natCast, Nat.zero_add, List.getElem?_map, hy]; rfl
  have hin1 : 0 ≤ ((l.length - 1 : Nat) : Int) ∧ ((l.length - 1 : Nat) : Int) < (l.length : Int) := by omega
  have hin2 : 0 ≤ (i : Int) ∧ (i : Int) < (l.length : Int) := by omega
  have hin3 : 0 ≤ ((l.length - 1 : Nat) : Int) ∧ ((l.length - 1 : Nat) : Int) ≤ (l.length : Int) := by omega
  have hs : setRow (l.map Item.cells) (0 + ((i : Int)).toNat) 0 y.cells = some ((l.set i y).map Item.cells) := by
    have h := setRow_item (l := l) (W := []) (i := i) (x := l[i]) (y := y) (List.getElem?_eq_getElem hi)
    rw [List.append_nil, List.append_nil] at h
    rw [Int.toNat_natCast, Nat.zero_add]
    exact h
  have hsp : (l.set i y).map Item.cells = ((l.set i y).take (l.length - 1)).map Item.cells ++ ((l.set i y).drop (l.length - 1)).map Item.cells := by rw [← List.map_append, List.take_append_drop]
  have htl : ((l.set i y).take (l.length - 1)).length = l.length - 1 := by simp
  have hn1 : (((l.length - 1 : Nat) : Int)).toNat = l.length - 1 := Int.toNat_natCast _
  have hwo : withoutL l i = if i < l.length - 1 then upL (downL (((l.set i y)).take (l.length - 1)) i) i else (l.set i y).take (l.length - 1) := by unfold withoutL; rw [hy]
  have hits : ∀ (H' : DH) (loc : Nat) (e1 : Bool) (m : List Item) (W : List (List DV)), H.next ≤ loc → loc < H'.next → H'.obj loc = some (.rows false 6 (m.map Item.cells ++ W)) → m.length = l.length - 1 → ItsF H H' (.sl (some (loc, 0, 6)) (((l.length - 1 : Nat) : Int)).toNat l.length e1) m := by
    intro H' loc e1 m W h1 h2 h3 h4
    refine ⟨some (loc, 0, 6), l.length, e1, by rw [hn1, h4], ⟨.at h2 h3 (by rw [List.length_map, List.length_append, List.length_map]; omega) (by rw [List.drop_zero, List.length_map, List.take_left' (by rw [List.length_map])]), fun h => (by cases h), ?_, by omega⟩, fun a i z e => by cases e; exact h1⟩
    unfold maxLen
    omega
  by_cases hil : i < l.length - 1
  · have hc : decide ((i : Int) < ((l.length - 1 : Nat) : Int)) = true := by simp only [decide_eq_true_eq]; omega
    refine enter rfl Try.func56 rfl Try.ntmps56 rfl ?_
    dsimp only [List.cons_append, List.nil_append, List.length_cons, List.length_nil, List.replicate_succ, List.replicate_zero, Nat.reduceAdd, Nat.reduceSub]
    repeat' (first
      | dsimp only [putD, DV.cells, DH.new_next, DH.set_next, List.length_cons, List.length_nil, Nat.reduceAdd, List.set_cons_zero, List.set_cons_succ, getD_zero, getD_succ, fieldAt_zero, fieldAt_succ, thenD, blockD, retR]
      | apply dwp_seq
      | apply dwp_region
      | apply ops_nil
      | (apply ops_plain; (· exact rfl))
      | (apply op_call; (· exact rfl); (· exact rfl); (· exact rfl); refine (clone54 _ p c ex l hl hn).mono ?_; rintro r H1 ⟨hab1, hm1, _⟩; obtain ⟨loc, e1, heq, hge, hlt, ho1⟩ := hm1.wr (k := i) (r := (l[i]).cells) (by rw [List.getElem?_map, List.getElem?_eq_getElem hi]; rfl); rw [List.length_map] at heq; subst heq; have ho2 : (H1.set loc (some (.rows false 6 ((l.set i y).map Item.cells)))).obj loc = some (.rows false 6 (((l.set i y).take (l.length - 1)).map Item.cells ++ ((l.set i y).drop (l.length - 1)).map Item.cells)) := (by rw [← hsp]; exact obj_set))
      | (apply op_call; (· exact rfl); (· exact rfl); (· exact rfl); refine (down58 _ loc _ _ _ ((l.set i y).take (l.length - 1)) _ i (show loc < (H1.set loc _).next from hlt) ho2 (by rw [htl]; exact hn1.symm) (by rw [hn1]; exact hil) (by rw [hn1]; omega)).mono ?_; rintro r2 H2 ⟨hab2, ho3⟩)
      | (apply op_call; (· exact rfl); (· exact rfl); (· exact rfl); refine (up55 _ loc _ _ _ (downL ((l.set i y).take (l.length - 1)) i) _ i (Nat.lt_of_lt_of_le hlt hab2.le) ho3 (by rw [downL_length, htl]; exact hn1.symm) (by rw [hn1]; exact hil) (by rw [hn1]; omega)).mono ?_; rintro r3 H3 ⟨hab3, ho4⟩)
      | (apply op_at; (· exact opD_int rfl rfl rfl rfl hv1))
      | (apply op_index_at; (· exact rfl); (· exact rfl); (· exact rfl); (· with_reducible exact hin1); (· exact rfl); (· exact rfl))
      | (apply op_index_at; (· exact rfl); (· exact rfl); (· exact rfl); (· with_reducible exact hin2); (· exact rfl); (· exact rfl))
      | (apply op_load_at; (· exact rfl); (· exact rfl); (· with_reducible exact ho1); (· with_reducible exact hr1); (· exact (item_part y)))
      | (apply op_store_at; (· exact rfl); (· exact rfl); (· exact rfl); (· with_reducible exact ho1); (· exact hs); (· exact rfl); (· exact rfl))
      | (apply op_at; (· exact opD_slice_hi rfl rfl rfl rfl rfl hin3))
      | (apply op_at; (· exact rfl))
      | (apply dwp_cond_t; (· exact rfl); (· (first | with_reducible assumption | with_reducible rfl | decide)))
      | apply dwp_ret
      | (refine ⟨_, rfl, ?_⟩)
      | fail)
    have hab5 : Above H H3 := hab3.above (hab2.above (hab1.set hge _) (fun m h => by rw [h]; exact hge)) (fun m h => by rw [h]; exact hge)
    refine ⟨hab5, ?_⟩
    rw [hwo, if_pos hil]
    exact hits H3 loc _ _ _ hge (Nat.lt_of_lt_of_le (Nat.lt_of_lt_of_le hlt hab2.le) hab3.le) ho4 (by rw [upL_length, downL_length, htl])
  · have hc : decide ((i : Int) < ((l.length - 1 : Nat) : Int)) = false := by simp only [decide_eq_false_iff_not]; omega
    refine enter rfl Try.func56 rfl Try.ntmps56 rfl ?_
    dsimp only [List.cons_append, List.nil_append, List.length_cons, List.length_nil, List.replicate_succ, List.replicate_zero, Nat.reduceAdd, Nat.reduceSub]
    repeat' (first
      | dsimp only [putD, DV.cells, DH.new_next, DH.set_next, List.length_cons, List.length_nil, Nat.reduceAdd, List.set_cons_zero, List.set_cons_succ, getD_zero, getD_succ, fieldAt_zero, fieldAt_succ, thenD, blockD, retR]
      | apply dwp_seq
      | apply dwp_region
      | apply ops_nil
      | (apply ops_plain; (· exact rfl))
      | (apply op_call; (· exact rfl); (· exact rfl); (· exact rfl); refine (clone54 _ p c ex l hl hn).mono ?_; rintro r H1 ⟨hab1, hm1, _⟩; obtain ⟨loc, e1, heq, hge, hlt, ho1⟩ := hm1.wr (k := i) (r := (l[i]).cells) (by rw [List.getElem?_map, List.getElem?_eq_getElem hi]; rfl); rw [List.length_map] at heq; subst heq; have ho2 : (H1.set loc (some (.rows false 6 ((l.set i y).map Item.cells)))).obj loc = some (.rows false 6 (((l.set i y).take (l.length - 1)).map Item.cells ++ ((l.set i y).drop (l.length - 1)).map Item.cells)) := (by rw [← hsp]; exact obj_set))
      | (apply op_at; (· exact opD_int rfl rfl rfl rfl hv1))
      | (apply op_index_at; (· exact rfl); (· exact rfl); (· exact rfl); (· with_reducible exact hin1); (· exact rfl); (· exact rfl))
      | (apply op_index_at; (· exact rfl); (· exact rfl); (· exact rfl); (· with_reducible exact hin2); (· exact rfl); (· exact rfl))
      | (apply op_load_at; (· exact rfl); (· exact rfl); (· with_reducible exact ho1); (· with_reducible exact hr1); (· exact (item_part y)))
      | (apply op_store_at; (· exact rfl); (· exact rfl); (· exact rfl); (· with_reducible exact ho1); (· exact hs); (· exact rfl); (· exact rfl))
      | (apply op_at; (· exact opD_slice_hi rfl rfl rfl rfl rfl hin3))
      | (apply op_at; (· exact rfl))
      | (apply dwp_cond_f; (· exact rfl); (· (first | with_reducible assumption | with_reducible rfl | decide)))
      | apply dwp_skip
      | apply dwp_ret
      | (refine ⟨_, rfl, ?_⟩)
      | fail)
    refine ⟨hab1.set hge _, ?_⟩
    rw [hwo, if_neg hil]
    exact hits _ loc _ _ _ hge hlt ho2 htl
end Go.Det.Q

/- Heaps: without the first, without one of a number. -/
namespace Go.Det.Q
open Go Go.Det Go.Proofs
set_option maxRecDepth 4000
set_option maxHeartbeats 4000000
set_option linter.unusedVariables false
set_option linter.unusedSimpArgs false
theorem pop19 (H : DH) (p : Option (Nat × Nat × Nat)) (c : Nat) (ex : Bool) (l : List Item) (hl : It H p c ex l) (hn : l.length ≤ 1000000) :
    CallWp Try.prog X4 19 [.sl p l.length c ex] H (fun r H' => Above H H' ∧
      ((checkB l = false ∧ r = .tuple [.agg itemZero, .sl none 0 0 true, .int .i64 1]) ∨ (checkB l = true ∧ l = [] ∧ r = .tuple [.agg itemZero, .sl none 0 0 true, .int .i64 8]) ∨
       (checkB l = true ∧ ∃ x s, l[0]? = some x ∧ r = .tuple [.agg x.cells, s, .int .i64 0] ∧ ItsF H H' s (withoutL l 0)))) := by
  have hab0 : Above H (H.new (.rows false 6 [itemZero])) := (Above.refl H).new _
  have hchk := (hl.mono hab0).check
  cases hcb : checkB l with
  | false =>
    rw [hcb] at hchk
    refine enter rfl Try.func19 rfl Try.ntmps19 rfl ?_
    dsimp only [List.cons_append, List.nil_append, List.length_cons, List.length_nil, List.replicate_succ, List.replicate_zero, Nat.reduceAdd, Nat.reduceSub]
    repeat' (first
      | dsimp only [putD, DV.cells, DH.new_next, DH.set_next, List.length_cons, List.length_nil, Nat.reduceAdd, List.set_cons_zero, List.set_cons_succ, getD_zero, getD_succ, fieldAt_zero, fieldAt_succ, thenD, blockD, retR]
      | (refine ⟨_, resOf_ctt (loadD_at rfl (by repeat (first | with_reducible assumption | (with_reducible apply obj_here; with_reducible rfl) | with_reducible apply obj_set | (with_reducible apply obj_skip_lo; (· ((repeat (first | with_reducible assumption | with_reducible apply Lo.self | with_reducible apply Lo.new | with_reducible apply Lo.set | with_reducible apply Lo.self1 | with_reducible apply Lo.self2)); done))) | (with_reducible apply obj_past; (· ((first | with_reducible assumption | with_reducible apply ne_add1 | with_reducible apply ne_add1' | with_reducible apply ne_add2 | with_reducible apply ne_add2' | with_reducible apply ne_add12 | with_reducible apply ne_add21 | (with_reducible apply Lo.ne; (repeat (first | with_reducible assumption | with_reducible apply Lo.self | with_reducible apply Lo.new | with_reducible apply Lo.set | with_reducible apply Lo.self1 | with_reducible apply Lo.self2)); done) | (with_reducible apply Lo.ne1; (repeat (first | with_reducible assumption | with_reducible apply Lo.self | with_reducible apply Lo.new | with_reducible apply Lo.set | with_reducible apply Lo.self1 | with_reducible apply Lo.self2)); done) | (with_reducible apply Lo.ne'; (repeat (first | with_reducible assumption | with_reducible apply Lo.self | with_reducible apply Lo.new | with_reducible apply Lo.set | with_reducible apply Lo.self1 | with_reducible apply Lo.self2)); done) | (with_reducible apply Lo.ne1'; (repeat (first | with_reducible assumption | with_reducible apply Lo.self | with_reducible apply Lo.new | with_reducible apply Lo.set | with_reducible apply Lo.self1 | with_reducible apply Lo.self2)); done)); done))) | exact obj_here rfl)) rfl rfl), ?_⟩)
      | apply dwp_seq
      | apply dwp_region
      | apply ops_nil
      | (apply ops_plain; (· exact rfl))
      | (apply op_call; (· exact rfl); (· exact rfl); (· exact rfl); refine call_table (g := gCheck) rfl hchk ?_)
      | (apply op_store_at; (· exact rfl); (· exact rfl); (· exact rfl); (· repeat (first | with_reducible assumption | (with_reducible apply obj_here; with_reducible rfl) | with_reducible apply obj_set | (with_reducible apply obj_skip_lo; (· ((repeat (first | with_reducible assumption | with_reducible apply Lo.self | with_reducible apply Lo.new | with_reducible apply Lo.set | with_reducible apply Lo.self1 | with_reducible apply Lo.self2)); done))) | (with_reducible apply obj_past; (· ((first | with_reducible assumption | with_reducible apply ne_add1 | with_reducible apply ne_add1' | with_reducible apply ne_add2 | with_reducible apply ne_add2' | with_reducible apply ne_add12 | with_reducible apply ne_add21 | (with_reducible apply Lo.ne; (repeat (first | with_reducible assumption | with_reducible apply Lo.self | with_reducible apply Lo.new | with_reducible apply Lo.set | with_reducible apply Lo.self1 | with_reducible apply Lo.self2)); done) | (with_reducible apply Lo.ne1; (repeat (first | with_reducible assumption | with_reducible apply Lo.self | with_reducible apply Lo.new | with_reducible apply Lo.set | with_reducible apply Lo.self1 | with_reducible apply Lo.self2)); done) | (with_reducible apply Lo.ne'; (repeat (first | with_reducible assumption | with_reducible apply Lo.self | with_reducible apply Lo.new | with_reducible apply Lo.set | with_reducible apply Lo.self1 | with_reducible apply Lo.self2)); done) | (with_reducible apply Lo.ne1'; (repeat (first | with_reducible assumption | with_reducible apply Lo.self | with_reducible apply Lo.new | with_reducible apply Lo.set | with_reducible apply Lo.self1 | with_reducible apply Lo.self2)); done)); done))) | exact obj_here rfl)); (· exact rfl); (· exact rfl); (· exact rfl))
      | (apply op_at; (· exact rfl))
      | (apply dwp_cond_t; (· exact rfl); (· (first | with_reducible assumption | with_reducible rfl | decide)))
      | apply dwp_block
      | apply dwp_ret
      | fail)
    exact ⟨hab0.set (Nat.le_refl _) _, .inl ⟨by simp, rfl⟩⟩
  | true =>
    rw [hcb] at hchk
    by_cases h0 : l.length = 0
    · have hc : ((l.length : Int) == 0) = true := by simp [h0]
      refine enter rfl Try.func19 rfl Try.ntmps19 rfl ?_
      dsimp only [List.cons_append, List.nil_append, List.length_cons, List.length_nil, List.replicate_succ, List.replicate_zero, Nat.reduceAdd, Nat.reduceSub]
      repeat' (first
        | dsimp only [putD, DV.cells, DH.new_next, DH.set_next, List.length_cons, List.length_nil, Nat.reduceAdd, List.set_cons_zero, List.set_cons_succ, getD_zero, getD_succ, fieldAt_zero, fieldAt_succ, thenD, blockD, retR]
        | (refine ⟨_, resOf_ctt (loadD_at rfl (by repeat (first | with_reducible assumption | (with_reducible apply obj_here; with_reducible rfl) | with_reducible apply obj_set | (with_reducible apply obj_skip_lo; (· ((repeat (first | with_reducible assumption | with_reducible apply Lo.self | with_reducible apply Lo.new | with_reducible apply Lo.set | with_reducible apply Lo.self1 | with_reducible apply Lo.self2)); done))) | (with_reducible apply obj_past; (· ((first | with_reducible assumption | with_reducible apply ne_add1 | with_reducible apply ne_add1' | with_reducible apply ne_add2 | with_reducible apply ne_add2' | with_reducible apply ne_add12 | with_reducible apply ne_add21 | (with_reducible apply Lo.ne; (repeat (first | with_reducible assumption | with_reducible apply Lo.self | with_reducible apply Lo.new | with_reducible apply Lo.set | with_reducible apply Lo.self1 | with_reducible apply Lo.self2)); done) | (with_reducible apply Lo.ne1; (repeat (first | with_reducible assumption | with_reducible apply Lo.self | with_reducible apply Lo.new | with_reducible apply Lo.set | with_reducible apply Lo.self1 | with_reducible apply Lo.self2)); done) | (with_reducible apply Lo.ne'; (repeat (first | with_reducible assumption | with_reducible apply Lo.self | with_reducible apply Lo.new | with_reducible apply Lo.set | with_reducible apply Lo.self1 | with_reducible apply Lo.self2)); done) | (with_reducible apply Lo.ne1'; (repeat (first | with_reducible assumption | with_reducible apply Lo.self | with_reducible apply Lo.new | with_reducible apply Lo.set | with_reducible apply Lo.self1 | with_reducible apply Lo.self2)); done)); done))) | exact obj_here rfl)) rfl rfl), ?_⟩)
        | apply dwp_seq
        | apply dwp_region
        | apply ops_nil
        | (apply ops_plain; (· exact rfl))
        | (apply op_call; (· exact rfl); (· exact rfl); (· exact rfl); refine call_table (g := gCheck) rfl hchk ?_)
        | (apply op_store_at; (· exact rfl); (· exact rfl); (· exact rfl); (· repeat (first | with_reducible assumption | (with_reducible apply obj_here; with_reducible rfl) | with_reducible apply obj_set | (with_reducible apply obj_skip_lo; (· ((repeat (first | with_reducible assumption | with_reducible apply Lo.self | with_reducible apply Lo.new | with_reducible apply Lo.set | with_reducible apply Lo.self1 | with_reducible apply Lo.self2)); done))) | (with_reducible apply obj_past; (· ((first | with_reducible assumption | with_reducible apply ne_add1 | with_reducible apply ne_add1' | with_reducible apply ne_add2 | with_reducible apply ne_add2' | with_reducible apply ne_add12 | with_reducible apply ne_add21 | (with_reducible apply Lo.ne; (repeat (first | with_reducible assumption | with_reducible apply Lo.self | with_reducible apply Lo.new | with_reducible apply Lo.set | with_reducible apply Lo.self1 | with_reducible apply Lo.self2)); done) | (with_reducible apply Lo.ne1; (repeat (first | with_reducible assumption | with_reducible apply Lo.self | with_reducible apply Lo.new | with_reducible apply Lo.set | with_reducible apply Lo.self1 | with_reducible apply Lo.self2)); done) | (with_reducible apply Lo.ne'; (repeat (first | with_reducible assumption | with_reducible apply Lo.self | with_reducible apply Lo.new | with_reducible apply Lo.set | with_reducible apply Lo.self1 | with_reducible apply Lo.self2)); done) | (with_reducible apply Lo.ne1'; (repeat (first | with_reducible assumption | with_reducible apply Lo.self | with_reducible apply Lo.new | with_reducible apply Lo.set | with_reducible apply Lo.self1 | with_reducible apply Lo.self2)); done)); done))) | exact obj_here rfl)); (· exact rfl); (· exact rfl); (· exact rfl))
        | (apply op_at; (· exact rfl))
        | (apply dwp_cond_t; (· exact rfl); (· (first | with_reducible assumption | with_reducible rfl | decide)))
        | (apply dwp_cond_f; (· exact rfl); (· (first | with_reducible assumption | with_reducible rfl | decide)))
        | apply dwp_block
        | apply dwp_ret
        | fail)
      exact ⟨hab0.set (Nat.le_refl _) _, .inr (.inl ⟨by simp, List.length_eq_zero_iff.mp h0, rfl⟩)⟩
    · have hc : ((l.length : Int) == 0) = false := by simp only [beq_eq_false_iff_ne]; omega
      obtain ⟨x, hx⟩ : ∃ x, l[0]? = some x := ⟨l[0]'(by omega), List.getElem?_eq_getElem _⟩
      obtain ⟨loc, i0, ro, rs, rfl, hloc, ho, hrx⟩ := (hl.mono hab0).rd hx
      have hr1 : rs[i0 + ((0 : Int)).toNat]? = some x.cells := hrx
      have hin1 : 0 ≤ (0 : Int) ∧ (0 : Int) < (l.length : Int) := by omega
      refine enter rfl Try.func19 rfl Try.ntmps19 rfl ?_
      dsimp only [List.cons_append, List.nil_append, List.length_cons, List.length_nil, List.replicate_succ, List.replicate_zero, Nat.reduceAdd, Nat.reduceSub]
      repeat' (first
        | dsimp only [putD, DV.cells, DH.new_next, DH.set_next, List.length_cons, List.length_nil, Nat.reduceAdd, List.set_cons_zero, List.set_cons_succ, getD_zero, getD_succ, fieldAt_zero, fieldAt_succ, thenD, blockD, retR]
        | (refine ⟨_, resOf_ctt (loadD_at rfl (by repeat (first | with_reducible assumption | (with_reducible apply obj_here; with_reducible rfl) | with_reducible apply obj_set | (with_reducible apply obj_skip_lo; (· ((repeat (first | with_reducible assumption | with_reducible apply Lo.self | with_reducible apply Lo.new | with_reducible apply Lo.set | with_reducible apply Lo.self1 | with_reducible apply Lo.self2)); done))) | (with_reducible apply obj_past; (· ((first | with_reducible assumption | with_reducible apply ne_add1 | with_reducible apply ne_add1' | with_reducible apply ne_add2 | with_reducible apply ne_add2' | with_reducible apply ne_add12 | with_reducible apply ne_add21 | (with_reducible apply Lo.ne; (repeat (first | with_reducible assumption | with_reducible apply Lo.self | with_reducible apply Lo.new | with_reducible apply Lo.set | with_reducible apply Lo.self1 | with_reducible apply Lo.self2)); done) | (with_reducible apply Lo.ne1; (repeat (first | with_reducible assumption | with_reducible apply Lo.self | with_reducible apply Lo.new | with_reducible apply Lo.set | with_reducible apply Lo.self1 | with_reducible apply Lo.self2)); done) | (with_reducible apply Lo.ne'; (repeat (first | with_reducible assumption | with_reducible apply Lo.self | with_reducible apply Lo.new | with_reducible apply Lo.set | with_reducible apply Lo.self1 | with_reducible apply Lo.self2)); done) | (with_reducible apply Lo.ne1'; (repeat (first | with_reducible assumption | with_reducible apply Lo.self | with_reducible apply Lo.new | with_reducible apply Lo.set | with_reducible apply Lo.self1 | with_reducible apply Lo.self2)); done)); done))) | exact obj_here rfl)) rfl rfl), ?_⟩)
        | (apply drawp_pure; (· (first | exact wanted_plain rfl | (apply wanted_on; (· exact rfl); (· exact rfl); (· (first | with_reducible assumption | with_reducible rfl | decide))))); (· exact rfl); (· exact rfl); (· exact opD_index rfl rfl rfl rfl rfl hin1))
        | (apply drawp_read; (· (first | exact wanted_plain rfl | (apply wanted_on; (· exact rfl); (· exact rfl); (· (first | with_reducible assumption | with_reducible rfl | decide))))); (· exact rfl); (· exact rfl); (· decide +kernel); (· intro H' h; have h : Above _ _ := h; exact opD_load rfl rfl (h.obj (l := loc) (by exact hloc) (by exact ho)) (hr1) (item_part x)))
        | apply dwp_seq
        | apply dwp_region
        | apply ops_nil
        | (apply ops_plain; (· exact rfl))
        | (apply op_call; (· exact rfl); (· exact rfl); (· exact rfl); refine call_table (g := gCheck) rfl hchk ?_)
        | (apply op_call; (· exact rfl); (· exact rfl); (· exact rfl); refine (without56 _ _ c ex l 0 (hl.mono hab0) (by omega) hn).mono ?_; rintro r H1 ⟨hab1, hits⟩; have hcell1 := hab1.obj (l := H.next) (Nat.lt_succ_self _) (obj_here rfl); have hlo1 : Lo H1 H.next := lo (Nat.lt_of_lt_of_le (Nat.lt_succ_self _) hab1.le); refine ⟨hab1, ?_⟩)
        | (apply op_store_at; (· exact rfl); (· exact rfl); (· exact rfl); (· repeat (first | with_reducible assumption | (with_reducible apply obj_here; with_reducible rfl) | with_reducible apply obj_set | (with_reducible apply obj_skip_lo; (· ((repeat (first | with_reducible assumption | with_reducible apply Lo.self | with_reducible apply Lo.new | with_reducible apply Lo.set | with_reducible apply Lo.self1 | with_reducible apply Lo.self2)); done))) | (with_reducible apply obj_past; (· ((first | with_reducible assumption | with_reducible apply ne_add1 | with_reducible apply ne_add1' | with_reducible apply ne_add2 | with_reducible apply ne_add2' | with_reducible apply ne_add12 | with_reducible apply ne_add21 | (with_reducible apply Lo.ne; (repeat (first | with_reducible assumption | with_reducible apply Lo.self | with_reducible apply Lo.new | with_reducible apply Lo.set | with_reducible apply Lo.self1 | with_reducible apply Lo.self2)); done) | (with_reducible apply Lo.ne1; (repeat (first | with_reducible assumption | with_reducible apply Lo.self | with_reducible apply Lo.new | with_reducible apply Lo.set | with_reducible apply Lo.self1 | with_reducible apply Lo.self2)); done) | (with_reducible apply Lo.ne'; (repeat (first | with_reducible assumption | with_reducible apply Lo.self | with_reducible apply Lo.new | with_reducible apply Lo.set | with_reducible apply Lo.self1 | with_reducible apply Lo.self2)); done) | (with_reducible apply Lo.ne1'; (repeat (first | with_reducible assumption | with_reducible apply Lo.self | with_reducible apply Lo.new | with_reducible apply Lo.set | with_reducible apply Lo.self1 | with_reducible apply Lo.self2)); done)); done))) | exact obj_here rfl)); (· exact rfl); (· exact rfl); (· exact rfl))
        | (apply op_at; (· exact rfl))
        | refine dwp_drawp _ rfl (fun H' => Above _ H') (Above.refl _) ?_
        | apply drawp_nil
        | apply tand
        | (apply drawp_pure; (· (first | exact wanted_plain rfl | (apply wanted_on; (· exact rfl); (· exact rfl); (· (first | with_reducible assumption | with_reducible rfl | decide))))); (· exact rfl); (· exact rfl); (· exact rfl))
        | (apply drawp_sync_st (fun _ => True); (· exact rfl); (· (first | exact wanted_plain rfl | (apply wanted_on; (· exact rfl); (· exact rfl); (· (first | with_reducible assumption | with_reducible rfl | decide))))); (· decide +kernel))
        | (apply drawp_move; (· (first | exact wanted_plain rfl | (apply wanted_on; (· exact rfl); (· exact rfl); (· (first | with_reducible assumption | with_reducible rfl | decide))))); (· exact rfl); (· decide +kernel))
        | (apply dwp_cond_f; (· exact rfl); (· (first | with_reducible assumption | with_reducible rfl | decide)))
        | apply dwp_block
        | apply dwp_skip
        | apply dwp_ret
        | fail)
      refine ⟨(hab0.trans hab1).set (Nat.le_refl _) _, .inr (.inr ⟨by simp, x, r, hx, rfl, (hits.set (Nat.lt_succ_self _)).older (Nat.le_succ _)⟩)⟩
/-! ### Take -/
def takeF (l : List Item) (q : Int) : Nat → Int
  | 0 => -1
  | k + 1 => match l[k]? with
    | some x => if x.s == q && (decide (takeF l q k < 0) || (match l[(takeF l q k).toNat]? with | some y => ilt x y | none => false)) then (k : Int) else takeF l q k
    | none => takeF l q k
theorem takeF_bound (l : List Item) (q : Int) : ∀ k, -1 ≤ takeF l q k ∧ takeF l q k < (k : Int)
  | 0 => by simp [takeF]
  | k + 1 => by
    have ih := takeF_bound l q k
    simp only [takeF]
    split
    · split <;> omega
    · omega
theorem take28 (H : DH) (p : Option (Nat × Nat × Nat)) (c : Nat) (ex : Bool) (l : List Item) (q : Int) (hl : It H p c ex l) (hn : l.length ≤ 1000000) :
    CallWp Try.prog X4 28 [.sl p l.length c ex, .int .u64 q] H (fun r H' => Above H H' ∧
      ((checkB l = false ∧ r = .tuple [.agg itemZero, .sl none 0 0 true, .int .i64 1]) ∨ (checkB l = true ∧ takeF l q l.length < 0 ∧ r = .tuple [.agg itemZero, .sl none 0 0 true, .int .i64 8]) ∨
       (checkB l = true ∧ ∃ (k : Nat) (x : Item) (s : DV), takeF l q l.length = (k : Int) ∧ l[k]? = some x ∧ r = .tuple [.agg x.cells, s, .int .i64 0] ∧ ItsF H H' s (withoutL l k)))) := by
  have hab0 : Above H (H.new (.rows false 6 [itemZero])) := (Above.refl H).new _
  have hchk := (hl.mono hab0).check
  cases hcb : checkB l with
  | false =>
    rw [hcb] at hchk
    refine enter rfl Try.func28 rfl Try.ntmps28 rfl ?_
    dsimp only [List.cons_append, List.nil_append, List.length_cons, List.length_nil, List.replicate_succ, List.replicate_zero, Nat.reduceAdd, Nat.reduceSub]
    repeat' (first
      | dsimp only [putD, DV.cells, DH.new_next, DH.set_next, List.length_cons, List.length_nil, Nat.reduceAdd, List.set_cons_zero, List.set_cons_succ, getD_zero, getD_succ, fieldAt_zero, fieldAt_succ, thenD, blockD, retR]
      | (refine ⟨_, resOf_ctt (loadD_at rfl (by repeat (first | with_reducible assumption | (with_reducible apply obj_here; with_reducible rfl) | with_reducible apply obj_set | (with_reducible apply obj_skip_lo; (· ((repeat (first | with_reducible assumption | with_reducible apply Lo.self | with_reducible apply Lo.new | with_reducible apply Lo.set | with_reducible apply Lo.self1 | with_reducible apply Lo.self2)); done))) | (with_reducible apply obj_past; (· ((first | with_reducible assumption | with_reducible apply ne_add1 | with_reducible apply ne_add1' | with_reducible apply ne_add2 | with_reducible apply ne_add2' | with_reducible apply ne_add12 | with_reducible apply ne_add21 | (with_reducible apply Lo.ne; (repeat (first | with_reducible assumption | with_reducible apply Lo.self | with_reducible apply Lo.new | with_reducible apply Lo.set | with_reducible apply Lo.self1 | with_reducible apply Lo.self2)); done) | (with_reducible apply Lo.ne1; (repeat (first | with_reducible assumption | with_reducible apply Lo.self | with_reducible apply Lo.new | with_reducible apply Lo.set | with_reducible apply Lo.self1 | with_reducible apply Lo.self2)); done) | (with_reducible apply Lo.ne'; (repeat (first | with_reducible assumption | with_reducible apply Lo.self | with_reducible apply Lo.new | with_reducible apply Lo.set | with_reducible apply Lo.self1 | with_reducible apply Lo.self2)); done) | (with_reducible apply Lo.ne1'; (repeat (first | with_reducible assumption | with_reducible apply Lo.self | with_reducible apply Lo.new | with_reducible apply Lo.set | with_reducible apply Lo.self1 | with_reducible apply Lo.self2)); done)); done))) | exact obj_here rfl)) rfl rfl), ?_⟩)
      | apply dwp_seq
      | apply dwp_region
      | apply ops_nil
      | (apply ops_plain; (· exact rfl))
      | (apply op_call; (· exact rfl); (· exact rfl); (· exact rfl); refine call_table (g := gCheck) rfl hchk ?_)
      | (apply op_store_at; (· exact rfl); (· exact rfl); (· exact rfl); (· repeat (first | with_reducible assumption | (with_reducible apply obj_here; with_reducible rfl) | with_reducible apply obj_set | (with_reducible apply obj_skip_lo; (· ((repeat (first | with_reducible assumption | with_reducible apply Lo.self | with_reducible apply Lo.new | with_reducible apply Lo.set | with_reducible apply Lo.self1 | with_reducible apply Lo.self2)); done))) | (with_reducible apply obj_past; (· ((first | with_reducible assumption | with_reducible apply ne_add1 | with_reducible apply ne_add1' | with_reducible apply ne_add2 | with_reducible apply ne_add2' | with_reducible apply ne_add12 | with_reducible apply ne_add21 | (with_reducible apply Lo.ne; (repeat (first | with_reducible assumption | with_reducible apply Lo.self | with_reducible apply Lo.new | with_reducible apply Lo.set | with_reducible apply Lo.self1 | with_reducible apply Lo.self2)); done) | (with_reducible apply Lo.ne1; (repeat (first | with_reducible assumption | with_reducible apply Lo.self | with_reducible apply Lo.new | with_reducible apply Lo.set | with_reducible apply Lo.self1 | with_reducible apply Lo.self2)); done) | (with_reducible apply Lo.ne'; (repeat (first | with_reducible assumption | with_reducible apply Lo.self | with_reducible apply Lo.new | with_reducible apply Lo.set | with_reducible apply Lo.self1 | with_reducible apply Lo.self2)); done) | (with_reducible apply Lo.ne1'; (repeat (first | with_reducible assumption | with_reducible apply Lo.self | with_reducible apply Lo.new | with_reducible apply Lo.set | with_reducible apply Lo.self1 | with_reducible apply Lo.self2)); done)); done))) | exact obj_here rfl)); (· exact rfl); (· exact rfl); (· exact rfl))
      | (apply op_at; (· exact rfl))
      | (apply dwp_cond_t; (· exact rfl); (· (first | with_reducible assumption | with_reducible rfl | decide)))
      | apply dwp_ret
      | fail)
    exact ⟨hab0.set (Nat.le_refl _) _, .inl ⟨by simp, rfl⟩⟩
  | true =>
    rw [hcb] at hchk
    refine enter rfl Try.func28 rfl Try.ntmps28 rfl ?_
    dsimp only [List.cons_append, List.nil_append, List.length_cons, List.length_nil, List.replicate_succ, List.replicate_zero, Nat.reduceAdd, Nat.reduceSub]
    repeat' (first
      | dsimp only [putD, DV.cells, DH.new_next, DH.set_next, List.length_cons, List.length_nil, Nat.reduceAdd, List.set_cons_zero, List.set_cons_succ, getD_zero, getD_succ, fieldAt_zero, fieldAt_succ, thenD, blockD, retR]
      | apply dwp_seq
      | apply dwp_region
      | apply ops_nil
      | (apply ops_plain; (· exact rfl))
      | (apply op_call; (· exact rfl); (· exact rfl); (· exact rfl); refine call_table (g := gCheck) rfl hchk ?_)
      | (apply op_at; (· exact rfl))
      | (apply dwp_cond_f; (· exact rfl); (· (first | with_reducible assumption | with_reducible rfl | decide)))
      | apply dwp_block
      | apply dwp_skip
      | fail)
    refine dwp_loop (fun st => ∃ (Hk : DH) (k : Nat) (a7 : Int), ∃ J : Nat → DV, (a7 = takeF l q k ∧ k ≤ l.length ∧ Above (H.new (.rows false 6 [itemZero])) Hk) ∧ st = ⟨(.sl p l.length c ex :: .int .u64 q :: J 2 :: J 3 :: .ptr (some (H.next, 0, 0)) :: .sl none 0 0 true :: .int .i64 0 :: .int .i64 a7 :: J 8 :: J 9 :: J 10 :: J 11 :: J 12 :: J 13 :: .sl p l.length c ex :: .int .i64 l.length :: .int .i64 (k : Int) :: J 17 :: J 18 :: J 19 :: J 20 :: J 21 :: J 22 :: J 23 :: J 24 :: J 25 :: J 26 :: J 27 :: J 28 :: J 29 :: J 30 :: J 31 :: J 32 :: J 33 :: J 34 :: J 35 :: J 36 :: J 37 :: J 38 :: J 39 :: J 40 :: J 41 :: J 42 :: J 43 :: J 44 :: J 45 :: J 46 :: J 47 :: J 48 :: []), Hk⟩) (fun st => l.length - kOf st 16) (⟨_, 0, _, junk_facts (⟨rfl, Nat.zero_le _, Above.refl _⟩) rfl rfl⟩) ?_
    rintro st ⟨Hk, k, a7, J, ⟨rfl, hk, hab⟩, rfl⟩
    have hloH : Lo Hk H.next := lo (Nat.lt_of_lt_of_le (Nat.lt_succ_self _) hab.le)
    have hcellH : Hk.obj H.next = some (.rows false 6 [itemZero]) := hab.obj (Nat.lt_succ_self _) (obj_here rfl)
    by_cases hlt : k < l.length
    · obtain ⟨x, hx⟩ : ∃ x, l[k]? = some x := ⟨l[k], List.getElem?_eq_getElem hlt⟩
      obtain ⟨loc, i0, ro, rs, rfl, hloc, ho, hrx⟩ := hl.rd hx
      have ho0 := (hab0.trans hab).obj hloc ho
      have hlo0 : Lo Hk loc := lo (Nat.lt_of_lt_of_le hloc (hab0.trans hab).le)
      have hr1 : rs[i0 + ((k : Int)).toNat]? = some x.cells := by rw [Int.toNat_natCast]; exact hrx
      have hc : decide ((k : Int) < (l.length : Int)) = true := by simp [hlt]
      have hin1 : 0 ≤ (k : Int) ∧ (k : Int) < (l.length : Int) := by omega
      have hw := wrapNat (k := k) (by omega)
      have hb := takeF_bound l q k
      have hnx : Above (H.new (.rows false 6 [itemZero])) ((Hk.new (.rows false 6 [itemZero])).set Hk.next (some (.rows false 6 [x.cells]))) := (hab.new _).set hab.le _
      have hmes : l.length - ((k + 1 : Nat) : Int).toNat < l.length - (k : Int).toNat := by omega
      cases hq : x.s == q with
      | false =>
        have ht : takeF l q (k + 1) = takeF l q k := by simp only [takeF, hx, hq, Bool.false_and]; rfl
        repeat' (first
          | dsimp only [putD, DV.cells, DH.new_next, DH.set_next, List.length_cons, List.length_nil, Nat.reduceAdd, List.set_cons_zero, List.set_cons_succ, getD_zero, getD_succ, fieldAt_zero, fieldAt_succ, thenD, blockD, retR]
          | apply dwp_seq
          | apply dwp_region
          | apply ops_nil
          | (apply ops_plain; (· exact rfl))
          | (apply op_index_at; (· exact rfl); (· exact rfl); (· exact rfl); (· with_reducible exact hin1); (· exact rfl); (· exact rfl))
          | (apply op_load_at; (· exact rfl); (· exact rfl); (· with_reducible exact ho0); (· with_reducible exact hr1); (· exact (item_part x)))
          | (apply op_store_at; (· exact rfl); (· exact rfl); (· exact rfl); (· repeat (first | with_reducible assumption | (with_reducible apply obj_here; with_reducible rfl) | with_reducible apply obj_set | (with_reducible apply obj_skip_lo; (· ((repeat (first | with_reducible assumption | with_reducible apply Lo.self | with_reducible apply Lo.new | with_reducible apply Lo.set | with_reducible apply Lo.self1 | with_reducible apply Lo.self2)); done))) | (with_reducible apply obj_past; (· ((first | with_reducible assumption | with_reducible apply ne_add1 | with_reducible apply ne_add1' | with_reducible apply ne_add2 | with_reducible apply ne_add2' | with_reducible apply ne_add12 | with_reducible apply ne_add21 | (with_reducible apply Lo.ne; (repeat (first | with_reducible assumption | with_reducible apply Lo.self | with_reducible apply Lo.new | with_reducible apply Lo.set | with_reducible apply Lo.self1 | with_reducible apply Lo.self2)); done) | (with_reducible apply Lo.ne1; (repeat (first | with_reducible assumption | with_reducible apply Lo.self | with_reducible apply Lo.new | with_reducible apply Lo.set | with_reducible apply Lo.self1 | with_reducible apply Lo.self2)); done) | (with_reducible apply Lo.ne'; (repeat (first | with_reducible assumption | with_reducible apply Lo.self | with_reducible apply Lo.new | with_reducible apply Lo.set | with_reducible apply Lo.self1 | with_reducible apply Lo.self2)); done) | (with_reducible apply Lo.ne1'; (repeat (first | with_reducible assumption | with_reducible apply Lo.self | with_reducible apply Lo.new | with_reducible apply Lo.set | with_reducible apply Lo.self1 | with_reducible apply Lo.self2)); done)); done))) | exact obj_here rfl)); (· exact rfl); (· exact rfl); (· exact rfl))
          | (apply op_at; (· exact rfl))
          | refine dwp_drawc _ rfl ?_
          | apply drawc_nil
          | (apply drawc_read_at; (· exact rfl); (· (first | exact wanted_plain rfl | (apply wanted_on; (· exact rfl); (· exact rfl); (· (first | with_reducible assumption | with_reducible rfl | decide))))); (· exact rfl); (· repeat (first | with_reducible assumption | (with_reducible apply obj_here; with_reducible rfl) | with_reducible apply obj_set | (with_reducible apply obj_skip_lo; (· ((repeat (first | with_reducible assumption | with_reducible apply Lo.self | with_reducible apply Lo.new | with_reducible apply Lo.set | with_reducible apply Lo.self1 | with_reducible apply Lo.self2)); done))) | (with_reducible apply obj_past; (· ((first | with_reducible assumption | with_reducible apply ne_add1 | with_reducible apply ne_add1' | with_reducible apply ne_add2 | with_reducible apply ne_add2' | with_reducible apply ne_add12 | with_reducible apply ne_add21 | (with_reducible apply Lo.ne; (repeat (first | with_reducible assumption | with_reducible apply Lo.self | with_reducible apply Lo.new | with_reducible apply Lo.set | with_reducible apply Lo.self1 | with_reducible apply Lo.self2)); done) | (with_reducible apply Lo.ne1; (repeat (first | with_reducible assumption | with_reducible apply Lo.self | with_reducible apply Lo.new | with_reducible apply Lo.set | with_reducible apply Lo.self1 | with_reducible apply Lo.self2)); done) | (with_reducible apply Lo.ne'; (repeat (first | with_reducible assumption | with_reducible apply Lo.self | with_reducible apply Lo.new | with_reducible apply Lo.set | with_reducible apply Lo.self1 | with_reducible apply Lo.self2)); done) | (with_reducible apply Lo.ne1'; (repeat (first | with_reducible assumption | with_reducible apply Lo.self | with_reducible apply Lo.new | with_reducible apply Lo.set | with_reducible apply Lo.self1 | with_reducible apply Lo.self2)); done)); done))) | exact obj_here rfl)); (· exact rfl); (· exact rfl); (· decide +kernel))
          | (apply drawc_pick_f; (· (first | exact wanted_plain rfl | (apply wanted_on; (· exact rfl); (· exact rfl); (· (first | with_reducible assumption | with_reducible rfl | decide))))); (· exact rfl); (· exact rfl); (· (first | with_reducible assumption | with_reducible rfl | decide)); (· exact rfl))
          | (apply drawc_pure; (· (first | exact wanted_plain rfl | (apply wanted_on; (· exact rfl); (· exact rfl); (· (first | with_reducible assumption | with_reducible rfl | decide))))); (· exact rfl); (· exact rfl); (· exact rfl))
          | (apply drawc_off; (· (first | (apply wanted_off1; (· exact rfl); (· exact rfl); (· (first | with_reducible assumption | with_reducible rfl | decide))) | (apply wanted_off0; (· exact rfl); (· exact rfl); (· (first | with_reducible assumption | with_reducible rfl | decide))) | (apply wanted_none; (· exact rfl); (· exact rfl)))))
          | (apply dwp_cond_t; (· exact rfl); (· (first | with_reducible assumption | with_reducible rfl | decide)))
          | (apply dwp_cond_f; (· exact rfl); (· (first | with_reducible assumption | with_reducible rfl | decide)))
          | apply dwp_block
          | apply dwp_skip
          | fail)
        rw [hw]
        exact ⟨⟨_, k + 1, _, junk_facts (⟨ht.symm, by omega, hnx⟩) rfl rfl⟩, hmes⟩
      | true =>
        by_cases ha : takeF l q k < 0
        · have hca : decide (takeF l q k < 0) = true := by simp [ha]
          have ht : takeF l q (k + 1) = (k : Int) := by simp only [takeF, hx, hq, hca]; rfl
          repeat' (first
            | dsimp only [putD, DV.cells, DH.new_next, DH.set_next, List.length_cons, List.length_nil, Nat.reduceAdd, List.set_cons_zero, List.set_cons_succ, getD_zero, getD_succ, fieldAt_zero, fieldAt_succ, thenD, blockD, retR]
            | apply dwp_seq
            | apply dwp_region
            | apply ops_nil
            | (apply ops_plain; (· exact rfl))
            | (apply op_index_at; (· exact rfl); (· exact rfl); (· exact rfl); (· with_reducible exact hin1); (· exact rfl); (· exact rfl))
            | (apply op_load_at; (· exact rfl); (· exact rfl); (· with_reducible exact ho0); (· with_reducible exact hr1); (· exact (item_part x)))
            | (apply op_store_at; (· exact rfl); (· exact rfl); (· exact rfl); (· repeat (first | with_reducible assumption | (with_reducible apply obj_here; with_reducible rfl) | with_reducible apply obj_set | (with_reducible apply obj_skip_lo; (· ((repeat (first | with_reducible assumption | with_reducible apply Lo.self | with_reducible apply Lo.new | with_reducible apply Lo.set | with_reducible apply Lo.self1 | with_reducible apply Lo.self2)); done))) | (with_reducible apply obj_past; (· ((first | with_reducible assumption | with_reducible apply ne_add1 | with_reducible apply ne_add1' | with_reducible apply ne_add2 | with_reducible apply ne_add2' | with_reducible apply ne_add12 | with_reducible apply ne_add21 | (with_reducible apply Lo.ne; (repeat (first | with_reducible assumption | with_reducible apply Lo.self | with_reducible apply Lo.new | with_reducible apply Lo.set | with_reducible apply Lo.self1 | with_reducible apply Lo.self2)); done) | (with_reducible apply Lo.ne1; (repeat (first | with_reducible assumption | with_reducible apply Lo.self | with_reducible apply Lo.new | with_reducible apply Lo.set | with_reducible apply Lo.self1 | with_reducible apply Lo.self2)); done) | (with_reducible apply Lo.ne'; (repeat (first | with_reducible assumption | with_reducible apply Lo.self | with_reducible apply Lo.new | with_reducible apply Lo.set | with_reducible apply Lo.self1 | with_reducible apply Lo.self2)); done) | (with_reducible apply Lo.ne1'; (repeat (first | with_reducible assumption | with_reducible apply Lo.self | with_reducible apply Lo.new | with_reducible apply Lo.set | with_reducible apply Lo.self1 | with_reducible apply Lo.self2)); done)); done))) | exact obj_here rfl)); (· exact rfl); (· exact rfl); (· exact rfl))
            | (apply op_at; (· exact rfl))
            | refine dwp_drawc _ rfl ?_
            | apply drawc_nil
            | (apply drawc_read_at; (· exact rfl); (· (first | exact wanted_plain rfl | (apply wanted_on; (· exact rfl); (· exact rfl); (· (first | with_reducible assumption | with_reducible rfl | decide))))); (· exact rfl); (· repeat (first | with_reducible assumption | (with_reducible apply obj_here; with_reducible rfl) | with_reducible apply obj_set | (with_reducible apply obj_skip_lo; (· ((repeat (first | with_reducible assumption | with_reducible apply Lo.self | with_reducible apply Lo.new | with_reducible apply Lo.set | with_reducible apply Lo.self1 | with_reducible apply Lo.self2)); done))) | (with_reducible apply obj_past; (· ((first | with_reducible assumption | with_reducible apply ne_add1 | with_reducible apply ne_add1' | with_reducible apply ne_add2 | with_reducible apply ne_add2' | with_reducible apply ne_add12 | with_reducible apply ne_add21 | (with_reducible apply Lo.ne; (repeat (first | with_reducible assumption | with_reducible apply Lo.self | with_reducible apply Lo.new | with_reducible apply Lo.set | with_reducible apply Lo.self1 | with_reducible apply Lo.self2)); done) | (with_reducible apply Lo.ne1; (repeat (first | with_reducible assumption | with_reducible apply Lo.self | with_reducible apply Lo.new | with_reducible apply Lo.set | with_reducible apply Lo.self1 | with_reducible apply Lo.self2)); done) | (with_reducible apply Lo.ne'; (repeat (first | with_reducible assumption | with_reducible apply Lo.self | with_reducible apply Lo.new | with_reducible apply Lo.set | with_reducible apply Lo.self1 | with_reducible apply Lo.self2)); done) | (with_reducible apply Lo.ne1'; (repeat (first | with_reducible assumption | with_reducible apply Lo.self | with_reducible apply Lo.new | with_reducible apply Lo.set | with_reducible apply Lo.self1 | with_reducible apply Lo.self2)); done)); done))) | exact obj_here rfl)); (· exact rfl); (· exact rfl); (· decide +kernel))
            | (apply drawc_pick_t; (· (first | exact wanted_plain rfl | (apply wanted_on; (· exact rfl); (· exact rfl); (· (first | with_reducible assumption | with_reducible rfl | decide))))); (· exact rfl); (· exact rfl); (· (first | with_reducible assumption | with_reducible rfl | decide)); (· exact rfl))
            | (apply drawc_pure; (· (first | exact wanted_plain rfl | (apply wanted_on; (· exact rfl); (· exact rfl); (· (first | with_reducible assumption | with_reducible rfl | decide))))); (· exact rfl); (· exact rfl); (· exact rfl))
            | (apply drawc_off; (· (first | (apply wanted_off1; (· exact rfl); (· exact rfl); (· (first | with_reducible assumption | with_reducible rfl | decide))) | (apply wanted_off0; (· exact rfl); (· exact rfl); (· (first | with_reducible assumption | with_reducible rfl | decide))) | (apply wanted_none; (· exact rfl); (· exact rfl)))))
            | (apply dwp_cond_t; (· exact rfl); (· (first | with_reducible assumption | with_reducible rfl | decide)))
            | apply dwp_block
            | apply dwp_skip
            | fail)
          rw [hw]
          exact ⟨⟨_, k + 1, _, junk_facts (⟨ht.symm, by omega, hnx⟩) rfl rfl⟩, hmes⟩
        · have hca : decide (takeF l q k < 0) = false := by simp; omega
          obtain ⟨a, hae⟩ : ∃ a : Nat, takeF l q k = (a : Int) := ⟨(takeF l q k).toNat, by omega⟩
          obtain ⟨y, hy⟩ : ∃ y, l[a]? = some y := ⟨l[a]'(by omega), List.getElem?_eq_getElem _⟩
          obtain ⟨loc', i0', ro', rs', he, _, ho', hry⟩ := hl.rd hy
          cases he
          rw [ho] at ho'; cases ho'
          have hr2 : rs[i0 + (takeF l q k).toNat]? = some y.cells := by rw [hae, Int.toNat_natCast]; exact hry
          have hin2 : 0 ≤ takeF l q k ∧ takeF l q k < (l.length : Int) := by omega
          have hox : ((Hk.new (.rows false 6 [itemZero])).set Hk.next (some (.rows false 6 [x.cells]))).obj loc = some (.rows ro 6 rs) := obj_past hlo0.ne (obj_skip hlo0.ne ho0)
          have ht : takeF l q (k + 1) = if ilt x y then (k : Int) else takeF l q k := by simp only [takeF, hx, hq, hca, hae, Int.toNat_natCast, hy]; rfl
          repeat' (first
            | dsimp only [putD, DV.cells, DH.new_next, DH.set_next, List.length_cons, List.length_nil, Nat.reduceAdd, List.set_cons_zero, List.set_cons_succ, getD_zero, getD_succ, fieldAt_zero, fieldAt_succ, thenD, blockD, retR]
            | (apply drawc_pure; (· (first | exact wanted_plain rfl | (apply wanted_on; (· exact rfl); (· exact rfl); (· (first | with_reducible assumption | with_reducible rfl | decide))))); (· exact rfl); (· exact rfl); (· exact opD_index rfl rfl rfl rfl rfl hin2))
            | (apply drawc_read_at; (· exact rfl); (· (first | exact wanted_plain rfl | (apply wanted_on; (· exact rfl); (· exact rfl); (· (first | with_reducible assumption | with_reducible rfl | decide))))); (· exact rfl); (· exact hox); (· with_reducible exact hr2); (· exact item_part y); (· decide +kernel))
            | (apply drawc_read_at; (· exact rfl); (· (first | exact wanted_plain rfl | (apply wanted_on; (· exact rfl); (· exact rfl); (· (first | with_reducible assumption | with_reducible rfl | decide))))); (· exact rfl); (· exact obj_set); (· exact rfl); (· exact item_part x); (· decide +kernel))
            | apply dwp_seq
            | apply dwp_region
            | apply ops_nil
            | (apply ops_plain; (· exact rfl))
            | (apply op_index_at; (· exact rfl); (· exact rfl); (· exact rfl); (· with_reducible exact hin1); (· exact rfl); (· exact rfl))
            | (apply op_load_at; (· exact rfl); (· exact rfl); (· with_reducible exact ho0); (· with_reducible exact hr1); (· exact (item_part x)))
            | (apply op_store_at; (· exact rfl); (· exact rfl); (· exact rfl); (· repeat (first | with_reducible assumption | (with_reducible apply obj_here; with_reducible rfl) | with_reducible apply obj_set | (with_reducible apply obj_skip_lo; (· ((repeat (first | with_reducible assumption | with_reducible apply Lo.self | with_reducible apply Lo.new | with_reducible apply Lo.set | with_reducible apply Lo.self1 | with_reducible apply Lo.self2)); done))) | (with_reducible apply obj_past; (· ((first | with_reducible assumption | with_reducible apply ne_add1 | with_reducible apply ne_add1' | with_reducible apply ne_add2 | with_reducible apply ne_add2' | with_reducible apply ne_add12 | with_reducible apply ne_add21 | (with_reducible apply Lo.ne; (repeat (first | with_reducible assumption | with_reducible apply Lo.self | with_reducible apply Lo.new | with_reducible apply Lo.set | with_reducible apply Lo.self1 | with_reducible apply Lo.self2)); done) | (with_reducible apply Lo.ne1; (repeat (first | with_reducible assumption | with_reducible apply Lo.self | with_reducible apply Lo.new | with_reducible apply Lo.set | with_reducible apply Lo.self1 | with_reducible apply Lo.self2)); done) | (with_reducible apply Lo.ne'; (repeat (first | with_reducible assumption | with_reducible apply Lo.self | with_reducible apply Lo.new | with_reducible apply Lo.set | with_reducible apply Lo.self1 | with_reducible apply Lo.self2)); done) | (with_reducible apply Lo.ne1'; (repeat (first | with_reducible assumption | with_reducible apply Lo.self | with_reducible apply Lo.new | with_reducible apply Lo.set | with_reducible apply Lo.self1 | with_reducible apply Lo.self2)); done)); done))) | exact obj_here rfl)); (· exact rfl); (· exact rfl); (· exact rfl))
            | (apply op_at; (· exact rfl))
            | refine dwp_drawc _ rfl ?_
            | apply drawc_nil
            | (apply drawc_read_at; (· exact rfl); (· (first | exact wanted_plain rfl | (apply wanted_on; (· exact rfl); (· exact rfl); (· (first | with_reducible assumption | with_reducible rfl | decide))))); (· exact rfl); (· repeat (first | with_reducible assumption | (with_reducible apply obj_here; with_reducible rfl) | with_reducible apply obj_set | (with_reducible apply obj_skip_lo; (· ((repeat (first | with_reducible assumption | with_reducible apply Lo.self | with_reducible apply Lo.new | with_reducible apply Lo.set | with_reducible apply Lo.self1 | with_reducible apply Lo.self2)); done))) | (with_reducible apply obj_past; (· ((first | with_reducible assumption | with_reducible apply ne_add1 | with_reducible apply ne_add1' | with_reducible apply ne_add2 | with_reducible apply ne_add2' | with_reducible apply ne_add12 | with_reducible apply ne_add21 | (with_reducible apply Lo.ne; (repeat (first | with_reducible assumption | with_reducible apply Lo.self | with_reducible apply Lo.new | with_reducible apply Lo.set | with_reducible apply Lo.self1 | with_reducible apply Lo.self2)); done) | (with_reducible apply Lo.ne1; (repeat (first | with_reducible assumption | with_reducible apply Lo.self | with_reducible apply Lo.new | with_reducible apply Lo.set | with_reducible apply Lo.self1 | with_reducible apply Lo.self2)); done) | (with_reducible apply Lo.ne'; (repeat (first | with_reducible assumption | with_reducible apply Lo.self | with_reducible apply Lo.new | with_reducible apply Lo.set | with_reducible apply Lo.self1 | with_reducible apply Lo.self2)); done) | (with_reducible apply Lo.ne1'; (repeat (first | with_reducible assumption | with_reducible apply Lo.self | with_reducible apply Lo.new | with_reducible apply Lo.set | with_reducible apply Lo.self1 | with_reducible apply Lo.self2)); done)); done))) | exact obj_here rfl)); (· exact rfl); (· exact rfl); (· decide +kernel))
            | (apply drawc_pick_t; (· (first | exact wanted_plain rfl | (apply wanted_on; (· exact rfl); (· exact rfl); (· (first | with_reducible assumption | with_reducible rfl | decide))))); (· exact rfl); (· exact rfl); (· (first | with_reducible assumption | with_reducible rfl | decide)); (· exact rfl))
            | (apply drawc_pick_f; (· (first | exact wanted_plain rfl | (apply wanted_on; (· exact rfl); (· exact rfl); (· (first | with_reducible assumption | with_reducible rfl | decide))))); (· exact rfl); (· exact rfl); (· (first | with_reducible assumption | with_reducible rfl | decide)); (· exact rfl))
            | (apply drawc_pure; (· (first | exact wanted_plain rfl | (apply wanted_on; (· exact rfl); (· exact rfl); (· (first | with_reducible assumption | with_reducible rfl | decide))))); (· exact rfl); (· exact rfl); (· exact rfl))
            | (apply drawc_same; (· (first | exact wanted_plain rfl | (apply wanted_on; (· exact rfl); (· exact rfl); (· (first | with_reducible assumption | with_reducible rfl | decide))))); (· exact rfl); (· decide +kernel); (first | (apply op_call; (· exact rfl); (· exact rfl); (· exact rfl); refine call_table (g := gLess) rfl (gLess_at x y _) ?_; refine ⟨rfl, ?_⟩)))
            | (apply dwp_cond_t; (· exact rfl); (· (first | with_reducible assumption | with_reducible rfl | decide)))
            | (refine dwp_cond rfl ?_ ?_ <;> intro hb)
            | apply dwp_block
            | apply dwp_skip
            | fail)
          · rw [hb, if_pos rfl] at ht
            rw [hw]
            exact ⟨⟨_, k + 1, _, junk_facts (⟨ht.symm, by omega, hnx⟩) rfl rfl⟩, hmes⟩
          · rw [hb, if_neg (by simp)] at ht
            rw [hw]
            exact ⟨⟨_, k + 1, _, junk_facts (⟨ht.symm, by omega, hnx⟩) rfl rfl⟩, hmes⟩
    · have hc : decide ((k : Int) < (l.length : Int)) = false := by simp; omega
      obtain rfl : k = l.length := by omega
      have hb := takeF_bound l q l.length
      by_cases ha : takeF l q l.length < 0
      · have hca : decide (takeF l q l.length < 0) = true := by simp [ha]
        repeat' (first
          | dsimp only [putD, DV.cells, DH.new_next, DH.set_next, List.length_cons, List.length_nil, Nat.reduceAdd, List.set_cons_zero, List.set_cons_succ, getD_zero, getD_succ, fieldAt_zero, fieldAt_succ, thenD, blockD, retR]
          | (refine ⟨_, resOf_ctt (loadD_at rfl (by repeat (first | with_reducible assumption | (with_reducible apply obj_here; with_reducible rfl) | with_reducible apply obj_set | (with_reducible apply obj_skip_lo; (· ((repeat (first | with_reducible assumption | with_reducible apply Lo.self | with_reducible apply Lo.new | with_reducible apply Lo.set | with_reducible apply Lo.self1 | with_reducible apply Lo.self2)); done))) | (with_reducible apply obj_past; (· ((first | with_reducible assumption | with_reducible apply ne_add1 | with_reducible apply ne_add1' | with_reducible apply ne_add2 | with_reducible apply ne_add2' | with_reducible apply ne_add12 | with_reducible apply ne_add21 | (with_reducible apply Lo.ne; (repeat (first | with_reducible assumption | with_reducible apply Lo.self | with_reducible apply Lo.new | with_reducible apply Lo.set | with_reducible apply Lo.self1 | with_reducible apply Lo.self2)); done) | (with_reducible apply Lo.ne1; (repeat (first | with_reducible assumption | with_reducible apply Lo.self | with_reducible apply Lo.new | with_reducible apply Lo.set | with_reducible apply Lo.self1 | with_reducible apply Lo.self2)); done) | (with_reducible apply Lo.ne'; (repeat (first | with_reducible assumption | with_reducible apply Lo.self | with_reducible apply Lo.new | with_reducible apply Lo.set | with_reducible apply Lo.self1 | with_reducible apply Lo.self2)); done) | (with_reducible apply Lo.ne1'; (repeat (first | with_reducible assumption | with_reducible apply Lo.self | with_reducible apply Lo.new | with_reducible apply Lo.set | with_reducible apply Lo.self1 | with_reducible apply Lo.self2)); done)); done))) | exact obj_here rfl)) rfl rfl), ?_⟩)
          | apply dwp_seq
          | apply dwp_region
          | apply ops_nil
          | (apply ops_plain; (· exact rfl))
          | (apply op_store_at; (· exact rfl); (· exact rfl); (· exact rfl); (· repeat (first | with_reducible assumption | (with_reducible apply obj_here; with_reducible rfl) | with_reducible apply obj_set | (with_reducible apply obj_skip_lo; (· ((repeat (first | with_reducible assumption | with_reducible apply Lo.self | with_reducible apply Lo.new | with_reducible apply Lo.set | with_reducible apply Lo.self1 | with_reducible apply Lo.self2)); done))) | (with_reducible apply obj_past; (· ((first | with_reducible assumption | with_reducible apply ne_add1 | with_reducible apply ne_add1' | with_reducible apply ne_add2 | with_reducible apply ne_add2' | with_reducible apply ne_add12 | with_reducible apply ne_add21 | (with_reducible apply Lo.ne; (repeat (first | with_reducible assumption | with_reducible apply Lo.self | with_reducible apply Lo.new | with_reducible apply Lo.set | with_reducible apply Lo.self1 | with_reducible apply Lo.self2)); done) | (with_reducible apply Lo.ne1; (repeat (first | with_reducible assumption | with_reducible apply Lo.self | with_reducible apply Lo.new | with_reducible apply Lo.set | with_reducible apply Lo.self1 | with_reducible apply Lo.self2)); done) | (with_reducible apply Lo.ne'; (repeat (first | with_reducible assumption | with_reducible apply Lo.self | with_reducible apply Lo.new | with_reducible apply Lo.set | with_reducible apply Lo.self1 | with_reducible apply Lo.self2)); done) | (with_reducible apply Lo.ne1'; (repeat (first | with_reducible assumption | with_reducible apply Lo.self | with_reducible apply Lo.new | with_reducible apply Lo.set | with_reducible apply Lo.self1 | with_reducible apply Lo.self2)); done)); done))) | exact obj_here rfl)); (· exact rfl); (· exact rfl); (· exact rfl))
          | (apply op_at; (· exact rfl))
          | (apply dwp_cond_t; (· exact rfl); (· (first | with_reducible assumption | with_reducible rfl | decide)))
          | (apply dwp_cond_f; (· exact rfl); (· (first | with_reducible assumption | with_reducible rfl | decide)))
          | apply dwp_ret
          | apply dwp_exit
          | fail)
        exact ⟨(hab0.trans hab).set (Nat.le_refl _) _, .inr (.inl ⟨by simp, ha, rfl⟩)⟩
      · have hca : decide (takeF l q l.length < 0) = false := by simp; omega
        obtain ⟨a, hae⟩ : ∃ a : Nat, takeF l q l.length = (a : Int) := ⟨(takeF l q l.length).toNat, by omega⟩
        obtain ⟨x, hx⟩ : ∃ x, l[a]? = some x := ⟨l[a]'(by omega), List.getElem?_eq_getElem _⟩
        have hlk := hl.mono (hab0.trans hab)
        obtain ⟨loc, i0, ro, rs, rfl, hloc, ho, hrx⟩ := hlk.rd hx
        rw [hae] at hca ⊢
        have hr1 : rs[i0 + ((a : Int)).toNat]? = some x.cells := by rw [Int.toNat_natCast]; exact hrx
        have hin1 : 0 ≤ (a : Int) ∧ (a : Int) < (l.length : Int) := by omega
        repeat' (first
          | dsimp only [putD, DV.cells, DH.new_next, DH.set_next, List.length_cons, List.length_nil, Nat.reduceAdd, List.set_cons_zero, List.set_cons_succ, getD_zero, getD_succ, fieldAt_zero, fieldAt_succ, thenD, blockD, retR]
          | (refine ⟨_, resOf_ctt (loadD_at rfl (by repeat (first | with_reducible assumption | (with_reducible apply obj_here; with_reducible rfl) | with_reducible apply obj_set | (with_reducible apply obj_skip_lo; (· ((repeat (first | with_reducible assumption | with_reducible apply Lo.self | with_reducible apply Lo.new | with_reducible apply Lo.set | with_reducible apply Lo.self1 | with_reducible apply Lo.self2)); done))) | (with_reducible apply obj_past; (· ((first | with_reducible assumption | with_reducible apply ne_add1 | with_reducible apply ne_add1' | with_reducible apply ne_add2 | with_reducible apply ne_add2' | with_reducible apply ne_add12 | with_reducible apply ne_add21 | (with_reducible apply Lo.ne; (repeat (first | with_reducible assumption | with_reducible apply Lo.self | with_reducible apply Lo.new | with_reducible apply Lo.set | with_reducible apply Lo.self1 | with_reducible apply Lo.self2)); done) | (with_reducible apply Lo.ne1; (repeat (first | with_reducible assumption | with_reducible apply Lo.self | with_reducible apply Lo.new | with_reducible apply Lo.set | with_reducible apply Lo.self1 | with_reducible apply Lo.self2)); done) | (with_reducible apply Lo.ne'; (repeat (first | with_reducible assumption | with_reducible apply Lo.self | with_reducible apply Lo.new | with_reducible apply Lo.set | with_reducible apply Lo.self1 | with_reducible apply Lo.self2)); done) | (with_reducible apply Lo.ne1'; (repeat (first | with_reducible assumption | with_reducible apply Lo.self | with_reducible apply Lo.new | with_reducible apply Lo.set | with_reducible apply Lo.self1 | with_reducible apply Lo.self2)); done)); done))) | exact obj_here rfl)) rfl rfl), ?_⟩)
          | (apply drawp_pure; (· (first | exact wanted_plain rfl | (apply wanted_on; (· exact rfl); (· exact rfl); (· (first | with_reducible assumption | with_reducible rfl | decide))))); (· exact rfl); (· exact rfl); (· exact opD_index rfl rfl rfl rfl rfl hin1))
          | (apply drawp_read; (· (first | exact wanted_plain rfl | (apply wanted_on; (· exact rfl); (· exact rfl); (· (first | with_reducible assumption | with_reducible rfl | decide))))); (· exact rfl); (· exact rfl); (· decide +kernel); (· intro H' h; have h : Above _ _ := h; exact opD_load rfl rfl (h.obj (l := loc) (by exact hloc) (by exact ho)) (hr1) (item_part x)))
          | apply dwp_seq
          | apply dwp_region
          | apply ops_nil
          | (apply ops_plain; (· exact rfl))
          | (apply op_call; (· exact rfl); (· exact rfl); (· exact rfl); refine (without56 _ _ c ex l a hlk (by omega) hn).mono ?_; rintro r H1 ⟨hab1, hits⟩; have hcell1 := hab1.obj hloH.h hcellH; have hlo1 : Lo H1 H.next := hloH.above hab1; refine ⟨hab1, ?_⟩)
          | (apply op_store_at; (· exact rfl); (· exact rfl); (· exact rfl); (· repeat (first | with_reducible assumption | (with_reducible apply obj_here; with_reducible rfl) | with_reducible apply obj_set | (with_reducible apply obj_skip_lo; (· ((repeat (first | with_reducible assumption | with_reducible apply Lo.self | with_reducible apply Lo.new | with_reducible apply Lo.set | with_reducible apply Lo.self1 | with_reducible apply Lo.self2)); done))) | (with_reducible apply obj_past; (· ((first | with_reducible assumption | with_reducible apply ne_add1 | with_reducible apply ne_add1' | with_reducible apply ne_add2 | with_reducible apply ne_add2' | with_reducible apply ne_add12 | with_reducible apply ne_add21 | (with_reducible apply Lo.ne; (repeat (first | with_reducible assumption | with_reducible apply Lo.self | with_reducible apply Lo.new | with_reducible apply Lo.set | with_reducible apply Lo.self1 | with_reducible apply Lo.self2)); done) | (with_reducible apply Lo.ne1; (repeat (first | with_reducible assumption | with_reducible apply Lo.self | with_reducible apply Lo.new | with_reducible apply Lo.set | with_reducible apply Lo.self1 | with_reducible apply Lo.self2)); done) | (with_reducible apply Lo.ne'; (repeat (first | with_reducible assumption | with_reducible apply Lo.self | with_reducible apply Lo.new | with_reducible apply Lo.set | with_reducible apply Lo.self1 | with_reducible apply Lo.self2)); done) | (with_reducible apply Lo.ne1'; (repeat (first | with_reducible assumption | with_reducible apply Lo.self | with_reducible apply Lo.new | with_reducible apply Lo.set | with_reducible apply Lo.self1 | with_reducible apply Lo.self2)); done)); done))) | exact obj_here rfl)); (· exact rfl); (· exact rfl); (· exact rfl))
          | (apply op_at; (· exact rfl))
          | refine dwp_drawp _ rfl (fun H' => Above _ H') (Above.refl _) ?_
          | apply drawp_nil
          | apply tand
          | (apply drawp_pure; (· (first | exact wanted_plain rfl | (apply wanted_on; (· exact rfl); (· exact rfl); (· (first | with_reducible assumption | with_reducible rfl | decide))))); (· exact rfl); (· exact rfl); (· exact rfl))
          | (apply drawp_sync_st (fun _ => True); (· exact rfl); (· (first | exact wanted_plain rfl | (apply wanted_on; (· exact rfl); (· exact rfl); (· (first | with_reducible assumption | with_reducible rfl | decide))))); (· decide +kernel))
          | (apply drawp_move; (· (first | exact wanted_plain rfl | (apply wanted_on; (· exact rfl); (· exact rfl); (· (first | with_reducible assumption | with_reducible rfl | decide))))); (· exact rfl); (· decide +kernel))
          | (apply dwp_cond_f; (· exact rfl); (· (first | with_reducible assumption | with_reducible rfl | decide)))
          | apply dwp_skip
          | apply dwp_ret
          | apply dwp_exit
          | fail)
        refine ⟨(hab0.trans (hab.trans hab1)).set (Nat.le_refl _) _, .inr (.inr ⟨by simp, a, x, r, rfl, hx, rfl, (hits.set hloH.h).older (Nat.le_trans (Nat.le_succ _) hab.le)⟩)⟩
end Go.Det.Q

/- Heaps, by the document's reference. -/
namespace Go.Det.Q
open Go Go.Det Go.Proofs
set_option maxRecDepth 4000
set_option maxHeartbeats 4000000
set_option linter.unusedVariables false
set_option linter.unusedSimpArgs false
theorem rless_call4 {x y : Item} {H : DH} {K : DV → DH → Prop} (h : K (.bool (ilt x y)) H) : CallWp Try.prog X4 20 [.agg x.cells, .agg y.cells] H K := call_table (g := gLess) rfl rfl h
theorem mine_itsF_ne {A H : DH} {l : List Item} {s : DV} (h : Mine A H 6 (l.map Item.cells) s) (hne : l ≠ []) (hm : l.length ≤ maxLen) : ItsF A H s l := by
  obtain ⟨p, c, ex, rfl, hi⟩ := it_of_mine h hm
  refine ⟨p, c, ex, rfl, hi, fun loc i z e => ?_⟩
  obtain ⟨x, hx⟩ : ∃ x, l[0]? = some x := ⟨l[0]'(List.length_pos_iff.mpr hne), List.getElem?_eq_getElem _⟩
  obtain ⟨loc', ex', heq, hge, _⟩ := h.wr (k := 0) (r := x.cells) (by rw [List.getElem?_map, hx]; rfl)
  simp only [DV.sl.injEq] at heq
  rw [heq.1] at e
  cases e
  exact hge
/-- The slice up to a place, and from there on. -/
theorem It.take {H : DH} {loc i c : Nat} {ex : Bool} {l : List Item} (h : It H (some (loc, i, 6)) c ex l) {k : Nat} (hk : k ≤ l.length) {xt : Option TypeDesc} {t : TypeId} (hu : xt = some (.slice t)) : appendedD Try.prog 26 H xt (.sl (some (loc, i, 6)) ((k : Int)).toNat c ex) = some ((l.take k).map Item.cells) := by
  have h1 := h.sl.sub (a := 0) (b := k) (Nat.zero_le _) (by rw [List.length_map]; omega)
  have h2 := appended_sl (P := Try.prog) (e := 26) hu h1 c ex
  rw [List.drop_zero, Nat.sub_zero, ← List.map_take, List.length_map, List.length_take, Nat.min_eq_left (by omega)] at h2
  rw [Int.toNat_natCast]
  exact h2
theorem It.dropI {H : DH} {loc i c : Nat} {ex : Bool} {l : List Item} (h : It H (some (loc, i, 6)) c ex l) {k : Nat} (hk : k ≤ l.length) : It H (some (loc, i + k, 6)) (c - k) ex (l.drop k) := by
  have h1 := h.sl.sub (a := k) (b := l.length) hk (by rw [List.length_map]; omega)
  have e0 : (((l.map Item.cells).drop k).take (l.length - k)) = (l.drop k).map Item.cells := by
    rw [List.map_drop, List.take_of_length_le (by simp)]
  rw [e0] at h1
  exact ⟨h1, fun h => (by cases h), by have := h.len; rw [List.length_drop]; omega, by have := h.cap; rw [List.length_drop]; omega⟩
theorem It.drop {H : DH} {loc i c : Nat} {ex : Bool} {l : List Item} (h : It H (some (loc, i, 6)) c ex l) {k : Nat} (hk : k ≤ l.length) {xt : Option TypeDesc} {t : TypeId} (hu : xt = some (.slice t)) : appendedD Try.prog 26 H xt (.sl (some (loc, i + ((k : Int)).toNat, 6)) (l.length - ((k : Int)).toNat) (c - ((k : Int)).toNat) ex) = some ((l.drop k).map Item.cells) := by
  have h2 := (h.dropI hk).appended hu
  rw [List.length_drop] at h2
  rw [Int.toNat_natCast]
  exact h2
def putL (l : List Item) (x : Item) : List Item := l.takeWhile (fun y => !ilt x y) ++ x :: l.dropWhile (fun y => !ilt x y)
theorem putL_at {l : List Item} {x : Item} {k : Nat} (hk : k ≤ l.length) (hb : ∀ (j : Nat) (y : Item), j < k → l[j]? = some y → ilt x y = false) (he : ∀ y, l[k]? = some y → ilt x y = true) : putL l x = l.take k ++ x :: l.drop k := by
  have h1 : l.takeWhile (fun y => !ilt x y) = l.take k ∧ l.dropWhile (fun y => !ilt x y) = l.drop k := by
    clear hk
    induction l generalizing k with
    | nil => simp
    | cons z l ih =>
      cases k with
      | zero =>
        have := he z rfl
        simp [List.takeWhile_cons, List.dropWhile_cons, this]
      | succ k =>
        have h0 := hb 0 z (Nat.succ_pos _) rfl
        have := ih (k := k) (fun j y hj hy => hb (j + 1) y (by omega) (by simpa using hy)) (fun y hy => he y (by simpa using hy))
        simp [List.takeWhile_cons, List.dropWhile_cons, h0, this]
  unfold putL
  rw [h1.1, h1.2]
theorem putL_length (l : List Item) (x : Item) : (putL l x).length = l.length + 1 := by
  unfold putL
  have := congrArg List.length (List.takeWhile_append_dropWhile (p := fun y => !ilt x y) (l := l))
  rw [List.length_append] at this
  rw [List.length_append, List.length_cons]
  omega
theorem put57 (H : DH) (p : Option (Nat × Nat × Nat)) (c : Nat) (ex : Bool) (l : List Item) (x : Item) (hl : It H p c ex l) (hn : l.length ≤ 1000000) :
    CallWp Try.prog X4 57 [.sl p l.length c ex, .agg x.cells] H (fun r H' => Above H H' ∧ ItsF H H' r (putL l x)) := by
  have hab0 : Above H (H.new (.rows false 6 [x.cells])) := (Above.refl H).new _
  have hl0 := hl.mono hab0
  refine enter rfl Try.func57 rfl Try.ntmps57 rfl ?_
  dsimp only [List.cons_append, List.nil_append, List.length_cons, List.length_nil, List.replicate_succ, List.replicate_zero, Nat.reduceAdd, Nat.reduceSub]
  repeat' (first
    | dsimp only [putD, DV.cells, DH.new_next, DH.set_next, List.length_cons, List.length_nil, Nat.reduceAdd, List.set_cons_zero, List.set_cons_succ, getD_zero, getD_succ, fieldAt_zero, fieldAt_succ, thenD, blockD, retR]
    | apply dwp_seq
    | apply dwp_region
    | apply ops_nil
    | (apply ops_plain; (· exact rfl))
    | (apply op_at; (· exact rfl))
    | apply dwp_block
    | fail)
  refine dwp_loop (fun st => ∃ (k : Nat), ∃ J : Nat → DV, (k ≤ l.length ∧ ∀ (j : Nat) (y : Item), j < k → l[j]? = some y → ilt x y = false) ∧ st = ⟨(.sl p l.length c ex :: .agg x.cells :: J 2 :: .ptr (some (H.next, 0, 0)) :: J 4 :: .int .i64 (k : Int) :: J 6 :: J 7 :: J 8 :: J 9 :: J 10 :: J 11 :: J 12 :: J 13 :: J 14 :: J 15 :: J 16 :: J 17 :: J 18 :: J 19 :: J 20 :: J 21 :: J 22 :: J 23 :: J 24 :: J 25 :: J 26 :: J 27 :: J 28 :: J 29 :: J 30 :: J 31 :: J 32 :: J 33 :: []), (H.new (.rows false 6 [x.cells]))⟩) (fun st => l.length - kOf st 5) (⟨0, junk_facts (⟨Nat.zero_le _, fun j y h => absurd h (Nat.not_lt_zero _)⟩) rfl rfl⟩) ?_
  rintro st ⟨k, J, ⟨hk, hbef⟩, rfl⟩
  by_cases hlt : k < l.length
  · obtain ⟨y, hy⟩ : ∃ y, l[k]? = some y := ⟨l[k], List.getElem?_eq_getElem hlt⟩
    obtain ⟨loc, i0, ro, rs, rfl, hloc, ho, hry⟩ := hl0.rd hy
    have hr1 : rs[i0 + ((k : Int)).toNat]? = some y.cells := by rw [Int.toNat_natCast]; exact hry
    have hc : decide ((k : Int) < (l.length : Int)) = true := by simp [hlt]
    have hin1 : 0 ≤ (k : Int) ∧ (k : Int) < (l.length : Int) := by omega
    have hw := wrapNat (k := k) (by omega)
    cases hxy : ilt x y with
    | true =>
      have hex : ∀ z, l[k]? = some z → ilt x z = true := fun z hz => by rw [hy] at hz; cases hz; exact hxy
      have hcap := hl.cap
      have hinh : 0 ≤ (k : Int) ∧ (k : Int) ≤ (c : Int) := by omega
      have hinl : 0 ≤ (k : Int) ∧ (k : Int) ≤ (l.length : Int) := by omega
      have hnewA := hl0.take (k := k) (by omega) Try.underlying23
      have hnewB : ∀ H', Above (H.new (.rows false 6 [x.cells])) H' → appendedD Try.prog 26 H' (Try.prog.underlying 23) (.sl (some (loc, i0 + ((k : Int)).toNat, 6)) (l.length - ((k : Int)).toNat) (c - ((k : Int)).toNat) ex) = some ((l.drop k).map Item.cells) := fun H' h => (hl0.mono h).drop (by omega) Try.underlying23
      repeat' (first
        | dsimp only [putD, DV.cells, DH.new_next, DH.set_next, List.length_cons, List.length_nil, Nat.reduceAdd, List.set_cons_zero, List.set_cons_succ, getD_zero, getD_succ, fieldAt_zero, fieldAt_succ, thenD, blockD, retR]
        | apply dwp_seq
        | apply dwp_region
        | apply ops_nil
        | (apply ops_plain; (· exact rfl))
        | (apply op_call; (· exact rfl); (· exact rfl); (· exact rfl); refine rless_call4 ?_; rw [hxy])
        | (apply op_pick_t; (· exact rfl); (· exact rfl); (· (first | with_reducible assumption | with_reducible rfl | decide)); (· exact rfl))
        | (apply op_index_at; (· exact rfl); (· exact rfl); (· exact rfl); (· with_reducible exact hin1); (· exact rfl); (· exact rfl))
        | (apply op_load_at; (· exact rfl); (· exact rfl); (· with_reducible exact ho); (· with_reducible exact hr1); (· exact (item_part y)))
        | (apply op_load_at; (· exact rfl); (· exact rfl); (· repeat (first | with_reducible assumption | (with_reducible apply obj_here; with_reducible rfl) | with_reducible apply obj_set | (with_reducible apply obj_skip_lo; (· ((repeat (first | with_reducible assumption | with_reducible apply Lo.self | with_reducible apply Lo.new | with_reducible apply Lo.set | with_reducible apply Lo.self1 | with_reducible apply Lo.self2)); done))) | (with_reducible apply obj_past; (· ((first | with_reducible assumption | with_reducible apply ne_add1 | with_reducible apply ne_add1' | with_reducible apply ne_add2 | with_reducible apply ne_add2' | with_reducible apply ne_add12 | with_reducible apply ne_add21 | (with_reducible apply Lo.ne; (repeat (first | with_reducible assumption | with_reducible apply Lo.self | with_reducible apply Lo.new | with_reducible apply Lo.set | with_reducible apply Lo.self1 | with_reducible apply Lo.self2)); done) | (with_reducible apply Lo.ne1; (repeat (first | with_reducible assumption | with_reducible apply Lo.self | with_reducible apply Lo.new | with_reducible apply Lo.set | with_reducible apply Lo.self1 | with_reducible apply Lo.self2)); done) | (with_reducible apply Lo.ne'; (repeat (first | with_reducible assumption | with_reducible apply Lo.self | with_reducible apply Lo.new | with_reducible apply Lo.set | with_reducible apply Lo.self1 | with_reducible apply Lo.self2)); done) | (with_reducible apply Lo.ne1'; (repeat (first | with_reducible assumption | with_reducible apply Lo.self | with_reducible apply Lo.new | with_reducible apply Lo.set | with_reducible apply Lo.self1 | with_reducible apply Lo.self2)); done)); done))) | exact obj_here rfl)); (· exact rfl); (· exact item_part x))
        | (refine op_append_fresh (xt := 23) rfl rfl rfl E23 hnewA (cells_all _) (by rw [List.length_map, List.length_take]; unfold mostD; omega) ?_; intro s1 H1 hm1 hab1 hfr1; have hbox1 := hab1.obj (l := H.next) (Nat.lt_succ_self _) (obj_here rfl); have hm1' := hm1.mono ((Above.refl H1).new (.rows false 6 [x.cells])))
        | (refine op_append (xt := 23) (new := [x.cells]) rfl rfl rfl E23 hm1' (hab1.new _) (appended_sl Try.underlying23 Sl.fresh _ _) rfl (by rw [List.length_map, List.length_take]; show _ + 1 ≤ mostD; unfold mostD; omega) ?_; intro s2 H2 hm2 hab2 hax2 hfr2)
        | (refine op_append (xt := 23) rfl rfl rfl E23 hm2 hab2 (hnewB _ hab2) (cells_all _) (by rw [List.length_append, List.length_map, List.length_map, List.length_take, List.length_drop]; show _ + 1 + _ ≤ mostD; unfold mostD; omega) ?_; intro s3 H3 hm3 hab3 hax3 hfr3)
        | (apply op_at; (· exact opD_slice_hi rfl rfl rfl rfl rfl hinh))
        | (apply op_at; (· exact opD_slice_lo rfl rfl rfl rfl rfl hinl))
        | (apply op_at; (· exact rfl))
        | refine dwp_draw _ rfl ?_
        | apply draw_nil
        | (apply all_and; (· kernel_rfl))
        | (apply was_and; (· kernel_rfl))
        | (apply draw_pure; (· (first | exact wanted_plain rfl | (apply wanted_on; (· exact rfl); (· exact rfl); (· (first | with_reducible assumption | with_reducible rfl | decide))))); (· exact rfl); (· exact rfl))
        | (apply draw_read; (· (first | exact wanted_plain rfl | (apply wanted_on; (· exact rfl); (· exact rfl); (· (first | with_reducible assumption | with_reducible rfl | decide))))); (· exact rfl); (· exact rfl))
        | (apply draw_move; (· (first | exact wanted_plain rfl | (apply wanted_on; (· exact rfl); (· exact rfl); (· (first | with_reducible assumption | with_reducible rfl | decide))))); (· exact rfl))
        | (apply dwp_cond_f; (· exact rfl); (· (first | with_reducible assumption | with_reducible rfl | decide)))
        | apply dwp_ret
        | apply dwp_exit
        | (refine ⟨_, rfl, ?_⟩)
        | fail)
      refine ⟨hab0.trans hab3, ?_⟩
      have e : (l.take k).map Item.cells ++ [x.cells] ++ (l.drop k).map Item.cells = (putL l x).map Item.cells := by rw [putL_at hk hbef hex]; simp
      rw [e] at hm3
      exact (mine_itsF_ne hm3 (by intro h; have := putL_length l x; rw [h] at this; simp at this) (by rw [putL_length]; unfold maxLen; omega)).older (Nat.le_succ _)
    | false =>
      repeat' (first
        | dsimp only [putD, DV.cells, DH.new_next, DH.set_next, List.length_cons, List.length_nil, Nat.reduceAdd, List.set_cons_zero, List.set_cons_succ, getD_zero, getD_succ, fieldAt_zero, fieldAt_succ, thenD, blockD, retR]
        | apply dwp_seq
        | apply dwp_region
        | apply ops_nil
        | (apply ops_plain; (· exact rfl))
        | (apply op_call; (· exact rfl); (· exact rfl); (· exact rfl); refine rless_call4 ?_; rw [hxy])
        | (apply op_pick_t; (· exact rfl); (· exact rfl); (· (first | with_reducible assumption | with_reducible rfl | decide)); (· exact rfl))
        | (apply op_index_at; (· exact rfl); (· exact rfl); (· exact rfl); (· with_reducible exact hin1); (· exact rfl); (· exact rfl))
        | (apply op_load_at; (· exact rfl); (· exact rfl); (· with_reducible exact ho); (· with_reducible exact hr1); (· exact (item_part y)))
        | (apply op_load_at; (· exact rfl); (· exact rfl); (· repeat (first | with_reducible assumption | (with_reducible apply obj_here; with_reducible rfl) | with_reducible apply obj_set | (with_reducible apply obj_skip_lo; (· ((repeat (first | with_reducible assumption | with_reducible apply Lo.self | with_reducible apply Lo.new | with_reducible apply Lo.set | with_reducible apply Lo.self1 | with_reducible apply Lo.self2)); done))) | (with_reducible apply obj_past; (· ((first | with_reducible assumption | with_reducible apply ne_add1 | with_reducible apply ne_add1' | with_reducible apply ne_add2 | with_reducible apply ne_add2' | with_reducible apply ne_add12 | with_reducible apply ne_add21 | (with_reducible apply Lo.ne; (repeat (first | with_reducible assumption | with_reducible apply Lo.self | with_reducible apply Lo.new | with_reducible apply Lo.set | with_reducible apply Lo.self1 | with_reducible apply Lo.self2)); done) | (with_reducible apply Lo.ne1; (repeat (first | with_reducible assumption | with_reducible apply Lo.self | with_reducible apply Lo.new | with_reducible apply Lo.set | with_reducible apply Lo.self1 | with_reducible apply Lo.self2)); done) | (with_reducible apply Lo.ne'; (repeat (first | with_reducible assumption | with_reducible apply Lo.self | with_reducible apply Lo.new | with_reducible apply Lo.set | with_reducible apply Lo.self1 | with_reducible apply Lo.self2)); done) | (with_reducible apply Lo.ne1'; (repeat (first | with_reducible assumption | with_reducible apply Lo.self | with_reducible apply Lo.new | with_reducible apply Lo.set | with_reducible apply Lo.self1 | with_reducible apply Lo.self2)); done)); done))) | exact obj_here rfl)); (· exact rfl); (· exact item_part x))
        | (apply op_at; (· exact rfl))
        | refine dwp_draw _ rfl ?_
        | apply draw_nil
        | (apply all_and; (· kernel_rfl))
        | (apply was_and; (· kernel_rfl))
        | (apply draw_pure; (· (first | exact wanted_plain rfl | (apply wanted_on; (· exact rfl); (· exact rfl); (· (first | with_reducible assumption | with_reducible rfl | decide))))); (· exact rfl); (· exact rfl))
        | (apply draw_read; (· (first | exact wanted_plain rfl | (apply wanted_on; (· exact rfl); (· exact rfl); (· (first | with_reducible assumption | with_reducible rfl | decide))))); (· exact rfl); (· exact rfl))
        | (apply draw_move; (· (first | exact wanted_plain rfl | (apply wanted_on; (· exact rfl); (· exact rfl); (· (first | with_reducible assumption | with_reducible rfl | decide))))); (· exact rfl))
        | (apply dwp_cond_t; (· exact rfl); (· (first | with_reducible assumption | with_reducible rfl | decide)))
        | apply dwp_block
        | apply dwp_skip
        | fail)
      rw [hw]
      refine ⟨⟨k + 1, junk_facts (⟨by omega, fun j z h1 h2 => ?_⟩) rfl rfl⟩, ?_⟩
      · by_cases e : j = k
        · subst e; rw [hy] at h2; cases h2; exact hxy
        · exact hbef j z (by omega) h2
      · show l.length - ((k + 1 : Nat) : Int).toNat < l.length - (k : Int).toNat
        omega
  · have hc : decide ((k : Int) < (l.length : Int)) = false := by simp; omega
    obtain rfl : k = l.length := by omega
    have hex : ∀ z, l[l.length]? = some z → ilt x z = true := fun z hz => by simp at hz
    cases p with
    | none =>
      have h0 : l = [] := by simpa using hl.sl.none_len
      subst h0
      obtain ⟨rfl, rfl⟩ := hl.nil rfl
      have hnewA : appendedD Try.prog 26 (H.new (.rows false 6 [x.cells])) (Try.prog.underlying 23) (.sl none 0 0 true) = some (([] : List Item).map Item.cells) := (It.nil0 _).appended Try.underlying23
      have hnewB : ∀ H', Above (H.new (.rows false 6 [x.cells])) H' → appendedD Try.prog 26 H' (Try.prog.underlying 23) (.sl none 0 0 true) = some (([] : List Item).map Item.cells) := fun H' h => (It.nil0 _).appended Try.underlying23
      repeat' (first
        | dsimp only [putD, DV.cells, DH.new_next, DH.set_next, List.length_cons, List.length_nil, Nat.reduceAdd, List.set_cons_zero, List.set_cons_succ, getD_zero, getD_succ, fieldAt_zero, fieldAt_succ, thenD, blockD, retR]
        | apply dwp_seq
        | apply dwp_region
        | apply ops_nil
        | (apply ops_plain; (· exact rfl))
        | (apply op_pick_f; (· exact rfl); (· exact rfl); (· (first | with_reducible assumption | with_reducible rfl | decide)); (· exact rfl))
        | (refine op_append_fresh (xt := 23) rfl rfl rfl E23 hnewA (cells_all _) (Nat.zero_le _) ?_; intro s1 H1 hm1 hab1 hfr1; have hbox1 := hab1.obj (l := H.next) (Nat.lt_succ_self _) (obj_here rfl); have hm1' := hm1.mono ((Above.refl H1).new (.rows false 6 [x.cells])))
        | (refine op_append (xt := 23) (new := [x.cells]) rfl rfl rfl E23 hm1' (hab1.new _) (appended_sl Try.underlying23 Sl.fresh _ _) rfl (by show 1 ≤ mostD; unfold mostD; omega) ?_; intro s2 H2 hm2 hab2 hax2 hfr2)
        | (refine op_append (xt := 23) rfl rfl rfl E23 hm2 hab2 (hnewB _ hab2) (cells_all _) (by show 1 ≤ mostD; unfold mostD; omega) ?_; intro s3 H3 hm3 hab3 hax3 hfr3)
        | (apply op_load_at; (· exact rfl); (· exact rfl); (· repeat (first | with_reducible assumption | (with_reducible apply obj_here; with_reducible rfl) | with_reducible apply obj_set | (with_reducible apply obj_skip_lo; (· ((repeat (first | with_reducible assumption | with_reducible apply Lo.self | with_reducible apply Lo.new | with_reducible apply Lo.set | with_reducible apply Lo.self1 | with_reducible apply Lo.self2)); done))) | (with_reducible apply obj_past; (· ((first | with_reducible assumption | with_reducible apply ne_add1 | with_reducible apply ne_add1' | with_reducible apply ne_add2 | with_reducible apply ne_add2' | with_reducible apply ne_add12 | with_reducible apply ne_add21 | (with_reducible apply Lo.ne; (repeat (first | with_reducible assumption | with_reducible apply Lo.self | with_reducible apply Lo.new | with_reducible apply Lo.set | with_reducible apply Lo.self1 | with_reducible apply Lo.self2)); done) | (with_reducible apply Lo.ne1; (repeat (first | with_reducible assumption | with_reducible apply Lo.self | with_reducible apply Lo.new | with_reducible apply Lo.set | with_reducible apply Lo.self1 | with_reducible apply Lo.self2)); done) | (with_reducible apply Lo.ne'; (repeat (first | with_reducible assumption | with_reducible apply Lo.self | with_reducible apply Lo.new | with_reducible apply Lo.set | with_reducible apply Lo.self1 | with_reducible apply Lo.self2)); done) | (with_reducible apply Lo.ne1'; (repeat (first | with_reducible assumption | with_reducible apply Lo.self | with_reducible apply Lo.new | with_reducible apply Lo.set | with_reducible apply Lo.self1 | with_reducible apply Lo.self2)); done)); done))) | exact obj_here rfl)); (· exact rfl); (· exact rfl))
        | (apply op_at; (· exact rfl))
        | refine dwp_draw _ rfl ?_
        | apply draw_nil
        | (apply all_and; (· kernel_rfl))
        | (apply was_and; (· kernel_rfl))
        | (apply draw_pure; (· (first | exact wanted_plain rfl | (apply wanted_on; (· exact rfl); (· exact rfl); (· (first | with_reducible assumption | with_reducible rfl | decide))))); (· exact rfl); (· exact rfl))
        | (apply draw_read; (· (first | exact wanted_plain rfl | (apply wanted_on; (· exact rfl); (· exact rfl); (· (first | with_reducible assumption | with_reducible rfl | decide))))); (· exact rfl); (· exact rfl))
        | (apply draw_move; (· (first | exact wanted_plain rfl | (apply wanted_on; (· exact rfl); (· exact rfl); (· (first | with_reducible assumption | with_reducible rfl | decide))))); (· exact rfl))
        | (apply draw_off; (· (first | (apply wanted_off1; (· exact rfl); (· exact rfl); (· (first | with_reducible assumption | with_reducible rfl | decide))) | (apply wanted_off0; (· exact rfl); (· exact rfl); (· (first | with_reducible assumption | with_reducible rfl | decide))) | (apply wanted_none; (· exact rfl); (· exact rfl)))))
        | (apply dwp_cond_f; (· exact rfl); (· (first | with_reducible assumption | with_reducible rfl | decide)))
        | apply dwp_ret
        | apply dwp_exit
        | (refine ⟨_, rfl, ?_⟩)
        | fail)
      refine ⟨hab0.trans hab3, ?_⟩
      have e : ([] : List Item).map Item.cells ++ [x.cells] ++ ([] : List Item).map Item.cells = (putL [] x).map Item.cells := rfl
      rw [e] at hm3
      exact (mine_itsF_ne hm3 (by intro h; cases h) (by unfold maxLen; show 1 ≤ _; omega)).older (Nat.le_succ _)
    | some q =>
      obtain ⟨loc, i0, z⟩ := q
      have hz := hl.sl.size
      subst hz
      generalize hkk : l.length = k at *
      have hcap := hl.cap
      have hinh : 0 ≤ (k : Int) ∧ (k : Int) ≤ (c : Int) := by omega
      have hinl : 0 ≤ (k : Int) ∧ (k : Int) ≤ (k : Int) := by omega
      have hnewA := hl0.take (k := k) (by omega) Try.underlying23
      have hnewB : ∀ H', Above (H.new (.rows false 6 [x.cells])) H' → appendedD Try.prog 26 H' (Try.prog.underlying 23) (.sl (some (loc, i0 + ((k : Int)).toNat, 6)) (k - ((k : Int)).toNat) (c - ((k : Int)).toNat) ex) = some ((l.drop k).map Item.cells) := fun H' h => by have h9 := (hl0.mono h).drop (k := k) (by omega) Try.underlying23; rw [hkk] at h9; exact h9
      repeat' (first
        | dsimp only [putD, DV.cells, DH.new_next, DH.set_next, List.length_cons, List.length_nil, Nat.reduceAdd, List.set_cons_zero, List.set_cons_succ, getD_zero, getD_succ, fieldAt_zero, fieldAt_succ, thenD, blockD, retR]
        | apply dwp_seq
        | apply dwp_region
        | apply ops_nil
        | (apply ops_plain; (· exact rfl))
        | (apply op_pick_f; (· exact rfl); (· exact rfl); (· (first | with_reducible assumption | with_reducible rfl | decide)); (· exact rfl))
        | (refine op_append_fresh (xt := 23) rfl rfl rfl E23 hnewA (cells_all _) (by rw [List.length_map, List.length_take]; unfold mostD; omega) ?_; intro s1 H1 hm1 hab1 hfr1; have hbox1 := hab1.obj (l := H.next) (Nat.lt_succ_self _) (obj_here rfl); have hm1' := hm1.mono ((Above.refl H1).new (.rows false 6 [x.cells])))
        | (refine op_append (xt := 23) (new := [x.cells]) rfl rfl rfl E23 hm1' (hab1.new _) (appended_sl Try.underlying23 Sl.fresh _ _) rfl (by rw [List.length_map, List.length_take]; show _ + 1 ≤ mostD; unfold mostD; omega) ?_; intro s2 H2 hm2 hab2 hax2 hfr2)
        | (refine op_append (xt := 23) rfl rfl rfl E23 hm2 hab2 (hnewB _ hab2) (cells_all _) (by rw [List.length_append, List.length_map, List.length_map, List.length_take, List.length_drop]; show _ + 1 + _ ≤ mostD; unfold mostD; omega) ?_; intro s3 H3 hm3 hab3 hax3 hfr3)
        | (apply op_at; (· exact opD_slice_hi rfl rfl rfl rfl rfl hinh))
        | (apply op_at; (· exact opD_slice_lo rfl rfl rfl rfl rfl hinl))
        | (apply op_load_at; (· exact rfl); (· exact rfl); (· repeat (first | with_reducible assumption | (with_reducible apply obj_here; with_reducible rfl) | with_reducible apply obj_set | (with_reducible apply obj_skip_lo; (· ((repeat (first | with_reducible assumption | with_reducible apply Lo.self | with_reducible apply Lo.new | with_reducible apply Lo.set | with_reducible apply Lo.self1 | with_reducible apply Lo.self2)); done))) | (with_reducible apply obj_past; (· ((first | with_reducible assumption | with_reducible apply ne_add1 | with_reducible apply ne_add1' | with_reducible apply ne_add2 | with_reducible apply ne_add2' | with_reducible apply ne_add12 | with_reducible apply ne_add21 | (with_reducible apply Lo.ne; (repeat (first | with_reducible assumption | with_reducible apply Lo.self | with_reducible apply Lo.new | with_reducible apply Lo.set | with_reducible apply Lo.self1 | with_reducible apply Lo.self2)); done) | (with_reducible apply Lo.ne1; (repeat (first | with_reducible assumption | with_reducible apply Lo.self | with_reducible apply Lo.new | with_reducible apply Lo.set | with_reducible apply Lo.self1 | with_reducible apply Lo.self2)); done) | (with_reducible apply Lo.ne'; (repeat (first | with_reducible assumption | with_reducible apply Lo.self | with_reducible apply Lo.new | with_reducible apply Lo.set | with_reducible apply Lo.self1 | with_reducible apply Lo.self2)); done) | (with_reducible apply Lo.ne1'; (repeat (first | with_reducible assumption | with_reducible apply Lo.self | with_reducible apply Lo.new | with_reducible apply Lo.set | with_reducible apply Lo.self1 | with_reducible apply Lo.self2)); done)); done))) | exact obj_here rfl)); (· exact rfl); (· exact rfl))
        | (apply op_at; (· exact rfl))
        | refine dwp_draw _ rfl ?_
        | apply draw_nil
        | (apply all_and; (· kernel_rfl))
        | (apply was_and; (· kernel_rfl))
        | (apply draw_pure; (· (first | exact wanted_plain rfl | (apply wanted_on; (· exact rfl); (· exact rfl); (· (first | with_reducible assumption | with_reducible rfl | decide))))); (· exact rfl); (· exact rfl))
        | (apply draw_read; (· (first | exact wanted_plain rfl | (apply wanted_on; (· exact rfl); (· exact rfl); (· (first | with_reducible assumption | with_reducible rfl | decide))))); (· exact rfl); (· exact rfl))
        | (apply draw_move; (· (first | exact wanted_plain rfl | (apply wanted_on; (· exact rfl); (· exact rfl); (· (first | with_reducible assumption | with_reducible rfl | decide))))); (· exact rfl))
        | (apply draw_off; (· (first | (apply wanted_off1; (· exact rfl); (· exact rfl); (· (first | with_reducible assumption | with_reducible rfl | decide))) | (apply wanted_off0; (· exact rfl); (· exact rfl); (· (first | with_reducible assumption | with_reducible rfl | decide))) | (apply wanted_none; (· exact rfl); (· exact rfl)))))
        | (apply dwp_cond_f; (· exact rfl); (· (first | with_reducible assumption | with_reducible rfl | decide)))
        | apply dwp_ret
        | apply dwp_exit
        | (refine ⟨_, rfl, ?_⟩)
        | fail)
      refine ⟨hab0.trans hab3, ?_⟩
      have e : (l.take k).map Item.cells ++ [x.cells] ++ (l.drop k).map Item.cells = (putL l x).map Item.cells := by rw [putL_at (by omega) hbef hex]; simp
      rw [e] at hm3
      exact (mine_itsF_ne hm3 (by intro h; have := putL_length l x; rw [h] at this; simp at this) (by rw [putL_length]; unfold maxLen; omega)).older (Nat.le_succ _)
end Go.Det.Q

/- One's own slice grows: where it leads to. -/
namespace Go.Det
set_option linter.unusedVariables false
set_option linter.unusedSimpArgs false
section
variable {P : Program} {X : Ext} {st e : TypeId} {z by_ : Nat} {z0 : DV}
/-- Something to be shown later. -/
structure Hold (p : Prop) : Prop where
  h : p
/-- An operation whose value is told. -/
theorem op_told {o : Oper} {env : List DV} {H : DH} {K : DV → DH → Prop} {v w : DV} {H' : DH} (h : opD P (fun _ _ _ => none) o env H = some (v, H')) (e : v = w) (hk : K w H') : OpWp P X o env H K := by
  subst e; exact op_at h hk
end
end Go.Det

/- Heaps, by the document's reference: sorted, with a thing more, without one. -/
namespace Go.Det.Q
open Go Go.Det Go.Proofs
set_option maxRecDepth 4000
set_option maxHeartbeats 4000000
set_option linter.unusedVariables false
set_option linter.unusedSimpArgs false
def sortL (l : List Item) : List Item := l.foldl putL []
theorem foldl_putL_length : ∀ (l m : List Item), (l.foldl putL m).length = m.length + l.length
  | [], m => rfl
  | x :: l, m => by rw [List.foldl_cons, foldl_putL_length l, putL_length, List.length_cons]; omega
theorem sortL_length (l : List Item) : (sortL l).length = l.length := by unfold sortL; rw [foldl_putL_length]; simp
theorem sortL_step {l : List Item} {k : Nat} {x : Item} (hx : l[k]? = some x) : sortL (l.take (k + 1)) = putL (sortL (l.take k)) x := by
  unfold sortL
  rw [List.take_add_one, hx, List.foldl_append]
  rfl
theorem sorted22 (H : DH) (p : Option (Nat × Nat × Nat)) (c : Nat) (ex : Bool) (l : List Item) (hl : It H p c ex l) (hn : l.length ≤ 1000000) :
    CallWp Try.prog X4 22 [.sl p l.length c ex] H (fun r H' => Above H H' ∧ ItsF H H' r (sortL l)) := by
  refine enter rfl Try.func22 rfl Try.ntmps22 rfl ?_
  dsimp only [List.cons_append, List.nil_append, List.length_cons, List.length_nil, List.replicate_succ, List.replicate_zero, Nat.reduceAdd, Nat.reduceSub]
  repeat' (first
    | dsimp only [putD, DV.cells, DH.new_next, DH.set_next, List.length_cons, List.length_nil, Nat.reduceAdd, List.set_cons_zero, List.set_cons_succ, getD_zero, getD_succ, fieldAt_zero, fieldAt_succ, thenD, blockD, retR]
    | apply dwp_seq
    | apply dwp_region
    | apply ops_nil
    | (apply ops_plain; (· exact rfl))
    | (apply op_at; (· exact rfl))
    | apply dwp_block
    | fail)
  refine dwp_loop (fun st => ∃ (Hk : DH) (k : Nat) (s : DV), ∃ J : Nat → DV, (k ≤ l.length ∧ Above H Hk ∧ ItsF H Hk s (sortL (l.take k))) ∧ st = ⟨[.sl p l.length c ex, J 1, J 2, s, J 4, J 5, .sl p l.length c ex, .int .i64 l.length, .int .i64 (k : Int), J 9, J 10, J 11, J 12, J 13, J 14, J 15, J 16], Hk⟩) (fun st => l.length - kOf st 8) (⟨H, 0, _, junk_facts (⟨Nat.zero_le _, Above.refl H, ⟨none, 0, true, rfl, .nil0 H, fun _ _ _ h => (by cases h)⟩⟩) rfl rfl⟩) ?_
  rintro st ⟨Hk, k, s, J, ⟨hk, hab, hs⟩, rfl⟩
  by_cases hlt : k < l.length
  · obtain ⟨x, hx⟩ : ∃ x, l[k]? = some x := ⟨l[k], List.getElem?_eq_getElem hlt⟩
    obtain ⟨loc, i0, ro, rs, rfl, hloc, ho, hrx⟩ := (hl.mono hab).rd hx
    have hr1 : rs[i0 + ((k : Int)).toNat]? = some x.cells := by rw [Int.toNat_natCast]; exact hrx
    have hc : decide ((k : Int) < (l.length : Int)) = true := by simp [hlt]
    have hin1 : 0 ≤ (k : Int) ∧ (k : Int) < (l.length : Int) := by omega
    have hw := wrapNat (k := k) (by omega)
    obtain ⟨p2, c2, e2, rfl, hi2, hf2⟩ := hs
    have hk2 : (sortL (l.take k)).length ≤ 1000000 := by rw [sortL_length, List.length_take]; omega
    have hab2 : Above Hk ((Hk.new (.rows false 6 [itemZero])).set Hk.next (some (.rows false 6 [x.cells]))) := ((Above.refl Hk).new _).set (Nat.le_refl _) _
    repeat' (first
      | dsimp only [putD, DV.cells, DH.new_next, DH.set_next, List.length_cons, List.length_nil, Nat.reduceAdd, List.set_cons_zero, List.set_cons_succ, getD_zero, getD_succ, fieldAt_zero, fieldAt_succ, thenD, blockD, retR]
      | apply dwp_seq
      | apply dwp_region
      | apply ops_nil
      | (apply ops_plain; (· exact rfl))
      | (apply op_call; (· exact rfl); (· exact rfl); (· exact rfl); refine (put57 _ p2 c2 e2 _ x (hi2.mono hab2) hk2).mono ?_; rintro r H1 ⟨hab3, hr⟩)
      | (apply op_index_at; (· exact rfl); (· exact rfl); (· exact rfl); (· with_reducible exact hin1); (· exact rfl); (· exact rfl))
      | (apply op_load_at; (· exact rfl); (· exact rfl); (· with_reducible exact ho); (· with_reducible exact hr1); (· exact (item_part x)))
      | (apply op_load_at; (· exact rfl); (· exact rfl); (· repeat (first | with_reducible assumption | (with_reducible apply obj_here; with_reducible rfl) | with_reducible apply obj_set | (with_reducible apply obj_skip_lo; (· ((repeat (first | with_reducible assumption | with_reducible apply Lo.self | with_reducible apply Lo.new | with_reducible apply Lo.set | with_reducible apply Lo.self1 | with_reducible apply Lo.self2)); done))) | (with_reducible apply obj_past; (· ((first | with_reducible assumption | with_reducible apply ne_add1 | with_reducible apply ne_add1' | with_reducible apply ne_add2 | with_reducible apply ne_add2' | with_reducible apply ne_add12 | with_reducible apply ne_add21 | (with_reducible apply Lo.ne; (repeat (first | with_reducible assumption | with_reducible apply Lo.self | with_reducible apply Lo.new | with_reducible apply Lo.set | with_reducible apply Lo.self1 | with_reducible apply Lo.self2)); done) | (with_reducible apply Lo.ne1; (repeat (first | with_reducible assumption | with_reducible apply Lo.self | with_reducible apply Lo.new | with_reducible apply Lo.set | with_reducible apply Lo.self1 | with_reducible apply Lo.self2)); done) | (with_reducible apply Lo.ne'; (repeat (first | with_reducible assumption | with_reducible apply Lo.self | with_reducible apply Lo.new | with_reducible apply Lo.set | with_reducible apply Lo.self1 | with_reducible apply Lo.self2)); done) | (with_reducible apply Lo.ne1'; (repeat (first | with_reducible assumption | with_reducible apply Lo.self | with_reducible apply Lo.new | with_reducible apply Lo.set | with_reducible apply Lo.self1 | with_reducible apply Lo.self2)); done)); done))) | exact obj_here rfl)); (· exact rfl); (· exact item_part x))
      | (apply op_store_at; (· exact rfl); (· exact rfl); (· exact rfl); (· repeat (first | with_reducible assumption | (with_reducible apply obj_here; with_reducible rfl) | with_reducible apply obj_set | (with_reducible apply obj_skip_lo; (· ((repeat (first | with_reducible assumption | with_reducible apply Lo.self | with_reducible apply Lo.new | with_reducible apply Lo.set | with_reducible apply Lo.self1 | with_reducible apply Lo.self2)); done))) | (with_reducible apply obj_past; (· ((first | with_reducible assumption | with_reducible apply ne_add1 | with_reducible apply ne_add1' | with_reducible apply ne_add2 | with_reducible apply ne_add2' | with_reducible apply ne_add12 | with_reducible apply ne_add21 | (with_reducible apply Lo.ne; (repeat (first | with_reducible assumption | with_reducible apply Lo.self | with_reducible apply Lo.new | with_reducible apply Lo.set | with_reducible apply Lo.self1 | with_reducible apply Lo.self2)); done) | (with_reducible apply Lo.ne1; (repeat (first | with_reducible assumption | with_reducible apply Lo.self | with_reducible apply Lo.new | with_reducible apply Lo.set | with_reducible apply Lo.self1 | with_reducible apply Lo.self2)); done) | (with_reducible apply Lo.ne'; (repeat (first | with_reducible assumption | with_reducible apply Lo.self | with_reducible apply Lo.new | with_reducible apply Lo.set | with_reducible apply Lo.self1 | with_reducible apply Lo.self2)); done) | (with_reducible apply Lo.ne1'; (repeat (first | with_reducible assumption | with_reducible apply Lo.self | with_reducible apply Lo.new | with_reducible apply Lo.set | with_reducible apply Lo.self1 | with_reducible apply Lo.self2)); done)); done))) | exact obj_here rfl)); (· exact rfl); (· exact rfl); (· exact rfl))
      | (apply op_at; (· exact rfl))
      | (apply dwp_cond_t; (· exact rfl); (· (first | with_reducible assumption | with_reducible rfl | decide)))
      | apply dwp_block
      | apply dwp_skip
      | fail)
    rw [hw]
    refine ⟨⟨_, k + 1, _, junk_facts (⟨by omega, hab.trans (hab2.trans hab3), by rw [sortL_step hx]; exact hr.older (Nat.le_trans hab.le hab2.le)⟩) rfl rfl⟩, ?_⟩
    show l.length - ((k + 1 : Nat) : Int).toNat < l.length - (k : Int).toNat
    omega
  · have hc : decide ((k : Int) < (l.length : Int)) = false := by simp; omega
    obtain rfl : k = l.length := by omega
    rw [List.take_length] at hs
    repeat' (first
      | dsimp only [putD, DV.cells, DH.new_next, DH.set_next, List.length_cons, List.length_nil, Nat.reduceAdd, List.set_cons_zero, List.set_cons_succ, getD_zero, getD_succ, fieldAt_zero, fieldAt_succ, thenD, blockD, retR]
      | apply dwp_seq
      | apply dwp_region
      | apply ops_nil
      | (apply ops_plain; (· exact rfl))
      | (apply op_at; (· exact rfl))
      | (apply dwp_cond_f; (· exact rfl); (· (first | with_reducible assumption | with_reducible rfl | decide)))
      | apply dwp_ret
      | apply dwp_exit
      | (refine ⟨_, rfl, ?_⟩)
      | fail)
    exact ⟨hab, hs⟩
end Go.Det.Q
