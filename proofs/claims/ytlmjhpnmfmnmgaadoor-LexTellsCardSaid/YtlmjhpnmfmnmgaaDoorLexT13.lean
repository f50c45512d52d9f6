/- The references' Digits. -/
import Derived.Tactics
import Derived.Tactics2
import Derived.WalkKit
import Derived.WalkSpells
import Derived.StillTactics
import Derived.Laws.Pointers
import Derived.Laws.BytesString
import Derived.Laws.NewBlocks
import Derived.Laws.IdiomStrings
import Derived.Laws.Concat
import Derived.Deep.RegionHeld3
import Derived.Deep.RegionWith
import Derived.KernelRfl
import Derived.Below
import Derived.RowKit
import Derived.Shelf.Abstract
import Derived.Test.YtlmjhpnmfmnmgaaDoorLexT12
namespace Go.Det.C
open Go Go.Det Go.Proofs Go.RowKit
set_option maxRecDepth 100000
set_option maxHeartbeats 8000000
set_option linter.unusedVariables false
set_option linter.unusedSimpArgs false
theorem conv1 (w : World) (b : Nat) (v : Int) (h : w.cell? ⟨b, 0, none⟩ = some (.int .u8 v)) : (convert 68 9 (.slice (some ⟨b, 0, none⟩) 1 1)).run Tryd.prog w = .ok (.string ⟨#[UInt8.ofNat v.toNat]⟩) w := by
  rw [run_convert_bytes_string w 68 9 5 _ _ _ Tryd.underlying68 Tryd.underlying5 Tryd.underlying9]
  have hload : (loadCells ⟨b, 0, none⟩ 1).run Tryd.prog w = .ok ([v].map (Value.int .u8)).toArray w := by
    exact run_loadCells_list (P := Tryd.prog) w ⟨b, 0, none⟩ [Value.int .u8 v] (by
      intro i x hi
      match i, hi with
      | 0, hi => cases hi; exact h
      | i + 1, hi => cases hi)
  have h2 := run_bytesToString w ⟨b, 0, none⟩ 1 1 [v] hload
  exact h2
theorem cell_alloc5 (w : World) (v : Value) : (w.alloc (Obj.cells #[v] 5)).cell? ⟨w.heap.size, 0, none⟩ = some v := by
  rw [World.cell?_alloc_at _ _ _ _ rfl]; rfl
theorem cell_below {B : Nat} {w w' : World} (h : Below B w w') {b o : Nat} {v : Value} (hb : b < B) (hc : w.cell? ⟨b, o, none⟩ = some v) : w'.cell? ⟨b, o, none⟩ = some v := by
  unfold World.cell? at hc ⊢
  simp only at hc ⊢
  rw [h.block b hb]
  exact hc
theorem below_drew {w w' : World} (h : Below w.drew.heap.size w.drew w') : Below w.heap.size w w' := ⟨h.os, h.tape, h.output, h.size, h.block⟩
theorem below_alloc_drew {w w' : World} {o : Obj} (h : Below (w.alloc o).drew.heap.size (w.alloc o).drew w') : Below w.heap.size w w' :=
  ((Below.refl _ w).alloc (Nat.le_refl _) o).trans ((below_drew h).mono (by show w.heap.size ≤ (w.heap.push o).size; rw [Array.size_push]; omega))
theorem ba_app (a b : List UInt8) : (⟨a.toArray⟩ : ByteArray) ++ ⟨b.toArray⟩ = ⟨(a ++ b).toArray⟩ := by
  apply ByteArray.ext
  rw [ByteArray.data_append]
  simp
theorem decN_append {m : Nat} (h : ¬ m < 10) {x : Int} (hx : x = 48 + ((m % 10 : Nat) : Int)) : (⟨(decN (m / 10)).toArray⟩ : ByteArray) ++ ⟨#[UInt8.ofNat x.toNat]⟩ = ⟨(decN m).toArray⟩ := by
  have e : x.toNat = 48 + m % 10 := by omega
  rw [decN_ge h, e]
  exact ba_app _ [UInt8.ofNat (48 + m % 10)]
theorem dig46_big (n : Int) (D : ByteArray) (hD : D.size ≤ 1000) (h1 : decide (n < 0) = false) (h2 : decide (n < 10) = false) (w : World) (ih : ∀ w, Calls Tryd.prog 46 #[.int .i64 (IntKind.i64.wrap (n.tdiv 10))] w fun e w' => e = .returned (.string D) ∧ Below w.heap.size w w') :
    Calls Tryd.prog 46 #[.int .i64 n] w fun e w' => e = .returned (.string (D ++ ⟨#[UInt8.ofNat (IntKind.u8.wrap (48 + IntKind.u8.wrap (n.tmod 10))).toNat]⟩)) ∧ Below w.heap.size w w' := by
  have ef : ∀ args w, (callFunc 46 args).run Tryd.prog w = .ok (.enter 46 args) w := enters_of Tryd.func46 (by kernel_rfl) rfl
  have hconv := conv1
  obtain ⟨x, hx⟩ : ∃ x, IntKind.u8.wrap (48 + IntKind.u8.wrap (n.tmod 10)) = x := ⟨_, rfl⟩
  rw [hx]
  have hcc := cell_alloc5
  have hsz : ¬ (D.size + (⟨#[UInt8.ofNat x.toNat]⟩ : ByteArray).size > 9223372036854775807) := by show ¬ (D.size + 1 > _); omega
  have hsz2 : ¬ (9223372036854775807 < D.size + 1) := by omega
  clear hD
  go_enter Tryd.func46, Tryd.ntmps46
  go_wp
  go_region_with (first | (go_at_call 46; refine (ih _).mono ?_; rintro e w' ⟨rfl, hb⟩; try (have hk := cell_below hb (by simp) (hcc _ _))))
  all_goals go_wp
  all_goals go_ret
  all_goals refine ⟨rfl, ?_⟩
  all_goals first | exact below_alloc_drew hb | exact (below_drew hb).alloc (by have := hb.size; exact this) _
theorem dig46_small (n : Int) (h1 : decide (n < 0) = false) (h2 : decide (n < 10) = true) (w : World) : Calls Tryd.prog 46 #[.int .i64 n] w fun e w' => e = .returned (.string ⟨#[UInt8.ofNat ((48 + n) % 256).toNat]⟩) ∧ Below w.heap.size w w' := by
  have hconv := conv1
  have hcc := cell_alloc5
  go_enter Tryd.func46, Tryd.ntmps46
  go_wp
  go_ret
  exact ⟨rfl, (Below.refl _ w).alloc (Nat.le_refl _) _⟩
theorem dig46_neg (n : Int) (D : ByteArray) (hD : D.size ≤ 1000) (h1 : decide (n < 0) = true) (w : World) (ih : ∀ w, Calls Tryd.prog 46 #[.int .i64 (wrap64 (-n))] w fun e w' => e = .returned (.string D) ∧ Below w.heap.size w w') :
    Calls Tryd.prog 46 #[.int .i64 n] w fun e w' => e = .returned (.string (⟨#[45]⟩ ++ D)) ∧ Below w.heap.size w w' := by
  have ef : ∀ args w, (callFunc 46 args).run Tryd.prog w = .ok (.enter 46 args) w := enters_of Tryd.func46 (by kernel_rfl) rfl
  have hsz : ¬ ((⟨#[45]⟩ : ByteArray).size + D.size > 9223372036854775807) := by show ¬ (1 + D.size > _); omega
  have hsz2 : ¬ (9223372036854775807 < 1 + D.size) := by omega
  clear hD
  go_enter Tryd.func46, Tryd.ntmps46
  go_wp
  refine (ih _).mono ?_
  rintro e w' ⟨rfl, hb⟩
  dsimp only
  go_wp2
  go_ret
  exact ⟨rfl, hb⟩
theorem dig46_nat : ∀ (k m : Nat), m ≤ k → m < 1000000000000000000 → ∀ w, Calls Tryd.prog 46 #[.int .i64 (m : Int)] w fun e w' => e = .returned (.string ⟨(decN m).toArray⟩) ∧ Below w.heap.size w w' := by
  intro k
  induction k with
  | zero =>
    intro m hm _ w
    obtain rfl : m = 0 := by omega
    refine (dig46_small ((0 : Nat) : Int) rfl rfl w).mono ?_
    rintro e w' ⟨rfl, hb⟩
    exact ⟨by rw [decN_lt (by decide)]; rfl, hb⟩
  | succ k ih =>
    intro m hm hlt w
    by_cases h : m < 10
    · refine (dig46_small (m : Int) (by simp) (by simp; omega) w).mono ?_
      rintro e w' ⟨rfl, hb⟩
      refine ⟨?_, hb⟩
      rw [decN_lt h, show ((48 + (m : Int)) % 256).toNat = 48 + m by omega]
    · have hq : IntKind.i64.wrap ((m : Int).tdiv 10) = ((m / 10 : Nat) : Int) := by rw [Int.tdiv_eq_ediv_of_nonneg (by omega), wrapI (by omega)]; omega
      have hr : (m : Int).tmod 10 = ((m % 10 : Nat) : Int) := by rw [Int.tmod_eq_emod_of_nonneg (by omega)]; omega
      have hx : IntKind.u8.wrap (48 + IntKind.u8.wrap ((m : Int).tmod 10)) = 48 + ((m % 10 : Nat) : Int) := by rw [hr, wrapB (n := ((m % 10 : Nat) : Int)) (by omega), wrapB (by omega)]
      have hl := decN_len 17 (m / 10) (by omega)
      refine (dig46_big (m : Int) ⟨(decN (m / 10)).toArray⟩ (by show (decN (m / 10)).length ≤ 1000; omega) (by simp) (by simp; omega) w (fun w => by rw [hq]; exact ih (m / 10) (by omega) (by omega) w)).mono ?_
      rintro e w' ⟨rfl, hb⟩
      exact ⟨by rw [decN_append h hx], hb⟩
theorem dig46 {n : Int} (hn : -1000000000000000000 < n ∧ n < 1000000000000000000) (w : World) : Calls Tryd.prog 46 #[.int .i64 n] w fun e w' => e = .returned (.string ⟨(decF n).toArray⟩) ∧ Below w.heap.size w w' := by
  unfold decF
  by_cases h : n < 0
  · rw [if_pos h]
    have hl := decN_len 17 n.natAbs (by omega)
    have hw : wrap64 (-n) = (n.natAbs : Int) := by unfold wrap64; omega
    refine (dig46_neg n ⟨(decN n.natAbs).toArray⟩ (by show (decN n.natAbs).length ≤ 1000; omega) (by simpa using h) w (fun w => by rw [hw]; exact dig46_nat _ _ (Nat.le_refl _) (by omega) w)).mono ?_
    rintro e w' ⟨rfl, hb⟩
    exact ⟨congrArg (fun b => Ending.returned (Value.string b)) (ba_app [45] _), hb⟩
  · rw [if_neg h]
    have e : n = (n.natAbs : Int) := by omega
    rw [e]
    have := dig46_nat _ n.natAbs (Nat.le_refl _) (by omega) w
    exact this
theorem dig75_big (n : Int) (D : ByteArray) (hD : D.size ≤ 1000) (h1 : decide (n < 0) = false) (h2 : decide (n < 10) = false) (w : World) (ih : ∀ w, Calls Tryd.prog 75 #[.int .i64 (IntKind.i64.wrap (n.tdiv 10))] w fun e w' => e = .returned (.string D) ∧ Below w.heap.size w w') :
    Calls Tryd.prog 75 #[.int .i64 n] w fun e w' => e = .returned (.string (D ++ ⟨#[UInt8.ofNat (IntKind.u8.wrap (48 + IntKind.u8.wrap (n.tmod 10))).toNat]⟩)) ∧ Below w.heap.size w w' := by
  have ef : ∀ args w, (callFunc 75 args).run Tryd.prog w = .ok (.enter 75 args) w := enters_of Tryd.func75 (by kernel_rfl) rfl
  have hconv := conv1
  obtain ⟨x, hx⟩ : ∃ x, IntKind.u8.wrap (48 + IntKind.u8.wrap (n.tmod 10)) = x := ⟨_, rfl⟩
  rw [hx]
  have hcc := cell_alloc5
  have hsz : ¬ (D.size + (⟨#[UInt8.ofNat x.toNat]⟩ : ByteArray).size > 9223372036854775807) := by show ¬ (D.size + 1 > _); omega
  have hsz2 : ¬ (9223372036854775807 < D.size + 1) := by omega
  clear hD
  go_enter Tryd.func75, Tryd.ntmps75
  go_wp
  go_region_with (first | (go_at_call 75; refine (ih _).mono ?_; rintro e w' ⟨rfl, hb⟩; try (have hk := cell_below hb (by simp) (hcc _ _))))
  all_goals go_wp
  all_goals go_ret
  all_goals refine ⟨rfl, ?_⟩
  all_goals first | exact below_alloc_drew hb | exact (below_drew hb).alloc (by have := hb.size; exact this) _
theorem dig75_small (n : Int) (h1 : decide (n < 0) = false) (h2 : decide (n < 10) = true) (w : World) : Calls Tryd.prog 75 #[.int .i64 n] w fun e w' => e = .returned (.string ⟨#[UInt8.ofNat ((48 + n) % 256).toNat]⟩) ∧ Below w.heap.size w w' := by
  have hconv := conv1
  have hcc := cell_alloc5
  go_enter Tryd.func75, Tryd.ntmps75
  go_wp
  go_ret
  exact ⟨rfl, (Below.refl _ w).alloc (Nat.le_refl _) _⟩
theorem dig75_neg (n : Int) (D : ByteArray) (hD : D.size ≤ 1000) (h1 : decide (n < 0) = true) (w : World) (ih : ∀ w, Calls Tryd.prog 75 #[.int .i64 (wrap64 (-n))] w fun e w' => e = .returned (.string D) ∧ Below w.heap.size w w') :
    Calls Tryd.prog 75 #[.int .i64 n] w fun e w' => e = .returned (.string (⟨#[45]⟩ ++ D)) ∧ Below w.heap.size w w' := by
  have ef : ∀ args w, (callFunc 75 args).run Tryd.prog w = .ok (.enter 75 args) w := enters_of Tryd.func75 (by kernel_rfl) rfl
  have hsz : ¬ ((⟨#[45]⟩ : ByteArray).size + D.size > 9223372036854775807) := by show ¬ (1 + D.size > _); omega
  have hsz2 : ¬ (9223372036854775807 < 1 + D.size) := by omega
  clear hD
  go_enter Tryd.func75, Tryd.ntmps75
  go_wp
  refine (ih _).mono ?_
  rintro e w' ⟨rfl, hb⟩
  dsimp only
  go_wp2
  go_ret
  exact ⟨rfl, hb⟩
theorem dig75_nat : ∀ (k m : Nat), m ≤ k → m < 1000000000000000000 → ∀ w, Calls Tryd.prog 75 #[.int .i64 (m : Int)] w fun e w' => e = .returned (.string ⟨(decN m).toArray⟩) ∧ Below w.heap.size w w' := by
  intro k
  induction k with
  | zero =>
    intro m hm _ w
    obtain rfl : m = 0 := by omega
    refine (dig75_small ((0 : Nat) : Int) rfl rfl w).mono ?_
    rintro e w' ⟨rfl, hb⟩
    exact ⟨by rw [decN_lt (by decide)]; rfl, hb⟩
  | succ k ih =>
    intro m hm hlt w
    by_cases h : m < 10
    · refine (dig75_small (m : Int) (by simp) (by simp; omega) w).mono ?_
      rintro e w' ⟨rfl, hb⟩
      refine ⟨?_, hb⟩
      rw [decN_lt h, show ((48 + (m : Int)) % 256).toNat = 48 + m by omega]
    · have hq : IntKind.i64.wrap ((m : Int).tdiv 10) = ((m / 10 : Nat) : Int) := by rw [Int.tdiv_eq_ediv_of_nonneg (by omega), wrapI (by omega)]; omega
      have hr : (m : Int).tmod 10 = ((m % 10 : Nat) : Int) := by rw [Int.tmod_eq_emod_of_nonneg (by omega)]; omega
      have hx : IntKind.u8.wrap (48 + IntKind.u8.wrap ((m : Int).tmod 10)) = 48 + ((m % 10 : Nat) : Int) := by rw [hr, wrapB (n := ((m % 10 : Nat) : Int)) (by omega), wrapB (by omega)]
      have hl := decN_len 17 (m / 10) (by omega)
      refine (dig75_big (m : Int) ⟨(decN (m / 10)).toArray⟩ (by show (decN (m / 10)).length ≤ 1000; omega) (by simp) (by simp; omega) w (fun w => by rw [hq]; exact ih (m / 10) (by omega) (by omega) w)).mono ?_
      rintro e w' ⟨rfl, hb⟩
      exact ⟨by rw [decN_append h hx], hb⟩
theorem dig75 {n : Int} (hn : -1000000000000000000 < n ∧ n < 1000000000000000000) (w : World) : Calls Tryd.prog 75 #[.int .i64 n] w fun e w' => e = .returned (.string ⟨(decF n).toArray⟩) ∧ Below w.heap.size w w' := by
  unfold decF
  by_cases h : n < 0
  · rw [if_pos h]
    have hl := decN_len 17 n.natAbs (by omega)
    have hw : wrap64 (-n) = (n.natAbs : Int) := by unfold wrap64; omega
    refine (dig75_neg n ⟨(decN n.natAbs).toArray⟩ (by show (decN n.natAbs).length ≤ 1000; omega) (by simpa using h) w (fun w => by rw [hw]; exact dig75_nat _ _ (Nat.le_refl _) (by omega) w)).mono ?_
    rintro e w' ⟨rfl, hb⟩
    exact ⟨congrArg (fun b => Ending.returned (Value.string b)) (ba_app [45] _), hb⟩
  · rw [if_neg h]
    have e : n = (n.natAbs : Int) := by omega
    rw [e]
    have := dig75_nat _ n.natAbs (Nat.le_refl _) (by omega) w
    exact this
def gDig : G := fun args H => match args with
  | [.int .i64 n] => if -1000000000000000000 < n ∧ n < 1000000000000000000 then some (.str (decF n), H) else none
  | _ => none
theorem dig46_ok : ExtSound Tryd.prog gDig 46 := by
  intro args H r H' h ρ w vs ha hv
  unfold gDig at h
  split at h
  · rename_i n
    split at h
    · rename_i hp
      cases h
      simp only [VRs] at hv
      obtain ⟨v, r1, e1, h1, e3⟩ := hv
      subst e3
      simp only [VR] at h1
      have hvs : vs = #[v] := by rw [← Array.toArray_toList (xs := vs), e1]
      subst h1 hvs
      refine callOk_of_calls Tryd.func46 (by kernel_rfl) rfl ((dig46 hp w).mono fun e w' he => ?_)
      obtain ⟨rfl, hb⟩ := he
      exact ⟨ρ, VR_str_iff.mpr rfl, moves_below ha hb⟩
    · cases h
  · cases h
theorem dig75_ok : ExtSound Tryd.prog gDig 75 := by
  intro args H r H' h ρ w vs ha hv
  unfold gDig at h
  split at h
  · rename_i n
    split at h
    · rename_i hp
      cases h
      simp only [VRs] at hv
      obtain ⟨v, r1, e1, h1, e3⟩ := hv
      subst e3
      simp only [VR] at h1
      have hvs : vs = #[v] := by rw [← Array.toArray_toList (xs := vs), e1]
      subst h1 hvs
      refine callOk_of_calls Tryd.func75 (by kernel_rfl) rfl ((dig75 hp w).mono fun e w' he => ?_)
      obtain ⟨rfl, hb⟩ := he
      exact ⟨ρ, VR_str_iff.mpr rfl, moves_below ha hb⟩
    · cases h
  · cases h
noncomputable def E8 : List (FuncId × G) := [(46, gDig), (75, gDig), (86, gDec), (60, gJoin), (83, gNum), (96, gRead), (22, gLive), (106, gSet), (71, gUnits)]
theorem okE8 : ∀ f g, (f, g) ∈ E8 → ExtSound Tryd.prog g f := by
  intro f g h
  simp only [E8, List.mem_cons, List.not_mem_nil, or_false, Prod.mk.injEq] at h
  rcases h with ⟨rfl, rfl⟩ | ⟨rfl, rfl⟩ | ⟨rfl, rfl⟩ | ⟨rfl, rfl⟩ | ⟨rfl, rfl⟩ | ⟨rfl, rfl⟩ | ⟨rfl, rfl⟩ | ⟨rfl, rfl⟩ | ⟨rfl, rfl⟩
  · exact dig46_ok
  · exact dig75_ok
  · exact dec86_ok
  · exact join60_ok
  · exact num83_ok
  · exact read96_ok
  · exact live22_ok
  · exact set106_ok
  · exact units71_ok
noncomputable def X8 : Ext := Xof L E8
theorem ok8 : ProgOk Tryd.prog X8 := progOk_of2 mixed okL add_code okE8
theorem up68 : ExtLe X6 X8 := extLe_more (M := []) (T := [(46, gDig), (75, gDig), (86, gDec)]) (E := E6) (by decide +kernel)
theorem up38 : ExtLe X3 X8 := extLe_more (M := []) (T := [(46, gDig), (75, gDig), (86, gDec), (60, gJoin)]) (E := E3) (by decide +kernel)
end Go.Det.C

/- Regions that draw their order: what is read last, behind all that moved, beside what is read early. -/
namespace Go.Det
set_option linter.unusedVariables false
set_option linter.unusedSimpArgs false
section
variable {P : Program} {X : Ext}
/-- As DrawR; heaps that were are of one kind, those to come of another. -/
structure DrawT (P : Program) (X : Ext) (all : Array Oper) (bef : Array Nat) (ms : List Nat) (Φ Ψ : DH → Prop) (i : Nat) (l : List Oper) (st : DSt) (K : DSt → Prop) : Prop where
  ex : ∀ seen was, (∀ s ∈ seen, ∀ H', Ψ H' → readD P s.o (evalO s.env) H' = some s.v) → (∀ w ∈ was, w.i ∈ ms ∧ Φ w.H) → Ψ st.H → DrawWp P X all bef l i seen was st K
theorem dwp_drawt {id : Nat} {ops : Array Oper} {st : DSt} {Q : DExit → DSt → Prop} (bef : Array Nat) (hbef : Region.before ops = bef) (Φ : DH → Prop) (h0 : Φ st.H) (h : DrawT P X ops bef [] Φ Φ 0 ops.toList st (fun st' => Q .normal st')) : Dwp P X (.region id ops true) st Q :=
  dwp_draw bef hbef (h.ex [] [] (by simp) (by simp) h0)
section
variable {all : Array Oper} {bef : Array Nat} {ms : List Nat} {i : Nat} {Φ Ψ : DH → Prop} {o : Oper} {r : List Oper} {st : DSt} {K : DSt → Prop}
theorem drawt_nil (h : K st) : DrawT P X all bef ms Φ Ψ i [] st K := ⟨fun _ _ _ _ _ => draw_nil h⟩
theorem drawt_pure (hw : Region.wanted o (dyield all st.env) = true) (hm : mover P o.op = false) (hr : reader P o.op = false) {v : DV} (hv : opD P (fun _ _ _ => none) o st.env st.H = some (v, st.H))
    (h : DrawT P X all bef ms Φ Ψ (i + 1) r ⟨putD st.env o.dst v, st.H⟩ K) : DrawT P X all bef ms Φ Ψ i (o :: r) st K :=
  ⟨fun seen was hs hw' h0 => draw_pure hw hm hr (op_at hv (h.ex seen was hs hw' h0))⟩
/-- What is read alike in all heaps. -/
theorem drawt_read (hw : Region.wanted o (dyield all st.env) = true) (hm : mover P o.op = false) (hr : reader P o.op = true) {v : DV} (hv : ∀ H', Φ H' → opD P (fun _ _ _ => none) o st.env H' = some (v, H')) (hv2 : ∀ H', Ψ H' → opD P (fun _ _ _ => none) o st.env H' = some (v, H'))
    (h : DrawT P X all bef ms Φ Ψ (i + 1) r ⟨putD st.env o.dst v, st.H⟩ K) : DrawT P X all bef ms Φ Ψ i (o :: r) st K := by
  refine ⟨fun seen was hs hw' h0 => draw_read hw hm hr (op_at (hv2 _ h0) ⟨?_, h.ex _ was ?_ hw' h0⟩)⟩
  · unfold stillWas
    rw [List.all_eq_true]
    intro w m
    rw [Bool.or_eq_true]
    exact .inr (still_of ((opD_stays (hv _ (hw' w m).2) hm).2.1 hr))
  · intro s m
    rcases List.mem_cons.mp m with rfl | m
    · exact fun H' hp => (opD_stays (hv2 _ hp) hm).2.1 hr
    · exact hs s m
/-- What is read behind all that moved. -/
theorem drawt_last (hw : Region.wanted o (dyield all st.env) = true) (hm : mover P o.op = false) (hr : reader P o.op = true) (hb : bitsIn ms (bef.getD i 0) = true) {v : DV} (hv : opD P (fun _ _ _ => none) o st.env st.H = some (v, st.H))
    (h : DrawT P X all bef ms Φ (fun H' => Ψ H' ∧ readD P o (evalO st.env) H' = some v) (i + 1) r ⟨putD st.env o.dst v, st.H⟩ K) : DrawT P X all bef ms Φ Ψ i (o :: r) st K := by
  have hrd := (opD_stays hv hm).2.1 hr
  refine ⟨fun seen was hs hw' h0 => draw_read hw hm hr (op_at hv ⟨?_, h.ex _ was ?_ hw' ⟨h0, hrd⟩⟩)⟩
  · unfold stillWas
    rw [List.all_eq_true]
    intro w m
    rw [Bool.or_eq_true]
    exact .inl (bitsIn_at hb (hw' w m).1)
  · intro s m
    rcases List.mem_cons.mp m with rfl | m
    · exact fun H' hp => hp.2
    · exact fun H' hp => hs s m H' hp.1
theorem drawt_move (hw : Region.wanted o (dyield all st.env) = true) (hm : mover P o.op = true) (h0 : Ψ st.H → Φ st.H)
    (h : OpWp P X o st.env st.H (fun v H => Ψ H ∧ DrawT P X all bef (i :: ms) Φ Ψ (i + 1) r ⟨putD st.env o.dst v, H⟩ K)) : DrawT P X all bef ms Φ Ψ i (o :: r) st K := by
  refine ⟨fun seen was hs hw' hp => draw_move hw hm ?_⟩
  obtain ⟨k, v, H, h1, hH, h2⟩ := h.ex
  refine ⟨⟨k, v, H, h1, ?_, h2.ex _ _ hs ?_ hH⟩⟩
  · unfold stillAll
    rw [List.all_eq_true]
    intro s m
    rw [Bool.or_eq_true]
    exact .inr (still_of (hs s m _ hH))
  · intro w m
    rcases List.mem_cons.mp m with rfl | m
    · exact ⟨List.mem_cons_self, h0 hp⟩
    · exact ⟨List.mem_cons_of_mem _ (hw' w m).1, (hw' w m).2⟩
end
end
end Go.Det

/- Words; a time's text. -/
namespace Go.Det.C
open Go Go.Det Go.Proofs
set_option maxRecDepth 4000
set_option maxHeartbeats 4000000
set_option linter.unusedVariables false
set_option linter.unusedSimpArgs false
/-- Are these a word's runes? -/
def wordL : Bool → List (Int × Bool) → Bool
  | _, [] => true
  | f, x :: r => (isLet x.1 || (!f && isDgt x.1)) && wordL false r
def wordF (s : List UInt8) : Bool := wordL true (runes s) && (!(s == []) && decide (s.length ≤ 16))
section
variable {A H : DH} {bs : List (Nat × DObj)} {fs : List (DH → Prop)} {K : DV → DH → Prop}
theorem word33 {s : List UInt8} (hs : s.length ≤ 65536) (hB : Bx A H bs fs) (hK : ∀ H', Bx A H' bs fs → K (.bool (wordF s)) H') : CallWp Tryd.prog X3 33 [.str s] H K := by
  obtain ⟨W, hW⟩ : ∃ W, wordL true (runes s) = W := ⟨_, rfl⟩
  have hwf : wordF s = (W && (!(s == []) && decide (s.length ≤ 16))) := by unfold wordF; rw [hW]
  rw [hwf] at hK
  clear hwf
  refine enter rfl Tryd.func33 rfl Tryd.ntmps33 rfl ?_
  dsimp only [List.cons_append, List.nil_append, List.length_cons, List.length_nil, List.replicate_succ, List.replicate_zero, Nat.reduceAdd, Nat.reduceSub]
  repeat' (first
    | dsimp only [putD, DV.cells, DH.new_next, DH.set_next, List.length_cons, List.length_nil, Nat.reduceAdd, List.set_cons_zero, List.set_cons_succ, getD_zero, getD_succ, fieldAt_zero, fieldAt_succ, thenD, blockD, retR]
    | apply dwp_seq
    | apply dwp_region
    | apply ops_nil
    | (apply ops_plain; (· exact rfl))
    | (apply bx_range; (· exact rfl); (· exact rfl); (· exact rfl); (· assumption); intro bi H1 hB)
    | (apply op_at; (· exact rfl))
    | apply dwp_block
    | fail)
  refine dwp_loop (fun st => ∃ (bi : Nat) (H1 : DH) (pos : Nat), ∃ J : Nat → DV, (Bx A H1 ((bi, .iter s pos) :: bs) fs ∧ pos ≤ s.length ∧ wordL (decide (pos = 0)) (runes (s.drop pos)) = W) ∧ st = ⟨(.str s :: J 1 :: .bool false :: J 3 :: J 4 :: J 5 :: .ptr (some (bi, 0, 0)) :: J 7 :: J 8 :: J 9 :: J 10 :: J 11 :: J 12 :: J 13 :: J 14 :: J 15 :: J 16 :: J 17 :: J 18 :: J 19 :: J 20 :: J 21 :: J 22 :: J 23 :: J 24 :: J 25 :: J 26 :: J 27 :: J 28 :: J 29 :: []), H1⟩) (fun st => s.length - posOf st 6) (⟨_, _, 0, junk_facts (⟨hB, Nat.zero_le _, hW⟩) rfl rfl⟩) ?_
  rintro st ⟨bi, H1, pos, J, ⟨hB, hpos, hgo⟩, rfl⟩
  by_cases hlt : pos < s.length
  · have hne : s.drop pos ≠ [] := by
      intro h
      have := congrArg List.length h
      rw [List.length_drop] at this
      simp at this
      omega
    obtain ⟨cn, w, hcw⟩ : ∃ cn w, decL (s.drop pos) = (cn, w) := ⟨_, _, rfl⟩
    have hww := decL_width hne
    rw [hcw, List.length_drop] at hww
    simp only at hww
    have hdec : Utf8.decode ⟨s.toArray⟩ pos = (cn, w) := by rw [decode_drop s pos hpos, hcw]
    rw [runes_cons hne, hcw, List.drop_drop] at hgo
    unfold wordL at hgo
    simp only at hgo
    have hB0 := hB
    have hpw : decide (pos + w = 0) = false := by simp; omega
    cases hL : isLet (cn : Int) with
    | true =>
      rw [hL, Bool.true_or, Bool.true_and] at hgo
      repeat' (first
        | dsimp only [putD, DV.cells, DH.new_next, DH.set_next, List.length_cons, List.length_nil, Nat.reduceAdd, List.set_cons_zero, List.set_cons_succ, getD_zero, getD_succ, fieldAt_zero, fieldAt_succ, thenD, blockD, retR]
        | apply dwp_seq
        | apply dwp_region
        | apply ops_nil
        | (apply ops_plain; (· exact rfl))
        | (apply ops_off1; (· exact rfl); (· exact rfl); (· (first | with_reducible assumption | with_reducible rfl | decide)))
        | (apply ops_offn; (· exact rfl); (· exact rfl))
        | (apply op_call; (· exact rfl); (· exact rfl); (· exact rfl); (refine (letter62 _ _).mono ?_; rintro r0 H' ⟨rfl, rfl⟩; rw [hL]))
        | (apply op_pick_f; (· exact rfl); (· exact rfl); (· (first | with_reducible assumption | with_reducible rfl | decide)); (· exact rfl))
        | (apply bx_next (c := cn) (w := w); (· exact rfl); (· exact rfl); (· assumption); (· (repeat (first | with_reducible exact Upd.here | with_reducible apply Upd.there | with_reducible apply upd_app))); (· exact hlt); (· exact hdec); intro H1 hB)
        | (apply op_at; (· exact rfl))
        | (apply dwp_cond_t; (· exact rfl); (· (first | with_reducible assumption | with_reducible rfl | decide)))
        | (apply dwp_cond_f; (· exact rfl); (· (first | with_reducible assumption | with_reducible rfl | decide)))
        | apply dwp_block
        | apply dwp_skip
        | fail)
      refine ⟨⟨_, _, pos + w, junk_facts ⟨hB, by omega, by rw [hpw]; exact hgo⟩ rfl rfl⟩, ?_⟩
      rw [posOf_at rfl (hB.get (by (repeat (first | with_reducible exact At.here | with_reducible apply At.there | with_reducible apply at_app)))), posOf_at rfl (hB0.get (by (repeat (first | with_reducible exact At.here | with_reducible apply At.there | with_reducible apply at_app))))]
      omega
    | false =>
      rw [hL, Bool.false_or] at hgo
      cases h0 : ((pos : Int) == 0) with
      | true =>
        have h0' : decide (pos = 0) = true := by
          have : (pos : Int) = 0 := by simpa using h0
          simp; omega
        rw [h0'] at hgo
        rw [Bool.not_true, Bool.false_and, Bool.false_and] at hgo
        rw [← hgo, Bool.false_and] at hK
        repeat' (first
          | dsimp only [putD, DV.cells, DH.new_next, DH.set_next, List.length_cons, List.length_nil, Nat.reduceAdd, List.set_cons_zero, List.set_cons_succ, getD_zero, getD_succ, fieldAt_zero, fieldAt_succ, thenD, blockD, retR]
          | apply dwp_seq
          | apply dwp_region
          | apply ops_nil
          | (apply ops_plain; (· exact rfl))
          | (apply ops_on; (· exact rfl); (· exact rfl); (· (first | with_reducible assumption | with_reducible rfl | decide)))
          | (apply ops_off0; (· exact rfl); (· exact rfl); (· (first | with_reducible assumption | with_reducible rfl | decide)))
          | (apply op_call; (· exact rfl); (· exact rfl); (· exact rfl); (refine (letter62 _ _).mono ?_; rintro r0 H' ⟨rfl, rfl⟩; rw [hL]))
          | (apply op_pick_t; (· exact rfl); (· exact rfl); (· (first | with_reducible assumption | with_reducible rfl | decide)); (· exact rfl))
          | (apply bx_next (c := cn) (w := w); (· exact rfl); (· exact rfl); (· assumption); (· (repeat (first | with_reducible exact Upd.here | with_reducible apply Upd.there | with_reducible apply upd_app))); (· exact hlt); (· exact hdec); intro H1 hB)
          | (apply op_at; (· exact rfl))
          | (apply dwp_cond_t; (· exact rfl); (· (first | with_reducible assumption | with_reducible rfl | decide)))
          | apply dwp_block
          | apply dwp_skip
          | apply dwp_ret
          | (refine ⟨_, rfl, ?_⟩)
          | fail)
        exact hK _ (hB.sub (by (repeat (first | exact List.Sublist.refl _ | exact List.nil_sublist _ | apply List.Sublist.cons_cons | apply List.Sublist.cons | apply List.Sublist.append_left | refine List.Sublist.trans ?_ (List.sublist_append_right _ _)))))
      | false =>
        have h0' : decide (pos = 0) = false := by
          have : ¬ (pos : Int) = 0 := by simpa using h0
          simp; omega
        rw [h0', Bool.not_false, Bool.true_and] at hgo
        cases hD : isDgt (cn : Int) with
        | true =>
          rw [hD, Bool.true_and] at hgo
          repeat' (first
            | dsimp only [putD, DV.cells, DH.new_next, DH.set_next, List.length_cons, List.length_nil, Nat.reduceAdd, List.set_cons_zero, List.set_cons_succ, getD_zero, getD_succ, fieldAt_zero, fieldAt_succ, thenD, blockD, retR]
            | apply dwp_seq
            | apply dwp_region
            | apply ops_nil
            | (apply ops_plain; (· exact rfl))
            | (apply ops_on; (· exact rfl); (· exact rfl); (· (first | with_reducible assumption | with_reducible rfl | decide)))
            | (apply op_call; (· exact rfl); (· exact rfl); (· exact rfl); (refine (letter62 _ _).mono ?_; rintro r0 H' ⟨rfl, rfl⟩; rw [hL]))
            | (apply op_call; (· exact rfl); (· exact rfl); (· exact rfl); (refine (digit63 _ _).mono ?_; rintro r0 H' ⟨rfl, rfl⟩; rw [hD]))
            | (apply op_pick_t; (· exact rfl); (· exact rfl); (· (first | with_reducible assumption | with_reducible rfl | decide)); (· exact rfl))
            | (apply op_pick_f; (· exact rfl); (· exact rfl); (· (first | with_reducible assumption | with_reducible rfl | decide)); (· exact rfl))
            | (apply bx_next (c := cn) (w := w); (· exact rfl); (· exact rfl); (· assumption); (· (repeat (first | with_reducible exact Upd.here | with_reducible apply Upd.there | with_reducible apply upd_app))); (· exact hlt); (· exact hdec); intro H1 hB)
            | (apply op_at; (· exact rfl))
            | (apply dwp_cond_t; (· exact rfl); (· (first | with_reducible assumption | with_reducible rfl | decide)))
            | (apply dwp_cond_f; (· exact rfl); (· (first | with_reducible assumption | with_reducible rfl | decide)))
            | apply dwp_block
            | apply dwp_skip
            | fail)
          refine ⟨⟨_, _, pos + w, junk_facts ⟨hB, by omega, by rw [hpw]; exact hgo⟩ rfl rfl⟩, ?_⟩
          rw [posOf_at rfl (hB.get (by (repeat (first | with_reducible exact At.here | with_reducible apply At.there | with_reducible apply at_app)))), posOf_at rfl (hB0.get (by (repeat (first | with_reducible exact At.here | with_reducible apply At.there | with_reducible apply at_app))))]
          omega
        | false =>
          rw [hD, Bool.false_and] at hgo
          rw [← hgo, Bool.false_and] at hK
          repeat' (first
            | dsimp only [putD, DV.cells, DH.new_next, DH.set_next, List.length_cons, List.length_nil, Nat.reduceAdd, List.set_cons_zero, List.set_cons_succ, getD_zero, getD_succ, fieldAt_zero, fieldAt_succ, thenD, blockD, retR]
            | apply dwp_seq
            | apply dwp_region
            | apply ops_nil
            | (apply ops_plain; (· exact rfl))
            | (apply ops_on; (· exact rfl); (· exact rfl); (· (first | with_reducible assumption | with_reducible rfl | decide)))
            | (apply op_call; (· exact rfl); (· exact rfl); (· exact rfl); (refine (letter62 _ _).mono ?_; rintro r0 H' ⟨rfl, rfl⟩; rw [hL]))
            | (apply op_call; (· exact rfl); (· exact rfl); (· exact rfl); (refine (digit63 _ _).mono ?_; rintro r0 H' ⟨rfl, rfl⟩; rw [hD]))
            | (apply op_pick_t; (· exact rfl); (· exact rfl); (· (first | with_reducible assumption | with_reducible rfl | decide)); (· exact rfl))
            | (apply op_pick_f; (· exact rfl); (· exact rfl); (· (first | with_reducible assumption | with_reducible rfl | decide)); (· exact rfl))
            | (apply bx_next (c := cn) (w := w); (· exact rfl); (· exact rfl); (· assumption); (· (repeat (first | with_reducible exact Upd.here | with_reducible apply Upd.there | with_reducible apply upd_app))); (· exact hlt); (· exact hdec); intro H1 hB)
            | (apply op_at; (· exact rfl))
            | (apply dwp_cond_t; (· exact rfl); (· (first | with_reducible assumption | with_reducible rfl | decide)))
            | apply dwp_block
            | apply dwp_skip
            | apply dwp_ret
            | (refine ⟨_, rfl, ?_⟩)
            | fail)
          exact hK _ (hB.sub (by (repeat (first | exact List.Sublist.refl _ | exact List.nil_sublist _ | apply List.Sublist.cons_cons | apply List.Sublist.cons | apply List.Sublist.append_left | refine List.Sublist.trans ?_ (List.sublist_append_right _ _)))))
  · have hnil : s.drop pos = [] := List.drop_eq_nil_of_le (by omega)
    rw [hnil, runes_nil] at hgo
    unfold wordL at hgo
    rw [← hgo, Bool.true_and] at hK
    cases he : (!(s == [])) with
    | true =>
      rw [he, Bool.true_and] at hK
      have hd : decide ((s.length : Int) ≤ 16) = decide (s.length ≤ 16) := decide_eq_decide.mpr (by omega)
      repeat' (first
        | dsimp only [putD, DV.cells, DH.new_next, DH.set_next, List.length_cons, List.length_nil, Nat.reduceAdd, List.set_cons_zero, List.set_cons_succ, getD_zero, getD_succ, fieldAt_zero, fieldAt_succ, thenD, blockD, retR]
        | apply dwp_seq
        | apply dwp_region
        | apply ops_nil
        | (apply ops_plain; (· exact rfl))
        | (apply ops_on; (· exact rfl); (· exact rfl); (· (first | with_reducible assumption | with_reducible rfl | decide)))
        | (apply op_pick_t; (· exact rfl); (· exact rfl); (· (first | with_reducible assumption | with_reducible rfl | decide)); (· exact rfl))
        | (apply bx_next_end; (· exact rfl); (· exact rfl); (· assumption); (· (repeat (first | with_reducible exact At.here | with_reducible apply At.there | with_reducible apply at_app))); (· exact hlt))
        | (apply op_at; (· exact rfl))
        | (apply dwp_cond_f; (· exact rfl); (· (first | with_reducible assumption | with_reducible rfl | decide)))
        | apply dwp_ret
        | apply dwp_exit
        | (refine ⟨_, rfl, ?_⟩)
        | fail)
      rw [hd]
      exact hK _ (hB.sub (by (repeat (first | exact List.Sublist.refl _ | exact List.nil_sublist _ | apply List.Sublist.cons_cons | apply List.Sublist.cons | apply List.Sublist.append_left | refine List.Sublist.trans ?_ (List.sublist_append_right _ _)))))
    | false =>
      rw [he, Bool.false_and] at hK
      repeat' (first
        | dsimp only [putD, DV.cells, DH.new_next, DH.set_next, List.length_cons, List.length_nil, Nat.reduceAdd, List.set_cons_zero, List.set_cons_succ, getD_zero, getD_succ, fieldAt_zero, fieldAt_succ, thenD, blockD, retR]
        | apply dwp_seq
        | apply dwp_region
        | apply ops_nil
        | (apply ops_plain; (· exact rfl))
        | (apply ops_off1; (· exact rfl); (· exact rfl); (· (first | with_reducible assumption | with_reducible rfl | decide)))
        | (apply op_pick_f; (· exact rfl); (· exact rfl); (· (first | with_reducible assumption | with_reducible rfl | decide)); (· exact rfl))
        | (apply bx_next_end; (· exact rfl); (· exact rfl); (· assumption); (· (repeat (first | with_reducible exact At.here | with_reducible apply At.there | with_reducible apply at_app))); (· exact hlt))
        | (apply op_at; (· exact rfl))
        | (apply dwp_cond_f; (· exact rfl); (· (first | with_reducible assumption | with_reducible rfl | decide)))
        | apply dwp_ret
        | apply dwp_exit
        | (refine ⟨_, rfl, ?_⟩)
        | fail)
      exact hK _ (hB.sub (by (repeat (first | exact List.Sublist.refl _ | exact List.nil_sublist _ | apply List.Sublist.cons_cons | apply List.Sublist.cons | apply List.Sublist.append_left | refine List.Sublist.trans ?_ (List.sublist_append_right _ _)))))
theorem Ctx.again {x bs : List (Nat × DObj)} {F : List (Nat × DObj) → List (Nat × DObj)} (h : Ctx x bs F) (y : List (Nat × DObj)) : Ctx y (F y) F := by
  induction h with
  | one => exact .one
  | here => exact .here
  | cons _ ih => exact .cons ih
  | app _ ih => exact .app ih
theorem digits72 : ∀ (k n : Nat), n ≤ k → n < 1000000000000000000 → ∀ {A H : DH} {bs x : List (Nat × DObj)} {F : List (Nat × DObj) → List (Nat × DObj)} {fs : List (DH → Prop)} {K : DV → DH → Prop} (l : List UInt8) (s : Sv), l.length + (decN n).length ≤ 1000 → Own1 1 (rowsB l) s.dv x → Bx A H bs fs → Ctx x bs F → (∀ (s' : Sv) x' H', Own1 1 (rowsB (l ++ decN n)) s'.dv x' → Bx A H' (F x') fs → K s'.dv H') → CallWp Tryd.prog X3 72 [s.dv, .int .u64 (n : Int)] H K := by
  intro k
  induction k with
  | zero =>
    intro n hn hm A H bs x F fs K l s hl o3 hB hc3 hK
    obtain rfl : n = 0 := by omega
    rw [decN_lt (by decide)] at hK hl
    have hl3 : (rowsB l).length + 1 ≤ mostD := by rw [rowsB_len]; unfold mostD; simp at hl; omega
    have hc : decide (((0 : Nat) : Int) > 9) = false := by decide
    have hrem : ((0 : Nat) : Int).tmod 10 = 0 := rfl
    have hu2 : IntKind.u8.wrap (48 + 0) = ((UInt8.ofNat (48 + 0)).toNat : Int) := rfl
    have hu1 : IntKind.u8.wrap 0 = 0 := rfl
    have hrows : rowsB (l ++ [UInt8.ofNat (48 + 0)]) = rowsB l ++ [[.int .u8 ((UInt8.ofNat (48 + 0)).toNat : Int)]] := by simp [rowsB]
    refine enter rfl Tryd.func72 rfl Tryd.ntmps72 rfl ?_
    dsimp only [List.cons_append, List.nil_append, List.length_cons, List.length_nil, List.replicate_succ, List.replicate_zero, Nat.reduceAdd, Nat.reduceSub]
    repeat' (first
      | dsimp only [putD, DV.cells, DH.new_next, DH.set_next, List.length_cons, List.length_nil, Nat.reduceAdd, List.set_cons_zero, List.set_cons_succ, getD_zero, getD_succ, fieldAt_zero, fieldAt_succ, thenD, blockD, retR]
      | apply dwp_seq
      | apply dwp_region
      | apply ops_nil
      | (apply ops_plain; (· exact rfl))
      | (apply op_at; (· exact opD_rem rfl rfl rfl (by decide) hrem))
      | (apply op_told; (· exact rfl); (· exact congrArg (DV.int _) hu1))
      | (apply op_told; (· exact rfl); (· exact congrArg (DV.int _) hu2))
      | (apply bx_build1 et68; (· exact rfl); (· exact rfl); (· exact rfl); (· exact rfl); (· exact rfl); (· decide); (· assumption); intro bn H1 hB)
      | (apply op_append_s; (· exact rfl); (· exact rfl); (· exact rfl); (· exact rfl); (· exact et68); (· exact o3); (· assumption); (· (repeat (first | with_reducible exact hc3 | with_reducible exact Ctx.here | with_reducible apply Ctx.cons | with_reducible apply Ctx.app))); (· exact At.here); (· exact rfl); (· exact rfl); (· assumption); intro t3 y3 H1 q3 hB)
      | (apply op_at; (· exact rfl))
      | (apply dwp_cond_f; (· exact rfl); (· (first | with_reducible assumption | with_reducible rfl | decide)))
      | apply dwp_skip
      | apply dwp_ret
      | (refine ⟨_, rfl, ?_⟩)
      | fail)
    exact hK t3 y3 _ (by rw [hrows]; exact q3) (hB.sub (by (repeat (first | exact List.Sublist.refl _ | exact List.nil_sublist _ | apply List.Sublist.cons_cons | apply List.Sublist.cons | apply List.Sublist.append_left | refine List.Sublist.trans ?_ (List.sublist_append_right _ _)))))
  | succ k ih =>
    intro n hn hm A H bs x F fs K l s hl o3 hB hc3 hK
    have hm10 : n % 10 < 10 := Nat.mod_lt _ (by decide)
    have hrem : (n : Int).tmod 10 = ((n % 10 : Nat) : Int) := by rw [Int.tmod_eq_emod_of_nonneg (by omega)]; omega
    have hu1 : IntKind.u8.wrap ((n % 10 : Nat) : Int) = ((n % 10 : Nat) : Int) := wrapB (by omega)
    have hu2 : IntKind.u8.wrap (48 + ((n % 10 : Nat) : Int)) = ((UInt8.ofNat (48 + n % 10)).toNat : Int) := by rw [(ofNat_dig hm10).1, wrapB (by omega)]; omega
    by_cases h9 : n < 10
    · have hc : decide ((n : Int) > 9) = false := by simp; omega
      rw [decN_lt h9] at hK hl
      have hl3 : (rowsB l).length + 1 ≤ mostD := by rw [rowsB_len]; unfold mostD; simp at hl; omega
      have hrows : rowsB (l ++ [UInt8.ofNat (48 + n)]) = rowsB l ++ [[.int .u8 ((UInt8.ofNat (48 + n % 10)).toNat : Int)]] := by rw [Nat.mod_eq_of_lt h9]; simp [rowsB]
      refine enter rfl Tryd.func72 rfl Tryd.ntmps72 rfl ?_
      dsimp only [List.cons_append, List.nil_append, List.length_cons, List.length_nil, List.replicate_succ, List.replicate_zero, Nat.reduceAdd, Nat.reduceSub]
      repeat' (first
        | dsimp only [putD, DV.cells, DH.new_next, DH.set_next, List.length_cons, List.length_nil, Nat.reduceAdd, List.set_cons_zero, List.set_cons_succ, getD_zero, getD_succ, fieldAt_zero, fieldAt_succ, thenD, blockD, retR]
        | apply dwp_seq
        | apply dwp_region
        | apply ops_nil
        | (apply ops_plain; (· exact rfl))
        | (apply op_at; (· exact opD_rem rfl rfl rfl (by decide) hrem))
        | (apply op_told; (· exact rfl); (· exact congrArg (DV.int _) hu1))
        | (apply op_told; (· exact rfl); (· exact congrArg (DV.int _) hu2))
        | (apply bx_build1 et68; (· exact rfl); (· exact rfl); (· exact rfl); (· exact rfl); (· exact rfl); (· decide); (· assumption); intro bn H1 hB)
        | (apply op_append_s; (· exact rfl); (· exact rfl); (· exact rfl); (· exact rfl); (· exact et68); (· exact o3); (· assumption); (· (repeat (first | with_reducible exact hc3 | with_reducible exact Ctx.here | with_reducible apply Ctx.cons | with_reducible apply Ctx.app))); (· exact At.here); (· exact rfl); (· exact rfl); (· assumption); intro t3 y3 H1 q3 hB)
        | (apply op_at; (· exact rfl))
        | (apply dwp_cond_f; (· exact rfl); (· (first | with_reducible assumption | with_reducible rfl | decide)))
        | apply dwp_skip
        | apply dwp_ret
        | (refine ⟨_, rfl, ?_⟩)
        | fail)
      exact hK t3 y3 _ (by rw [hrows]; exact q3) (hB.sub (by (repeat (first | exact List.Sublist.refl _ | exact List.nil_sublist _ | apply List.Sublist.cons_cons | apply List.Sublist.cons | apply List.Sublist.append_left | refine List.Sublist.trans ?_ (List.sublist_append_right _ _)))))
    · have hc : decide ((n : Int) > 9) = true := by simp; omega
      have hquo : IntKind.u64.wrap ((n : Int).tdiv 10) = ((n / 10 : Nat) : Int) := by rw [Int.tdiv_eq_ediv_of_nonneg (by omega), wrapU (by omega)]; omega
      rw [decN_ge h9] at hK hl
      rw [List.length_append] at hl
      simp only [List.length_cons, List.length_nil] at hl
      have hl1 : l.length + (decN (n / 10)).length ≤ 1000 := by omega
      have hl3 : (rowsB (l ++ decN (n / 10))).length + 1 ≤ mostD := by rw [rowsB_len, List.length_append]; unfold mostD; omega
      have hrows : rowsB (l ++ (decN (n / 10) ++ [UInt8.ofNat (48 + n % 10)])) = rowsB (l ++ decN (n / 10)) ++ [[.int .u8 ((UInt8.ofNat (48 + n % 10)).toNat : Int)]] := by simp [rowsB]
      refine enter rfl Tryd.func72 rfl Tryd.ntmps72 rfl ?_
      dsimp only [List.cons_append, List.nil_append, List.length_cons, List.length_nil, List.replicate_succ, List.replicate_zero, Nat.reduceAdd, Nat.reduceSub]
      repeat' (first
        | dsimp only [putD, DV.cells, DH.new_next, DH.set_next, List.length_cons, List.length_nil, Nat.reduceAdd, List.set_cons_zero, List.set_cons_succ, getD_zero, getD_succ, fieldAt_zero, fieldAt_succ, thenD, blockD, retR]
        | apply dwp_seq
        | apply dwp_region
        | apply ops_nil
        | (apply ops_plain; (· exact rfl))
        | (apply op_call; (· exact rfl); (· exact rfl); (· exact rfl); (apply ih (n / 10) (by omega) (by omega) l s hl1 o3 (by assumption) hc3; intro s' x' H1 o3 hB; replace hc3 := Ctx.again hc3 x'))
        | (apply op_at; (· exact opD_rem rfl rfl rfl (by decide) hrem))
        | (apply op_at; (· exact opD_quo rfl rfl rfl (by decide) hquo))
        | (apply op_told; (· exact rfl); (· exact congrArg (DV.int _) hu1))
        | (apply op_told; (· exact rfl); (· exact congrArg (DV.int _) hu2))
        | (apply bx_build1 et68; (· exact rfl); (· exact rfl); (· exact rfl); (· exact rfl); (· exact rfl); (· decide); (· assumption); intro bn H1 hB)
        | (apply op_append_s; (· exact rfl); (· exact rfl); (· exact rfl); (· exact rfl); (· exact et68); (· exact o3); (· assumption); (· (repeat (first | with_reducible exact hc3 | with_reducible exact Ctx.here | with_reducible apply Ctx.cons | with_reducible apply Ctx.app))); (· exact At.here); (· exact rfl); (· exact rfl); (· assumption); intro t3 y3 H1 q3 hB)
        | (apply op_at; (· exact rfl))
        | (apply dwp_cond_t; (· exact rfl); (· (first | with_reducible assumption | with_reducible rfl | decide)))
        | apply dwp_ret
        | (refine ⟨_, rfl, ?_⟩)
        | fail)
      exact hK t3 y3 _ (by rw [hrows]; exact q3) (hB.sub (by (repeat (first | exact List.Sublist.refl _ | exact List.nil_sublist _ | apply List.Sublist.cons_cons | apply List.Sublist.cons | apply List.Sublist.append_left | refine List.Sublist.trans ?_ (List.sublist_append_right _ _)))))
end
end Go.Det.C

/- A time's text; a token's text. -/
namespace Go.Det.C
open Go Go.Det Go.Proofs
set_option maxRecDepth 4000
set_option maxHeartbeats 4000000
set_option linter.unusedVariables false
set_option linter.unusedSimpArgs false
/-- The greatest unit of which a time is so many. -/
def pickU (n : Nat) : Nat × List UInt8 := if n = 0 then (1, [112, 115]) else if n % 1000000000000 = 0 then (1000000000000, [115]) else if n % 1000000000 = 0 then (1000000000, [109, 115]) else if n % 1000000 = 0 then (1000000, [117, 115]) else if n % 1000 = 0 then (1000, [110, 115]) else (1, [112, 115])
def sgnF (t : Int) : List UInt8 := if t < 0 then [45] else []
def ptextF (t : Int) : List UInt8 := sgnF t ++ decN (t.natAbs / (pickU t.natAbs).1) ++ (pickU t.natAbs).2
theorem up13 : ExtLe X1 X3 := extLe_more (M := []) (T := [(83, gNum), (96, gRead)]) (E := E1) (by decide +kernel)
theorem et112 : ElemT Tryd.prog 112 2 1 8 (.int .i64 0) := ⟨rfl, rfl, rfl, by kernel_rfl, by decide, by decide, rfl, rfl⟩
theorem opD_str_own {P : Program} {cf : CallF} {o : Oper} {env : List DV} {A H : DH} {bs : List (Nat × DObj)} {fs : List (DH → Prop)} {s t e : TypeId} {x : Operand} {v : DV} {l : List UInt8} {bx : List (Nat × DObj)} {F : List (Nat × DObj) → List (Nat × DObj)} (ho : o.op = .convert s t x) (hx : evalO env x = some v) (hs : P.underlying s = some (.slice e)) (ht : P.underlying t = some .string) (he : P.underlying e = some (.int .u8))
    (hown : Own1 1 (rowsB l) v bx) (hB : Bx A H bs fs) (hc : Ctx bx bs F) : opD P cf o env H = some (.str l, H) := by
  obtain ⟨p, c, ex, rfl, hsl⟩ := hown.sl hB hc
  have hm : mover P (.convert s t x) = false := by simp [mover, hs, ht]
  have hr : reader P (.convert s t x) = true := by simp [reader, hs, ht]
  simp only [opD, ho, hm, hr, if_true, readD, hs, ht, hx, he, hsl.rows, bytesOf_rows, Option.map_some, Bool.false_eq_true, if_false]
section
variable {A H : DH} {bs : List (Nat × DObj)} {fs : List (DH → Prop)} {K : DV → DH → Prop}
theorem ptext39 {t : Int} (ht : -1000000000000000000 < t ∧ t < 1000000000000000000) (hB : Bx A H bs fs) (hK : ∀ H', Bx A H' bs fs → K (.tuple [.str (ptextF t), .int .i64 0]) H') : CallWp Tryd.prog X3 39 [.int .i64 t] H K := by
  have ft : Fit t := by unfold Fit; omega
  obtain ⟨n, hn⟩ : ∃ n, t.natAbs = n := ⟨_, rfl⟩
  have hnm : n < 1000000000000000000 := by omega
  obtain ⟨sg, hsg⟩ : ∃ sg, sgnF t = sg := ⟨_, rfl⟩
  have hsl : sg.length ≤ 1 := by rw [← hsg]; unfold sgnF; split <;> simp
  unfold ptextF at hK
  rw [hn, hsg] at hK
  have hr1 : (n : Int).tmod (IntKind.u64.wrap 1000000000000) = ((n % 1000000000000 : Nat) : Int) := by rw [show IntKind.u64.wrap 1000000000000 = 1000000000000 from rfl, Int.tmod_eq_emod_of_nonneg (by omega)]; omega
  have hq1 : IntKind.u64.wrap ((n : Int).tdiv (IntKind.u64.wrap 1000000000000)) = ((n / 1000000000000 : Nat) : Int) := by rw [show IntKind.u64.wrap 1000000000000 = 1000000000000 from rfl, Int.tdiv_eq_ediv_of_nonneg (by omega), wrapU (by omega)]; omega
  have hr2 : (n : Int).tmod (IntKind.u64.wrap 1000000000) = ((n % 1000000000 : Nat) : Int) := by rw [show IntKind.u64.wrap 1000000000 = 1000000000 from rfl, Int.tmod_eq_emod_of_nonneg (by omega)]; omega
  have hq2 : IntKind.u64.wrap ((n : Int).tdiv (IntKind.u64.wrap 1000000000)) = ((n / 1000000000 : Nat) : Int) := by rw [show IntKind.u64.wrap 1000000000 = 1000000000 from rfl, Int.tdiv_eq_ediv_of_nonneg (by omega), wrapU (by omega)]; omega
  have hr3 : (n : Int).tmod (IntKind.u64.wrap 1000000) = ((n % 1000000 : Nat) : Int) := by rw [show IntKind.u64.wrap 1000000 = 1000000 from rfl, Int.tmod_eq_emod_of_nonneg (by omega)]; omega
  have hq3 : IntKind.u64.wrap ((n : Int).tdiv (IntKind.u64.wrap 1000000)) = ((n / 1000000 : Nat) : Int) := by rw [show IntKind.u64.wrap 1000000 = 1000000 from rfl, Int.tdiv_eq_ediv_of_nonneg (by omega), wrapU (by omega)]; omega
  have hr4 : (n : Int).tmod (IntKind.u64.wrap 1000) = ((n % 1000 : Nat) : Int) := by rw [show IntKind.u64.wrap 1000 = 1000 from rfl, Int.tmod_eq_emod_of_nonneg (by omega)]; omega
  have hq4 : IntKind.u64.wrap ((n : Int).tdiv (IntKind.u64.wrap 1000)) = ((n / 1000 : Nat) : Int) := by rw [show IntKind.u64.wrap 1000 = 1000 from rfl, Int.tdiv_eq_ediv_of_nonneg (by omega), wrapU (by omega)]; omega
  have hr5 : (n : Int).tmod (IntKind.u64.wrap 1) = ((n % 1 : Nat) : Int) := by rw [show IntKind.u64.wrap 1 = 1 from rfl, Int.tmod_eq_emod_of_nonneg (by omega)]; omega
  have hq5 : IntKind.u64.wrap ((n : Int).tdiv (IntKind.u64.wrap 1)) = ((n / 1 : Nat) : Int) := by rw [show IntKind.u64.wrap 1 = 1 from rfl, Int.tdiv_eq_ediv_of_nonneg (by omega), wrapU (by omega)]; omega
  have hdl : ∀ m, m ≤ n → (decN m).length ≤ 18 := fun m hm => decN_len 17 m (by omega)
  have hm45 : rowsB [45] = [[DV.int .u8 45]] := rfl
  refine enter rfl Tryd.func39 rfl Tryd.ntmps39 rfl ?_
  dsimp only [List.cons_append, List.nil_append, List.length_cons, List.length_nil, List.replicate_succ, List.replicate_zero, Nat.reduceAdd, Nat.reduceSub]
  repeat' (first
    | dsimp only [putD, DV.cells, DH.new_next, DH.set_next, List.length_cons, List.length_nil, Nat.reduceAdd, List.set_cons_zero, List.set_cons_succ, getD_zero, getD_succ, fieldAt_zero, fieldAt_succ, thenD, blockD, retR]
    | (refine dwp_cutCond (t := 13) (fun st => ∃ (s3 : Sv) (x3 : List (Nat × DObj)) (H1 : DH), ∃ J : Nat → DV, (Own1 1 (rowsB sg) s3.dv x3 ∧ Bx A H1 (x3 ++ bs) fs) ∧ st = ⟨(.int .i64 t :: J 1 :: .str [] :: .int .i64 0 :: s3.dv :: J 5 :: J 6 :: J 7 :: J 8 :: J 9 :: J 10 :: J 11 :: J 12 :: J 13 :: J 14 :: J 15 :: J 16 :: J 17 :: J 18 :: J 19 :: J 20 :: J 21 :: J 22 :: J 23 :: J 24 :: J 25 :: J 26 :: J 27 :: J 28 :: J 29 :: J 30 :: J 31 :: J 32 :: J 33 :: J 34 :: J 35 :: J 36 :: J 37 :: J 38 :: J 39 :: J 40 :: J 41 :: J 42 :: J 43 :: J 44 :: J 45 :: J 46 :: J 47 :: J 48 :: J 49 :: []), H1⟩) ?_ ?_)
    | apply dwp_seq
    | apply dwp_region
    | apply ops_nil
    | (apply ops_plain; (· exact rfl))
    | (apply op_call; (· exact rfl); (· exact rfl); (· exact rfl); (refine (CallWp.up up13 (may69x (.one (Bx.get (by assumption) At.here) ft))).mono ?_; rintro r H' ⟨rfl, rfl⟩))
    | (apply bx_build1 et112; (· exact rfl); (· exact rfl); (· exact rfl); (· exact rfl); (· exact rfl); (· decide); (· assumption); intro bn H1 hB)
    | (apply op_at; (· exact rfl))
    | (apply dwp_cond_f; (· exact rfl); (· (first | with_reducible assumption | with_reducible rfl | decide)))
    | apply dwp_skip
    | fail)
  · refine ⟨?_⟩
    by_cases hneg : t < 0
    · have hc : decide (t < 0) = true := by simpa using hneg
      have hsg' : sg = [45] := by rw [← hsg]; unfold sgnF; rw [if_pos hneg]
      repeat' (first
        | dsimp only [putD, DV.cells, DH.new_next, DH.set_next, List.length_cons, List.length_nil, Nat.reduceAdd, List.set_cons_zero, List.set_cons_succ, getD_zero, getD_succ, fieldAt_zero, fieldAt_succ, thenD, blockD, retR]
        | apply dwp_region
        | apply ops_nil
        | (apply ops_plain; (· exact rfl))
        | (apply bx_build1 et68; (· exact rfl); (· exact rfl); (· exact rfl); (· exact rfl); (· exact rfl); (· decide); (· assumption); intro bn H1 hB)
        | (apply op_append_s (R := []) (bx := []) (s := .sl none 0 0 true); (· exact rfl); (· exact rfl); (· exact rfl); (· exact rfl); (· exact et68); (· exact .nil rfl); (· assumption); (· exact Ctx.cons (Ctx.here (bx := []))); (· exact At.here); (· exact rfl); (· exact rfl); (· unfold mostD; decide); intro t3 y3 H1 q3 hB)
        | (apply op_at; (· exact rfl))
        | (apply dwp_cond_t; (· exact rfl); (· (first | with_reducible assumption | with_reducible rfl | decide)))
        | fail)
      exact ⟨rfl, t3, y3, _, junk_facts ⟨by rw [hsg', hm45]; exact q3, (hB.sub (by (repeat (first | exact List.Sublist.refl _ | exact List.nil_sublist _ | apply List.Sublist.cons_cons | apply List.Sublist.cons | apply List.Sublist.append_left | refine List.Sublist.trans ?_ (List.sublist_append_right _ _)))))⟩ rfl rfl⟩
    · have hc : decide (t < 0) = false := by simpa using hneg
      have hsg' : sg = [] := by rw [← hsg]; unfold sgnF; rw [if_neg hneg]
      repeat' (first
        | (apply dwp_cond_f; (· exact rfl); (· (first | with_reducible assumption | with_reducible rfl | decide)))
        | apply dwp_skip
        | fail)
      exact ⟨rfl, ⟨none, 0, 0, true⟩, [], _, junk_facts ⟨by rw [hsg']; exact .nil rfl, (hB.sub (by (repeat (first | exact List.Sublist.refl _ | exact List.nil_sublist _ | apply List.Sublist.cons_cons | apply List.Sublist.cons | apply List.Sublist.append_left | refine List.Sublist.trans ?_ (List.sublist_append_right _ _)))))⟩ rfl rfl⟩
  · rintro st ⟨s3, x3, H1, J, ⟨o3, hB⟩, rfl⟩
    try dsimp only [thenD]
    by_cases hn0 : n = 0
    · have hp0 : decide ((n : Int) > 0) = false := by simp; omega
      have hpk : pickU n = (1, [112, 115]) := by unfold pickU; rw [if_pos hn0]
      rw [hpk] at hK
      have hz1 : (((n % 1000000000000 : Nat) : Int) == 0) = true := by subst hn0; rfl
      have hz2 : (((n % 1000000000 : Nat) : Int) == 0) = true := by subst hn0; rfl
      have hz3 : (((n % 1000000 : Nat) : Int) == 0) = true := by subst hn0; rfl
      have hz4 : (((n % 1000 : Nat) : Int) == 0) = true := by subst hn0; rfl
      have hz5 : (((n % 1 : Nat) : Int) == 0) = true := by subst hn0; rfl
      have hdm : n / 1 < 1000000000000000000 := by omega
      have hdl1 := hdl (n / 1) (by omega)
      have hdl3 : sg.length + (decN (n / 1)).length ≤ 1000 := by omega
      have hadd : (sg ++ decN (n / 1)).length + 2 ≤ 4294967296 := by rw [List.length_append]; omega
      repeat' (first
        | dsimp only [putD, DV.cells, DH.new_next, DH.set_next, List.length_cons, List.length_nil, Nat.reduceAdd, List.set_cons_zero, List.set_cons_succ, getD_zero, getD_succ, fieldAt_zero, fieldAt_succ, thenD, blockD, retR]
        | refine dwp_drawt _ rfl (fun H' => Bx A H' [(b1, .rows false 2 [[.str [112, 115], .int .i64 1]])] fs) (hB.sub (by (repeat (first | exact List.Sublist.refl _ | exact List.nil_sublist _ | apply List.Sublist.cons_cons | apply List.Sublist.cons | apply List.Sublist.append_left | refine List.Sublist.trans ?_ (List.sublist_append_right _ _))))) ?_
        | apply drawt_nil
        | (apply drawt_read; (· (first | exact wanted_plain rfl | (apply wanted_on; (· exact rfl); (· exact rfl); (· (first | with_reducible assumption | with_reducible rfl | decide))))); (· exact rfl); (· exact rfl); (· intro H' h; have h : Bx _ H' _ _ := h; exact opD_load rfl rfl (h.get At.here) rfl rfl); (· intro H' h; have h : Bx _ H' _ _ := (by first | exact h | exact h.1); exact opD_load rfl rfl (h.get At.here) rfl rfl))
        | (apply drawt_pure; (· (first | exact wanted_plain rfl | (apply wanted_on; (· exact rfl); (· exact rfl); (· (first | with_reducible assumption | with_reducible rfl | decide))))); (· exact rfl); (· exact rfl); (· exact opD_quo rfl rfl rfl (by decide) hq5))
        | (apply drawt_pure; (· (first | exact wanted_plain rfl | (apply wanted_on; (· exact rfl); (· exact rfl); (· (first | with_reducible assumption | with_reducible rfl | decide))))); (· exact rfl); (· exact rfl); (· exact opD_strAdd rfl rfl rfl hadd))
        | (apply drawt_pure; (· (first | exact wanted_plain rfl | (apply wanted_on; (· exact rfl); (· exact rfl); (· (first | with_reducible assumption | with_reducible rfl | decide))))); (· exact rfl); (· exact rfl); (· exact rfl))
        | (apply drawt_move; (· (first | exact wanted_plain rfl | (apply wanted_on; (· exact rfl); (· exact rfl); (· (first | with_reducible assumption | with_reducible rfl | decide))))); (· exact rfl); (· exact id))
        | (apply drawt_last; (· (first | exact wanted_plain rfl | (apply wanted_on; (· exact rfl); (· exact rfl); (· (first | with_reducible assumption | with_reducible rfl | decide))))); (· exact rfl); (· exact rfl); (· decide +kernel); (· exact opD_str_own rfl rfl rfl rfl rfl q3 (by assumption) (by (repeat (first | with_reducible exact Ctx.here | with_reducible apply Ctx.cons | with_reducible apply Ctx.app)))))
        | refine dwp_round ?_
        | apply dwp_seq
        | apply dwp_region
        | apply ops_nil
        | (apply ops_plain; (· exact rfl))
        | (apply ops_on; (· exact rfl); (· exact rfl); (· (first | with_reducible assumption | with_reducible rfl | decide)))
        | (apply op_call; (· exact rfl); (· exact rfl); (· exact rfl); (refine (CallWp.up up13 (size70x ft _)).mono ?_; rintro r H' ⟨rfl, rfl⟩; rw [hn]))
        | (apply op_call; (· exact rfl); (· exact rfl); (· exact rfl); refine call_table (g := gUnits) rfl rfl ?_)
        | (apply op_call; (· exact rfl); (· exact rfl); (· exact rfl); (apply digits72 (n / 1) (n / 1) (Nat.le_refl _) hdm sg s3 hdl3 o3; (· assumption); (· (repeat (first | with_reducible exact Ctx.here | with_reducible apply Ctx.cons | with_reducible apply Ctx.app))); intro s' x' H1 q3 hB; refine ⟨(hB.sub (by (repeat (first | exact List.Sublist.refl _ | exact List.nil_sublist _ | apply List.Sublist.cons_cons | apply List.Sublist.cons | apply List.Sublist.append_left | refine List.Sublist.trans ?_ (List.sublist_append_right _ _))))), ?_⟩))
        | (apply op_pick_t; (· exact rfl); (· exact rfl); (· (first | with_reducible assumption | with_reducible rfl | decide)); (· exact rfl))
        | (apply op_pick_f; (· exact rfl); (· exact rfl); (· (first | with_reducible assumption | with_reducible rfl | decide)); (· exact rfl))
        | (apply op_at; (· exact opD_rem rfl rfl rfl (by decide) hr1))
        | (apply op_at; (· exact opD_rem rfl rfl rfl (by decide) hr2))
        | (apply op_at; (· exact opD_rem rfl rfl rfl (by decide) hr3))
        | (apply op_at; (· exact opD_rem rfl rfl rfl (by decide) hr4))
        | (apply op_at; (· exact opD_rem rfl rfl rfl (by decide) hr5))
        | (apply bx_load0; (· exact rfl); (· exact rfl); (· assumption); (· (repeat (first | with_reducible exact At.here | with_reducible apply At.there | with_reducible apply at_app))); (· (first | exact part107 _ _ | exact rfl)))
        | (apply bx_store0; (· exact rfl); (· exact rfl); (· exact rfl); (· assumption); (· (first | (dsimp only [putD, DV.cells, DH.new_next, DH.set_next, List.length_cons, List.length_nil, Nat.reduceAdd, List.set_cons_zero, List.set_cons_succ, getD_zero, getD_succ, fieldAt_zero, fieldAt_succ, thenD, blockD, retR, Sv.cells]; done) | (dsimp only [putD, DV.cells, DH.new_next, DH.set_next, List.length_cons, List.length_nil, Nat.reduceAdd, List.set_cons_zero, List.set_cons_succ, getD_zero, getD_succ, fieldAt_zero, fieldAt_succ, thenD, blockD, retR, Sv.cells]; exact rfl) | exact rfl)); (· (repeat (first | with_reducible exact Upd.here | with_reducible apply Upd.there | with_reducible apply upd_app))); (· exact rfl); (· exact rfl); (· exact rfl); (· exact rfl); intro H1 hB)
        | (apply bx_alloc; (· exact rfl); (· exact zero107); (· (first | (dsimp only [putD, DV.cells, DH.new_next, DH.set_next, List.length_cons, List.length_nil, Nat.reduceAdd, List.set_cons_zero, List.set_cons_succ, getD_zero, getD_succ, fieldAt_zero, fieldAt_succ, thenD, blockD, retR, Sv.cells]; done) | (dsimp only [putD, DV.cells, DH.new_next, DH.set_next, List.length_cons, List.length_nil, Nat.reduceAdd, List.set_cons_zero, List.set_cons_succ, getD_zero, getD_succ, fieldAt_zero, fieldAt_succ, thenD, blockD, retR, Sv.cells]; exact rfl) | exact rfl)); (· exact rfl); (· exact rfl); (· assumption); intro b1 H1 hB)
        | (apply op_at; (· exact rfl))
        | (apply dwp_cond_t; (· exact rfl); (· (first | with_reducible assumption | with_reducible rfl | decide)))
        | (apply dwp_cond_f; (· exact rfl); (· (first | with_reducible assumption | with_reducible rfl | decide)))
        | apply dwp_block
        | apply dwp_skip
        | apply dwp_ret
        | (refine ⟨_, rfl, ?_⟩)
        | fail)
      exact hK _ (hB.sub (by (repeat (first | exact List.Sublist.refl _ | exact List.nil_sublist _ | apply List.Sublist.cons_cons | apply List.Sublist.cons | apply List.Sublist.append_left | refine List.Sublist.trans ?_ (List.sublist_append_right _ _)))))
    · have hp0 : decide ((n : Int) > 0) = true := by simp; omega
      by_cases hd1 : n % 1000000000000 = 0
      · have hz1 : (((n % 1000000000000 : Nat) : Int) == 0) = true := by rw [hd1]; rfl
        have hpk : pickU n = (1000000000000, [115]) := by unfold pickU; rw [if_neg hn0, if_pos hd1]
        rw [hpk] at hK
        have hdm : n / 1000000000000 < 1000000000000000000 := by omega
        have hdl1 := hdl (n / 1000000000000) (by omega)
        have hdl3 : sg.length + (decN (n / 1000000000000)).length ≤ 1000 := by omega
        have hadd : (sg ++ decN (n / 1000000000000)).length + 1 ≤ 4294967296 := by rw [List.length_append]; omega
        repeat' (first
          | dsimp only [putD, DV.cells, DH.new_next, DH.set_next, List.length_cons, List.length_nil, Nat.reduceAdd, List.set_cons_zero, List.set_cons_succ, getD_zero, getD_succ, fieldAt_zero, fieldAt_succ, thenD, blockD, retR]
          | refine dwp_drawt _ rfl (fun H' => Bx A H' [(b1, .rows false 2 [[.str [115], .int .i64 1000000000000]])] fs) (hB.sub (by (repeat (first | exact List.Sublist.refl _ | exact List.nil_sublist _ | apply List.Sublist.cons_cons | apply List.Sublist.cons | apply List.Sublist.append_left | refine List.Sublist.trans ?_ (List.sublist_append_right _ _))))) ?_
          | apply drawt_nil
          | (apply drawt_read; (· (first | exact wanted_plain rfl | (apply wanted_on; (· exact rfl); (· exact rfl); (· (first | with_reducible assumption | with_reducible rfl | decide))))); (· exact rfl); (· exact rfl); (· intro H' h; have h : Bx _ H' _ _ := h; exact opD_load rfl rfl (h.get At.here) rfl rfl); (· intro H' h; have h : Bx _ H' _ _ := (by first | exact h | exact h.1); exact opD_load rfl rfl (h.get At.here) rfl rfl))
          | (apply drawt_pure; (· (first | exact wanted_plain rfl | (apply wanted_on; (· exact rfl); (· exact rfl); (· (first | with_reducible assumption | with_reducible rfl | decide))))); (· exact rfl); (· exact rfl); (· exact opD_quo rfl rfl rfl (by decide) hq1))
          | (apply drawt_pure; (· (first | exact wanted_plain rfl | (apply wanted_on; (· exact rfl); (· exact rfl); (· (first | with_reducible assumption | with_reducible rfl | decide))))); (· exact rfl); (· exact rfl); (· exact opD_strAdd rfl rfl rfl hadd))
          | (apply drawt_pure; (· (first | exact wanted_plain rfl | (apply wanted_on; (· exact rfl); (· exact rfl); (· (first | with_reducible assumption | with_reducible rfl | decide))))); (· exact rfl); (· exact rfl); (· exact rfl))
          | (apply drawt_move; (· (first | exact wanted_plain rfl | (apply wanted_on; (· exact rfl); (· exact rfl); (· (first | with_reducible assumption | with_reducible rfl | decide))))); (· exact rfl); (· exact id))
          | (apply drawt_last; (· (first | exact wanted_plain rfl | (apply wanted_on; (· exact rfl); (· exact rfl); (· (first | with_reducible assumption | with_reducible rfl | decide))))); (· exact rfl); (· exact rfl); (· decide +kernel); (· exact opD_str_own rfl rfl rfl rfl rfl q3 (by assumption) (by (repeat (first | with_reducible exact Ctx.here | with_reducible apply Ctx.cons | with_reducible apply Ctx.app)))))
          | refine dwp_round ?_
          | apply dwp_seq
          | apply dwp_region
          | apply ops_nil
          | (apply ops_plain; (· exact rfl))
          | (apply ops_on; (· exact rfl); (· exact rfl); (· (first | with_reducible assumption | with_reducible rfl | decide)))
          | (apply ops_off0; (· exact rfl); (· exact rfl); (· (first | with_reducible assumption | with_reducible rfl | decide)))
          | (apply op_call; (· exact rfl); (· exact rfl); (· exact rfl); (refine (CallWp.up up13 (size70x ft _)).mono ?_; rintro r H' ⟨rfl, rfl⟩; rw [hn]))
          | (apply op_call; (· exact rfl); (· exact rfl); (· exact rfl); refine call_table (g := gUnits) rfl rfl ?_)
          | (apply op_call; (· exact rfl); (· exact rfl); (· exact rfl); (apply digits72 (n / 1000000000000) (n / 1000000000000) (Nat.le_refl _) hdm sg s3 hdl3 o3; (· assumption); (· (repeat (first | with_reducible exact Ctx.here | with_reducible apply Ctx.cons | with_reducible apply Ctx.app))); intro s' x' H1 q3 hB; refine ⟨(hB.sub (by (repeat (first | exact List.Sublist.refl _ | exact List.nil_sublist _ | apply List.Sublist.cons_cons | apply List.Sublist.cons | apply List.Sublist.append_left | refine List.Sublist.trans ?_ (List.sublist_append_right _ _))))), ?_⟩))
          | (apply op_pick_t; (· exact rfl); (· exact rfl); (· (first | with_reducible assumption | with_reducible rfl | decide)); (· exact rfl))
          | (apply op_at; (· exact opD_rem rfl rfl rfl (by decide) hr1))
          | (apply bx_load0; (· exact rfl); (· exact rfl); (· assumption); (· (repeat (first | with_reducible exact At.here | with_reducible apply At.there | with_reducible apply at_app))); (· (first | exact part107 _ _ | exact rfl)))
          | (apply bx_store0; (· exact rfl); (· exact rfl); (· exact rfl); (· assumption); (· (first | (dsimp only [putD, DV.cells, DH.new_next, DH.set_next, List.length_cons, List.length_nil, Nat.reduceAdd, List.set_cons_zero, List.set_cons_succ, getD_zero, getD_succ, fieldAt_zero, fieldAt_succ, thenD, blockD, retR, Sv.cells]; done) | (dsimp only [putD, DV.cells, DH.new_next, DH.set_next, List.length_cons, List.length_nil, Nat.reduceAdd, List.set_cons_zero, List.set_cons_succ, getD_zero, getD_succ, fieldAt_zero, fieldAt_succ, thenD, blockD, retR, Sv.cells]; exact rfl) | exact rfl)); (· (repeat (first | with_reducible exact Upd.here | with_reducible apply Upd.there | with_reducible apply upd_app))); (· exact rfl); (· exact rfl); (· exact rfl); (· exact rfl); intro H1 hB)
          | (apply bx_alloc; (· exact rfl); (· exact zero107); (· (first | (dsimp only [putD, DV.cells, DH.new_next, DH.set_next, List.length_cons, List.length_nil, Nat.reduceAdd, List.set_cons_zero, List.set_cons_succ, getD_zero, getD_succ, fieldAt_zero, fieldAt_succ, thenD, blockD, retR, Sv.cells]; done) | (dsimp only [putD, DV.cells, DH.new_next, DH.set_next, List.length_cons, List.length_nil, Nat.reduceAdd, List.set_cons_zero, List.set_cons_succ, getD_zero, getD_succ, fieldAt_zero, fieldAt_succ, thenD, blockD, retR, Sv.cells]; exact rfl) | exact rfl)); (· exact rfl); (· exact rfl); (· assumption); intro b1 H1 hB)
          | (apply op_at; (· exact rfl))
          | (apply dwp_cond_t; (· exact rfl); (· (first | with_reducible assumption | with_reducible rfl | decide)))
          | apply dwp_block
          | apply dwp_skip
          | apply dwp_ret
          | (refine ⟨_, rfl, ?_⟩)
          | fail)
        exact hK _ (hB.sub (by (repeat (first | exact List.Sublist.refl _ | exact List.nil_sublist _ | apply List.Sublist.cons_cons | apply List.Sublist.cons | apply List.Sublist.append_left | refine List.Sublist.trans ?_ (List.sublist_append_right _ _)))))
      · have hz1 : (((n % 1000000000000 : Nat) : Int) == 0) = false := by simp; omega
        by_cases hd2 : n % 1000000000 = 0
        · have hz2 : (((n % 1000000000 : Nat) : Int) == 0) = true := by rw [hd2]; rfl
          have hpk : pickU n = (1000000000, [109, 115]) := by unfold pickU; rw [if_neg hn0, if_neg hd1, if_pos hd2]
          rw [hpk] at hK
          have hdm : n / 1000000000 < 1000000000000000000 := by omega
          have hdl1 := hdl (n / 1000000000) (by omega)
          have hdl3 : sg.length + (decN (n / 1000000000)).length ≤ 1000 := by omega
          have hadd : (sg ++ decN (n / 1000000000)).length + 2 ≤ 4294967296 := by rw [List.length_append]; omega
          repeat' (first
            | dsimp only [putD, DV.cells, DH.new_next, DH.set_next, List.length_cons, List.length_nil, Nat.reduceAdd, List.set_cons_zero, List.set_cons_succ, getD_zero, getD_succ, fieldAt_zero, fieldAt_succ, thenD, blockD, retR]
            | refine dwp_drawt _ rfl (fun H' => Bx A H' [(b1, .rows false 2 [[.str [109, 115], .int .i64 1000000000]])] fs) (hB.sub (by (repeat (first | exact List.Sublist.refl _ | exact List.nil_sublist _ | apply List.Sublist.cons_cons | apply List.Sublist.cons | apply List.Sublist.append_left | refine List.Sublist.trans ?_ (List.sublist_append_right _ _))))) ?_
            | apply drawt_nil
            | (apply drawt_read; (· (first | exact wanted_plain rfl | (apply wanted_on; (· exact rfl); (· exact rfl); (· (first | with_reducible assumption | with_reducible rfl | decide))))); (· exact rfl); (· exact rfl); (· intro H' h; have h : Bx _ H' _ _ := h; exact opD_load rfl rfl (h.get At.here) rfl rfl); (· intro H' h; have h : Bx _ H' _ _ := (by first | exact h | exact h.1); exact opD_load rfl rfl (h.get At.here) rfl rfl))
            | (apply drawt_pure; (· (first | exact wanted_plain rfl | (apply wanted_on; (· exact rfl); (· exact rfl); (· (first | with_reducible assumption | with_reducible rfl | decide))))); (· exact rfl); (· exact rfl); (· exact opD_quo rfl rfl rfl (by decide) hq2))
            | (apply drawt_pure; (· (first | exact wanted_plain rfl | (apply wanted_on; (· exact rfl); (· exact rfl); (· (first | with_reducible assumption | with_reducible rfl | decide))))); (· exact rfl); (· exact rfl); (· exact opD_strAdd rfl rfl rfl hadd))
            | (apply drawt_pure; (· (first | exact wanted_plain rfl | (apply wanted_on; (· exact rfl); (· exact rfl); (· (first | with_reducible assumption | with_reducible rfl | decide))))); (· exact rfl); (· exact rfl); (· exact rfl))
            | (apply drawt_move; (· (first | exact wanted_plain rfl | (apply wanted_on; (· exact rfl); (· exact rfl); (· (first | with_reducible assumption | with_reducible rfl | decide))))); (· exact rfl); (· exact id))
            | (apply drawt_last; (· (first | exact wanted_plain rfl | (apply wanted_on; (· exact rfl); (· exact rfl); (· (first | with_reducible assumption | with_reducible rfl | decide))))); (· exact rfl); (· exact rfl); (· decide +kernel); (· exact opD_str_own rfl rfl rfl rfl rfl q3 (by assumption) (by (repeat (first | with_reducible exact Ctx.here | with_reducible apply Ctx.cons | with_reducible apply Ctx.app)))))
            | refine dwp_round ?_
            | apply dwp_seq
            | apply dwp_region
            | apply ops_nil
            | (apply ops_plain; (· exact rfl))
            | (apply ops_on; (· exact rfl); (· exact rfl); (· (first | with_reducible assumption | with_reducible rfl | decide)))
            | (apply ops_off1; (· exact rfl); (· exact rfl); (· (first | with_reducible assumption | with_reducible rfl | decide)))
            | (apply ops_off0; (· exact rfl); (· exact rfl); (· (first | with_reducible assumption | with_reducible rfl | decide)))
            | (apply ops_offn; (· exact rfl); (· exact rfl))
            | (apply op_call; (· exact rfl); (· exact rfl); (· exact rfl); (refine (CallWp.up up13 (size70x ft _)).mono ?_; rintro r H' ⟨rfl, rfl⟩; rw [hn]))
            | (apply op_call; (· exact rfl); (· exact rfl); (· exact rfl); refine call_table (g := gUnits) rfl rfl ?_)
            | (apply op_call; (· exact rfl); (· exact rfl); (· exact rfl); (apply digits72 (n / 1000000000) (n / 1000000000) (Nat.le_refl _) hdm sg s3 hdl3 o3; (· assumption); (· (repeat (first | with_reducible exact Ctx.here | with_reducible apply Ctx.cons | with_reducible apply Ctx.app))); intro s' x' H1 q3 hB; refine ⟨(hB.sub (by (repeat (first | exact List.Sublist.refl _ | exact List.nil_sublist _ | apply List.Sublist.cons_cons | apply List.Sublist.cons | apply List.Sublist.append_left | refine List.Sublist.trans ?_ (List.sublist_append_right _ _))))), ?_⟩))
            | (apply op_pick_t; (· exact rfl); (· exact rfl); (· (first | with_reducible assumption | with_reducible rfl | decide)); (· exact rfl))
            | (apply op_pick_f; (· exact rfl); (· exact rfl); (· (first | with_reducible assumption | with_reducible rfl | decide)); (· exact rfl))
            | (apply op_at; (· exact opD_rem rfl rfl rfl (by decide) hr1))
            | (apply op_at; (· exact opD_rem rfl rfl rfl (by decide) hr2))
            | (apply bx_load0; (· exact rfl); (· exact rfl); (· assumption); (· (repeat (first | with_reducible exact At.here | with_reducible apply At.there | with_reducible apply at_app))); (· (first | exact part107 _ _ | exact rfl)))
            | (apply bx_store0; (· exact rfl); (· exact rfl); (· exact rfl); (· assumption); (· (first | (dsimp only [putD, DV.cells, DH.new_next, DH.set_next, List.length_cons, List.length_nil, Nat.reduceAdd, List.set_cons_zero, List.set_cons_succ, getD_zero, getD_succ, fieldAt_zero, fieldAt_succ, thenD, blockD, retR, Sv.cells]; done) | (dsimp only [putD, DV.cells, DH.new_next, DH.set_next, List.length_cons, List.length_nil, Nat.reduceAdd, List.set_cons_zero, List.set_cons_succ, getD_zero, getD_succ, fieldAt_zero, fieldAt_succ, thenD, blockD, retR, Sv.cells]; exact rfl) | exact rfl)); (· (repeat (first | with_reducible exact Upd.here | with_reducible apply Upd.there | with_reducible apply upd_app))); (· exact rfl); (· exact rfl); (· exact rfl); (· exact rfl); intro H1 hB)
            | (apply bx_alloc; (· exact rfl); (· exact zero107); (· (first | (dsimp only [putD, DV.cells, DH.new_next, DH.set_next, List.length_cons, List.length_nil, Nat.reduceAdd, List.set_cons_zero, List.set_cons_succ, getD_zero, getD_succ, fieldAt_zero, fieldAt_succ, thenD, blockD, retR, Sv.cells]; done) | (dsimp only [putD, DV.cells, DH.new_next, DH.set_next, List.length_cons, List.length_nil, Nat.reduceAdd, List.set_cons_zero, List.set_cons_succ, getD_zero, getD_succ, fieldAt_zero, fieldAt_succ, thenD, blockD, retR, Sv.cells]; exact rfl) | exact rfl)); (· exact rfl); (· exact rfl); (· assumption); intro b1 H1 hB)
            | (apply op_at; (· exact rfl))
            | (apply dwp_cond_t; (· exact rfl); (· (first | with_reducible assumption | with_reducible rfl | decide)))
            | (apply dwp_cond_f; (· exact rfl); (· (first | with_reducible assumption | with_reducible rfl | decide)))
            | apply dwp_block
            | apply dwp_skip
            | apply dwp_ret
            | (refine ⟨_, rfl, ?_⟩)
            | fail)
          exact hK _ (hB.sub (by (repeat (first | exact List.Sublist.refl _ | exact List.nil_sublist _ | apply List.Sublist.cons_cons | apply List.Sublist.cons | apply List.Sublist.append_left | refine List.Sublist.trans ?_ (List.sublist_append_right _ _)))))
        · have hz2 : (((n % 1000000000 : Nat) : Int) == 0) = false := by simp; omega
          by_cases hd3 : n % 1000000 = 0
          · have hz3 : (((n % 1000000 : Nat) : Int) == 0) = true := by rw [hd3]; rfl
            have hpk : pickU n = (1000000, [117, 115]) := by unfold pickU; rw [if_neg hn0, if_neg hd1, if_neg hd2, if_pos hd3]
            rw [hpk] at hK
            have hdm : n / 1000000 < 1000000000000000000 := by omega
            have hdl1 := hdl (n / 1000000) (by omega)
            have hdl3 : sg.length + (decN (n / 1000000)).length ≤ 1000 := by omega
            have hadd : (sg ++ decN (n / 1000000)).length + 2 ≤ 4294967296 := by rw [List.length_append]; omega
            repeat' (first
              | dsimp only [putD, DV.cells, DH.new_next, DH.set_next, List.length_cons, List.length_nil, Nat.reduceAdd, List.set_cons_zero, List.set_cons_succ, getD_zero, getD_succ, fieldAt_zero, fieldAt_succ, thenD, blockD, retR]
              | refine dwp_drawt _ rfl (fun H' => Bx A H' [(b1, .rows false 2 [[.str [117, 115], .int .i64 1000000]])] fs) (hB.sub (by (repeat (first | exact List.Sublist.refl _ | exact List.nil_sublist _ | apply List.Sublist.cons_cons | apply List.Sublist.cons | apply List.Sublist.append_left | refine List.Sublist.trans ?_ (List.sublist_append_right _ _))))) ?_
              | apply drawt_nil
              | (apply drawt_read; (· (first | exact wanted_plain rfl | (apply wanted_on; (· exact rfl); (· exact rfl); (· (first | with_reducible assumption | with_reducible rfl | decide))))); (· exact rfl); (· exact rfl); (· intro H' h; have h : Bx _ H' _ _ := h; exact opD_load rfl rfl (h.get At.here) rfl rfl); (· intro H' h; have h : Bx _ H' _ _ := (by first | exact h | exact h.1); exact opD_load rfl rfl (h.get At.here) rfl rfl))
              | (apply drawt_pure; (· (first | exact wanted_plain rfl | (apply wanted_on; (· exact rfl); (· exact rfl); (· (first | with_reducible assumption | with_reducible rfl | decide))))); (· exact rfl); (· exact rfl); (· exact opD_quo rfl rfl rfl (by decide) hq3))
              | (apply drawt_pure; (· (first | exact wanted_plain rfl | (apply wanted_on; (· exact rfl); (· exact rfl); (· (first | with_reducible assumption | with_reducible rfl | decide))))); (· exact rfl); (· exact rfl); (· exact opD_strAdd rfl rfl rfl hadd))
              | (apply drawt_pure; (· (first | exact wanted_plain rfl | (apply wanted_on; (· exact rfl); (· exact rfl); (· (first | with_reducible assumption | with_reducible rfl | decide))))); (· exact rfl); (· exact rfl); (· exact rfl))
              | (apply drawt_move; (· (first | exact wanted_plain rfl | (apply wanted_on; (· exact rfl); (· exact rfl); (· (first | with_reducible assumption | with_reducible rfl | decide))))); (· exact rfl); (· exact id))
              | (apply drawt_last; (· (first | exact wanted_plain rfl | (apply wanted_on; (· exact rfl); (· exact rfl); (· (first | with_reducible assumption | with_reducible rfl | decide))))); (· exact rfl); (· exact rfl); (· decide +kernel); (· exact opD_str_own rfl rfl rfl rfl rfl q3 (by assumption) (by (repeat (first | with_reducible exact Ctx.here | with_reducible apply Ctx.cons | with_reducible apply Ctx.app)))))
              | refine dwp_round ?_
              | apply dwp_seq
              | apply dwp_region
              | apply ops_nil
              | (apply ops_plain; (· exact rfl))
              | (apply ops_on; (· exact rfl); (· exact rfl); (· (first | with_reducible assumption | with_reducible rfl | decide)))
              | (apply ops_off1; (· exact rfl); (· exact rfl); (· (first | with_reducible assumption | with_reducible rfl | decide)))
              | (apply ops_off0; (· exact rfl); (· exact rfl); (· (first | with_reducible assumption | with_reducible rfl | decide)))
              | (apply ops_offn; (· exact rfl); (· exact rfl))
              | (apply op_call; (· exact rfl); (· exact rfl); (· exact rfl); (refine (CallWp.up up13 (size70x ft _)).mono ?_; rintro r H' ⟨rfl, rfl⟩; rw [hn]))
              | (apply op_call; (· exact rfl); (· exact rfl); (· exact rfl); refine call_table (g := gUnits) rfl rfl ?_)
              | (apply op_call; (· exact rfl); (· exact rfl); (· exact rfl); (apply digits72 (n / 1000000) (n / 1000000) (Nat.le_refl _) hdm sg s3 hdl3 o3; (· assumption); (· (repeat (first | with_reducible exact Ctx.here | with_reducible apply Ctx.cons | with_reducible apply Ctx.app))); intro s' x' H1 q3 hB; refine ⟨(hB.sub (by (repeat (first | exact List.Sublist.refl _ | exact List.nil_sublist _ | apply List.Sublist.cons_cons | apply List.Sublist.cons | apply List.Sublist.append_left | refine List.Sublist.trans ?_ (List.sublist_append_right _ _))))), ?_⟩))
              | (apply op_pick_t; (· exact rfl); (· exact rfl); (· (first | with_reducible assumption | with_reducible rfl | decide)); (· exact rfl))
              | (apply op_pick_f; (· exact rfl); (· exact rfl); (· (first | with_reducible assumption | with_reducible rfl | decide)); (· exact rfl))
              | (apply op_at; (· exact opD_rem rfl rfl rfl (by decide) hr1))
              | (apply op_at; (· exact opD_rem rfl rfl rfl (by decide) hr2))
              | (apply op_at; (· exact opD_rem rfl rfl rfl (by decide) hr3))
              | (apply bx_load0; (· exact rfl); (· exact rfl); (· assumption); (· (repeat (first | with_reducible exact At.here | with_reducible apply At.there | with_reducible apply at_app))); (· (first | exact part107 _ _ | exact rfl)))
              | (apply bx_store0; (· exact rfl); (· exact rfl); (· exact rfl); (· assumption); (· (first | (dsimp only [putD, DV.cells, DH.new_next, DH.set_next, List.length_cons, List.length_nil, Nat.reduceAdd, List.set_cons_zero, List.set_cons_succ, getD_zero, getD_succ, fieldAt_zero, fieldAt_succ, thenD, blockD, retR, Sv.cells]; done) | (dsimp only [putD, DV.cells, DH.new_next, DH.set_next, List.length_cons, List.length_nil, Nat.reduceAdd, List.set_cons_zero, List.set_cons_succ, getD_zero, getD_succ, fieldAt_zero, fieldAt_succ, thenD, blockD, retR, Sv.cells]; exact rfl) | exact rfl)); (· (repeat (first | with_reducible exact Upd.here | with_reducible apply Upd.there | with_reducible apply upd_app))); (· exact rfl); (· exact rfl); (· exact rfl); (· exact rfl); intro H1 hB)
              | (apply bx_alloc; (· exact rfl); (· exact zero107); (· (first | (dsimp only [putD, DV.cells, DH.new_next, DH.set_next, List.length_cons, List.length_nil, Nat.reduceAdd, List.set_cons_zero, List.set_cons_succ, getD_zero, getD_succ, fieldAt_zero, fieldAt_succ, thenD, blockD, retR, Sv.cells]; done) | (dsimp only [putD, DV.cells, DH.new_next, DH.set_next, List.length_cons, List.length_nil, Nat.reduceAdd, List.set_cons_zero, List.set_cons_succ, getD_zero, getD_succ, fieldAt_zero, fieldAt_succ, thenD, blockD, retR, Sv.cells]; exact rfl) | exact rfl)); (· exact rfl); (· exact rfl); (· assumption); intro b1 H1 hB)
              | (apply op_at; (· exact rfl))
              | (apply dwp_cond_t; (· exact rfl); (· (first | with_reducible assumption | with_reducible rfl | decide)))
              | (apply dwp_cond_f; (· exact rfl); (· (first | with_reducible assumption | with_reducible rfl | decide)))
              | apply dwp_block
              | apply dwp_skip
              | apply dwp_ret
              | (refine ⟨_, rfl, ?_⟩)
              | fail)
            exact hK _ (hB.sub (by (repeat (first | exact List.Sublist.refl _ | exact List.nil_sublist _ | apply List.Sublist.cons_cons | apply List.Sublist.cons | apply List.Sublist.append_left | refine List.Sublist.trans ?_ (List.sublist_append_right _ _)))))
          · have hz3 : (((n % 1000000 : Nat) : Int) == 0) = false := by simp; omega
            by_cases hd4 : n % 1000 = 0
            · have hz4 : (((n % 1000 : Nat) : Int) == 0) = true := by rw [hd4]; rfl
              have hpk : pickU n = (1000, [110, 115]) := by unfold pickU; rw [if_neg hn0, if_neg hd1, if_neg hd2, if_neg hd3, if_pos hd4]
              rw [hpk] at hK
              have hdm : n / 1000 < 1000000000000000000 := by omega
              have hdl1 := hdl (n / 1000) (by omega)
              have hdl3 : sg.length + (decN (n / 1000)).length ≤ 1000 := by omega
              have hadd : (sg ++ decN (n / 1000)).length + 2 ≤ 4294967296 := by rw [List.length_append]; omega
              repeat' (first
                | dsimp only [putD, DV.cells, DH.new_next, DH.set_next, List.length_cons, List.length_nil, Nat.reduceAdd, List.set_cons_zero, List.set_cons_succ, getD_zero, getD_succ, fieldAt_zero, fieldAt_succ, thenD, blockD, retR]
                | refine dwp_drawt _ rfl (fun H' => Bx A H' [(b1, .rows false 2 [[.str [110, 115], .int .i64 1000]])] fs) (hB.sub (by (repeat (first | exact List.Sublist.refl _ | exact List.nil_sublist _ | apply List.Sublist.cons_cons | apply List.Sublist.cons | apply List.Sublist.append_left | refine List.Sublist.trans ?_ (List.sublist_append_right _ _))))) ?_
                | apply drawt_nil
                | (apply drawt_read; (· (first | exact wanted_plain rfl | (apply wanted_on; (· exact rfl); (· exact rfl); (· (first | with_reducible assumption | with_reducible rfl | decide))))); (· exact rfl); (· exact rfl); (· intro H' h; have h : Bx _ H' _ _ := h; exact opD_load rfl rfl (h.get At.here) rfl rfl); (· intro H' h; have h : Bx _ H' _ _ := (by first | exact h | exact h.1); exact opD_load rfl rfl (h.get At.here) rfl rfl))
                | (apply drawt_pure; (· (first | exact wanted_plain rfl | (apply wanted_on; (· exact rfl); (· exact rfl); (· (first | with_reducible assumption | with_reducible rfl | decide))))); (· exact rfl); (· exact rfl); (· exact opD_quo rfl rfl rfl (by decide) hq4))
                | (apply drawt_pure; (· (first | exact wanted_plain rfl | (apply wanted_on; (· exact rfl); (· exact rfl); (· (first | with_reducible assumption | with_reducible rfl | decide))))); (· exact rfl); (· exact rfl); (· exact opD_strAdd rfl rfl rfl hadd))
                | (apply drawt_pure; (· (first | exact wanted_plain rfl | (apply wanted_on; (· exact rfl); (· exact rfl); (· (first | with_reducible assumption | with_reducible rfl | decide))))); (· exact rfl); (· exact rfl); (· exact rfl))
                | (apply drawt_move; (· (first | exact wanted_plain rfl | (apply wanted_on; (· exact rfl); (· exact rfl); (· (first | with_reducible assumption | with_reducible rfl | decide))))); (· exact rfl); (· exact id))
                | (apply drawt_last; (· (first | exact wanted_plain rfl | (apply wanted_on; (· exact rfl); (· exact rfl); (· (first | with_reducible assumption | with_reducible rfl | decide))))); (· exact rfl); (· exact rfl); (· decide +kernel); (· exact opD_str_own rfl rfl rfl rfl rfl q3 (by assumption) (by (repeat (first | with_reducible exact Ctx.here | with_reducible apply Ctx.cons | with_reducible apply Ctx.app)))))
                | refine dwp_round ?_
                | apply dwp_seq
                | apply dwp_region
                | apply ops_nil
                | (apply ops_plain; (· exact rfl))
                | (apply ops_on; (· exact rfl); (· exact rfl); (· (first | with_reducible assumption | with_reducible rfl | decide)))
                | (apply ops_off1; (· exact rfl); (· exact rfl); (· (first | with_reducible assumption | with_reducible rfl | decide)))
                | (apply ops_off0; (· exact rfl); (· exact rfl); (· (first | with_reducible assumption | with_reducible rfl | decide)))
                | (apply ops_offn; (· exact rfl); (· exact rfl))
                | (apply op_call; (· exact rfl); (· exact rfl); (· exact rfl); (refine (CallWp.up up13 (size70x ft _)).mono ?_; rintro r H' ⟨rfl, rfl⟩; rw [hn]))
                | (apply op_call; (· exact rfl); (· exact rfl); (· exact rfl); refine call_table (g := gUnits) rfl rfl ?_)
                | (apply op_call; (· exact rfl); (· exact rfl); (· exact rfl); (apply digits72 (n / 1000) (n / 1000) (Nat.le_refl _) hdm sg s3 hdl3 o3; (· assumption); (· (repeat (first | with_reducible exact Ctx.here | with_reducible apply Ctx.cons | with_reducible apply Ctx.app))); intro s' x' H1 q3 hB; refine ⟨(hB.sub (by (repeat (first | exact List.Sublist.refl _ | exact List.nil_sublist _ | apply List.Sublist.cons_cons | apply List.Sublist.cons | apply List.Sublist.append_left | refine List.Sublist.trans ?_ (List.sublist_append_right _ _))))), ?_⟩))
                | (apply op_pick_t; (· exact rfl); (· exact rfl); (· (first | with_reducible assumption | with_reducible rfl | decide)); (· exact rfl))
                | (apply op_pick_f; (· exact rfl); (· exact rfl); (· (first | with_reducible assumption | with_reducible rfl | decide)); (· exact rfl))
                | (apply op_at; (· exact opD_rem rfl rfl rfl (by decide) hr1))
                | (apply op_at; (· exact opD_rem rfl rfl rfl (by decide) hr2))
                | (apply op_at; (· exact opD_rem rfl rfl rfl (by decide) hr3))
                | (apply op_at; (· exact opD_rem rfl rfl rfl (by decide) hr4))
                | (apply bx_load0; (· exact rfl); (· exact rfl); (· assumption); (· (repeat (first | with_reducible exact At.here | with_reducible apply At.there | with_reducible apply at_app))); (· (first | exact part107 _ _ | exact rfl)))
                | (apply bx_store0; (· exact rfl); (· exact rfl); (· exact rfl); (· assumption); (· (first | (dsimp only [putD, DV.cells, DH.new_next, DH.set_next, List.length_cons, List.length_nil, Nat.reduceAdd, List.set_cons_zero, List.set_cons_succ, getD_zero, getD_succ, fieldAt_zero, fieldAt_succ, thenD, blockD, retR, Sv.cells]; done) | (dsimp only [putD, DV.cells, DH.new_next, DH.set_next, List.length_cons, List.length_nil, Nat.reduceAdd, List.set_cons_zero, List.set_cons_succ, getD_zero, getD_succ, fieldAt_zero, fieldAt_succ, thenD, blockD, retR, Sv.cells]; exact rfl) | exact rfl)); (· (repeat (first | with_reducible exact Upd.here | with_reducible apply Upd.there | with_reducible apply upd_app))); (· exact rfl); (· exact rfl); (· exact rfl); (· exact rfl); intro H1 hB)
                | (apply bx_alloc; (· exact rfl); (· exact zero107); (· (first | (dsimp only [putD, DV.cells, DH.new_next, DH.set_next, List.length_cons, List.length_nil, Nat.reduceAdd, List.set_cons_zero, List.set_cons_succ, getD_zero, getD_succ, fieldAt_zero, fieldAt_succ, thenD, blockD, retR, Sv.cells]; done) | (dsimp only [putD, DV.cells, DH.new_next, DH.set_next, List.length_cons, List.length_nil, Nat.reduceAdd, List.set_cons_zero, List.set_cons_succ, getD_zero, getD_succ, fieldAt_zero, fieldAt_succ, thenD, blockD, retR, Sv.cells]; exact rfl) | exact rfl)); (· exact rfl); (· exact rfl); (· assumption); intro b1 H1 hB)
                | (apply op_at; (· exact rfl))
                | (apply dwp_cond_t; (· exact rfl); (· (first | with_reducible assumption | with_reducible rfl | decide)))
                | (apply dwp_cond_f; (· exact rfl); (· (first | with_reducible assumption | with_reducible rfl | decide)))
                | apply dwp_block
                | apply dwp_skip
                | apply dwp_ret
                | (refine ⟨_, rfl, ?_⟩)
                | fail)
              exact hK _ (hB.sub (by (repeat (first | exact List.Sublist.refl _ | exact List.nil_sublist _ | apply List.Sublist.cons_cons | apply List.Sublist.cons | apply List.Sublist.append_left | refine List.Sublist.trans ?_ (List.sublist_append_right _ _)))))
            · have hz4 : (((n % 1000 : Nat) : Int) == 0) = false := by simp; omega
              have hz5 : (((n % 1 : Nat) : Int) == 0) = true := by rw [Nat.mod_one]; rfl
              have hpk : pickU n = (1, [112, 115]) := by unfold pickU; rw [if_neg hn0, if_neg hd1, if_neg hd2, if_neg hd3, if_neg hd4]
              rw [hpk] at hK
              have hdm : n / 1 < 1000000000000000000 := by omega
              have hdl1 := hdl (n / 1) (by omega)
              have hdl3 : sg.length + (decN (n / 1)).length ≤ 1000 := by omega
              have hadd : (sg ++ decN (n / 1)).length + 2 ≤ 4294967296 := by rw [List.length_append]; omega
              repeat' (first
                | dsimp only [putD, DV.cells, DH.new_next, DH.set_next, List.length_cons, List.length_nil, Nat.reduceAdd, List.set_cons_zero, List.set_cons_succ, getD_zero, getD_succ, fieldAt_zero, fieldAt_succ, thenD, blockD, retR]
                | refine dwp_drawt _ rfl (fun H' => Bx A H' [(b1, .rows false 2 [[.str [112, 115], .int .i64 1]])] fs) (hB.sub (by (repeat (first | exact List.Sublist.refl _ | exact List.nil_sublist _ | apply List.Sublist.cons_cons | apply List.Sublist.cons | apply List.Sublist.append_left | refine List.Sublist.trans ?_ (List.sublist_append_right _ _))))) ?_
                | apply drawt_nil
                | (apply drawt_read; (· (first | exact wanted_plain rfl | (apply wanted_on; (· exact rfl); (· exact rfl); (· (first | with_reducible assumption | with_reducible rfl | decide))))); (· exact rfl); (· exact rfl); (· intro H' h; have h : Bx _ H' _ _ := h; exact opD_load rfl rfl (h.get At.here) rfl rfl); (· intro H' h; have h : Bx _ H' _ _ := (by first | exact h | exact h.1); exact opD_load rfl rfl (h.get At.here) rfl rfl))
                | (apply drawt_pure; (· (first | exact wanted_plain rfl | (apply wanted_on; (· exact rfl); (· exact rfl); (· (first | with_reducible assumption | with_reducible rfl | decide))))); (· exact rfl); (· exact rfl); (· exact opD_quo rfl rfl rfl (by decide) hq5))
                | (apply drawt_pure; (· (first | exact wanted_plain rfl | (apply wanted_on; (· exact rfl); (· exact rfl); (· (first | with_reducible assumption | with_reducible rfl | decide))))); (· exact rfl); (· exact rfl); (· exact opD_strAdd rfl rfl rfl hadd))
                | (apply drawt_pure; (· (first | exact wanted_plain rfl | (apply wanted_on; (· exact rfl); (· exact rfl); (· (first | with_reducible assumption | with_reducible rfl | decide))))); (· exact rfl); (· exact rfl); (· exact rfl))
                | (apply drawt_move; (· (first | exact wanted_plain rfl | (apply wanted_on; (· exact rfl); (· exact rfl); (· (first | with_reducible assumption | with_reducible rfl | decide))))); (· exact rfl); (· exact id))
                | (apply drawt_last; (· (first | exact wanted_plain rfl | (apply wanted_on; (· exact rfl); (· exact rfl); (· (first | with_reducible assumption | with_reducible rfl | decide))))); (· exact rfl); (· exact rfl); (· decide +kernel); (· exact opD_str_own rfl rfl rfl rfl rfl q3 (by assumption) (by (repeat (first | with_reducible exact Ctx.here | with_reducible apply Ctx.cons | with_reducible apply Ctx.app)))))
                | refine dwp_round ?_
                | apply dwp_seq
                | apply dwp_region
                | apply ops_nil
                | (apply ops_plain; (· exact rfl))
                | (apply ops_on; (· exact rfl); (· exact rfl); (· (first | with_reducible assumption | with_reducible rfl | decide)))
                | (apply ops_off1; (· exact rfl); (· exact rfl); (· (first | with_reducible assumption | with_reducible rfl | decide)))
                | (apply ops_off0; (· exact rfl); (· exact rfl); (· (first | with_reducible assumption | with_reducible rfl | decide)))
                | (apply ops_offn; (· exact rfl); (· exact rfl))
                | (apply op_call; (· exact rfl); (· exact rfl); (· exact rfl); (refine (CallWp.up up13 (size70x ft _)).mono ?_; rintro r H' ⟨rfl, rfl⟩; rw [hn]))
                | (apply op_call; (· exact rfl); (· exact rfl); (· exact rfl); refine call_table (g := gUnits) rfl rfl ?_)
                | (apply op_call; (· exact rfl); (· exact rfl); (· exact rfl); (apply digits72 (n / 1) (n / 1) (Nat.le_refl _) hdm sg s3 hdl3 o3; (· assumption); (· (repeat (first | with_reducible exact Ctx.here | with_reducible apply Ctx.cons | with_reducible apply Ctx.app))); intro s' x' H1 q3 hB; refine ⟨(hB.sub (by (repeat (first | exact List.Sublist.refl _ | exact List.nil_sublist _ | apply List.Sublist.cons_cons | apply List.Sublist.cons | apply List.Sublist.append_left | refine List.Sublist.trans ?_ (List.sublist_append_right _ _))))), ?_⟩))
                | (apply op_pick_t; (· exact rfl); (· exact rfl); (· (first | with_reducible assumption | with_reducible rfl | decide)); (· exact rfl))
                | (apply op_pick_f; (· exact rfl); (· exact rfl); (· (first | with_reducible assumption | with_reducible rfl | decide)); (· exact rfl))
                | (apply op_at; (· exact opD_rem rfl rfl rfl (by decide) hr1))
                | (apply op_at; (· exact opD_rem rfl rfl rfl (by decide) hr2))
                | (apply op_at; (· exact opD_rem rfl rfl rfl (by decide) hr3))
                | (apply op_at; (· exact opD_rem rfl rfl rfl (by decide) hr4))
                | (apply op_at; (· exact opD_rem rfl rfl rfl (by decide) hr5))
                | (apply bx_load0; (· exact rfl); (· exact rfl); (· assumption); (· (repeat (first | with_reducible exact At.here | with_reducible apply At.there | with_reducible apply at_app))); (· (first | exact part107 _ _ | exact rfl)))
                | (apply bx_store0; (· exact rfl); (· exact rfl); (· exact rfl); (· assumption); (· (first | (dsimp only [putD, DV.cells, DH.new_next, DH.set_next, List.length_cons, List.length_nil, Nat.reduceAdd, List.set_cons_zero, List.set_cons_succ, getD_zero, getD_succ, fieldAt_zero, fieldAt_succ, thenD, blockD, retR, Sv.cells]; done) | (dsimp only [putD, DV.cells, DH.new_next, DH.set_next, List.length_cons, List.length_nil, Nat.reduceAdd, List.set_cons_zero, List.set_cons_succ, getD_zero, getD_succ, fieldAt_zero, fieldAt_succ, thenD, blockD, retR, Sv.cells]; exact rfl) | exact rfl)); (· (repeat (first | with_reducible exact Upd.here | with_reducible apply Upd.there | with_reducible apply upd_app))); (· exact rfl); (· exact rfl); (· exact rfl); (· exact rfl); intro H1 hB)
                | (apply bx_alloc; (· exact rfl); (· exact zero107); (· (first | (dsimp only [putD, DV.cells, DH.new_next, DH.set_next, List.length_cons, List.length_nil, Nat.reduceAdd, List.set_cons_zero, List.set_cons_succ, getD_zero, getD_succ, fieldAt_zero, fieldAt_succ, thenD, blockD, retR, Sv.cells]; done) | (dsimp only [putD, DV.cells, DH.new_next, DH.set_next, List.length_cons, List.length_nil, Nat.reduceAdd, List.set_cons_zero, List.set_cons_succ, getD_zero, getD_succ, fieldAt_zero, fieldAt_succ, thenD, blockD, retR, Sv.cells]; exact rfl) | exact rfl)); (· exact rfl); (· exact rfl); (· assumption); intro b1 H1 hB)
                | (apply op_at; (· exact rfl))
                | (apply dwp_cond_t; (· exact rfl); (· (first | with_reducible assumption | with_reducible rfl | decide)))
                | (apply dwp_cond_f; (· exact rfl); (· (first | with_reducible assumption | with_reducible rfl | decide)))
                | apply dwp_block
                | apply dwp_skip
                | apply dwp_ret
                | (refine ⟨_, rfl, ?_⟩)
                | fail)
              exact hK _ (hB.sub (by (repeat (first | exact List.Sublist.refl _ | exact List.nil_sublist _ | apply List.Sublist.cons_cons | apply List.Sublist.cons | apply List.Sublist.append_left | refine List.Sublist.trans ?_ (List.sublist_append_right _ _)))))
end
end Go.Det.C

/- Tokens stand at their places. -/
namespace Go.Det.C
open Go Go.Det Go.Proofs
set_option maxRecDepth 4000
set_option linter.unusedVariables false
set_option linter.unusedSimpArgs false
def runeLenF (c : Int) : Int := if c < 0 then -1 else if c ≤ 127 then 1 else if c ≤ 2047 then 2 else if 55296 ≤ c ∧ c ≤ 57343 then -1 else if c ≤ 65535 then 3 else if c ≤ 1114111 then 4 else -1
theorem get_zero (l : List UInt8) (k : Nat) : (ByteArray.mk l.toArray).get! (0 + k) = l[k]?.getD 0 := by
  show l.toArray[0 + k]! = _
  rw [Nat.zero_add, getElem!_def, List.getElem?_toArray]
  cases l[k]? <;> rfl
theorem prefix3 {l : List UInt8} (h : 2 < l.length) (h0 : (l[0]?.getD 0).toNat = 239) (h1 : (l[1]?.getD 0).toNat = 191) (h2 : (l[2]?.getD 0).toNat = 189) : [239, 191, 189].isPrefixOf l = true := by
  match l, h with
  | a :: b :: c :: t, _ =>
    simp only [List.getElem?_cons_zero, List.getElem?_cons_succ, Option.getD_some] at h0 h1 h2
    have e0 : a = 239 := UInt8.toNat_inj.mp h0
    have e1 : b = 191 := UInt8.toNat_inj.mp h1
    have e2 : c = 189 := UInt8.toNat_inj.mp h2
    subst e0 e1 e2
    simp [List.isPrefixOf]
theorem decL_err3 (t : List UInt8) : decL (239 :: 191 :: 189 :: t) = (65533, 3) := by
  have hs : (ByteArray.mk (239 :: 191 :: 189 :: t).toArray).size = t.length + 3 := rfl
  unfold decL Utf8.decode
  simp only [hs, get_zero, List.getElem?_cons_zero, List.getElem?_cons_succ, Option.getD_some]
  have d1 : decide (0 + 1 < t.length + 3) = true := by simp
  have d2 : decide (0 + 2 < t.length + 3) = true := by simp
  have e0 : (239 : UInt8).toNat = 239 := rfl
  have e1 : (191 : UInt8).toNat = 191 := rfl
  have e2 : (189 : UInt8).toNat = 189 := rfl
  simp [d1, d2, e0, e1, e2, Utf8.valid]
theorem decL_key {l : List UInt8} (h : l ≠ []) (hp : [239, 191, 189].isPrefixOf l = false) : (decL l).1 = 65533 ∧ (decL l).2 = 1 ∨ (decL l).1 ≠ 65533 ∧ ((decL l).2 : Int) = runeLenF (decL l).1 := by
  have hl : 0 < l.length := List.length_pos_iff.mpr h
  have hsz : (ByteArray.mk l.toArray).size = l.length := rfl
  have u0 := (l[0]?.getD 0).toNat_lt
  have u1 := (l[1]?.getD 0).toNat_lt
  have u2 := (l[2]?.getD 0).toNat_lt
  have u3 := (l[3]?.getD 0).toNat_lt
  have hp3 := @prefix3 l
  unfold decL Utf8.decode
  simp only [hsz, get_zero]
  generalize (l[0]?.getD 0).toNat = b0 at *
  generalize (l[1]?.getD 0).toNat = b1 at *
  generalize (l[2]?.getD 0).toNat = b2 at *
  generalize (l[3]?.getD 0).toNat = b3 at *
  split
  · rename_i h1
    right
    simp only
    refine ⟨by omega, ?_⟩
    unfold runeLenF
    rw [if_neg (by omega), if_pos (by omega)]; rfl
  · split
    · rename_i h1 h2
      split
      · rename_i h3
        right
        simp only
        refine ⟨by omega, ?_⟩
        unfold runeLenF
        rw [if_neg (by omega), if_neg (by omega), if_pos (by omega)]; rfl
      · exact .inl ⟨rfl, rfl⟩
    · split
      · rename_i h1 h2 h4
        simp only [Bool.and_eq_true, decide_eq_true_eq, beq_iff_eq] at h4
        split
        · rename_i h3
          right
          unfold Utf8.valid at h3
          simp only [Bool.and_eq_true, Bool.or_eq_true, decide_eq_true_eq] at h3
          simp only
          have hne : ¬ (b0 % 16) * 4096 + (b1 % 64) * 64 + b2 % 64 = 65533 := by
            intro e
            have := hp3 (by omega) (by omega) (by omega) (by omega)
            rw [this] at hp
            cases hp
          refine ⟨hne, ?_⟩
          unfold runeLenF
          rw [if_neg (by omega), if_neg (by omega), if_neg (by omega), if_neg (by omega), if_pos (by omega)]; rfl
        · exact .inl ⟨rfl, rfl⟩
      · split
        · rename_i h1 h2 h4 h5
          split
          · rename_i h3
            right
            unfold Utf8.valid at h3
            simp only [Bool.and_eq_true, Bool.or_eq_true, decide_eq_true_eq] at h3
            simp only
            refine ⟨by omega, ?_⟩
            unfold runeLenF
            rw [if_neg (by omega), if_neg (by omega), if_neg (by omega), if_neg (by omega), if_neg (by omega), if_pos (by omega)]; rfl
          · exact .inl ⟨rfl, rfl⟩
        · exact .inl ⟨rfl, rfl⟩
theorem decL_len {l : List UInt8} (h : l ≠ []) : ((decL l).2 : Int) = if badL l = true then 1 else runeLenF (decL l).1 := by
  by_cases hp : [239, 191, 189].isPrefixOf l = true
  · match l, hp with
    | a :: b :: c :: t, hp =>
      simp [List.isPrefixOf] at hp
      obtain ⟨rfl, rfl, rfl⟩ := hp
      unfold badL
      rw [decL_err3]
      rfl
    | [a, b], hp => simp [List.isPrefixOf] at hp
    | [a], hp => simp [List.isPrefixOf] at hp
    | [], hp => exact absurd rfl h
  · have hp' : [239, 191, 189].isPrefixOf l = false := eq_false_of_ne_true hp
    unfold badL
    rw [hp']
    rcases decL_key h hp' with ⟨h1, h2⟩ | ⟨h1, h2⟩
    · rw [h1, h2]; rfl
    · have : decide ((decL l).1 = 65533) = false := by simpa using h1
      rw [this, h2]; rfl
theorem decL_ascii {l : List UInt8} (h : l ≠ []) (hc : (decL l).1 < 128) : ∃ b m, l = b :: m ∧ b.toNat = (decL l).1 ∧ (decL l).2 = 1 ∧ l.drop (decL l).2 = m := by
  match l, h with
  | b :: m, _ =>
    have h0 : (decL (b :: m)).1 = b.toNat ∧ (decL (b :: m)).2 = 1 := by
      have g0 : ((b :: m)[0]?.getD 0).toNat = b.toNat := by simp
      revert hc
      unfold decL Utf8.decode
      simp only [get_zero, g0]
      split
      · intro _; exact ⟨rfl, rfl⟩
      · split
        · split
          · intro hc; simp only at hc; omega
          · intro hc; exact absurd hc (by decide)
        · split
          · split
            · rename_i h3
              intro hc
              simp only [Bool.and_eq_true, decide_eq_true_eq] at h3
              simp only at hc
              omega
            · intro hc; exact absurd hc (by decide)
          · split
            · split
              · rename_i h3
                intro hc
                simp only [Bool.and_eq_true, decide_eq_true_eq] at h3
                simp only at hc
                omega
              · intro hc; exact absurd hc (by decide)
            · intro hc; exact absurd hc (by decide)
    exact ⟨b, m, rfl, h0.1.symm, h0.2, by rw [h0.2]; rfl⟩
/-! ### what is cut stands there -/
/-- Tokens, as they stand in a text. -/
inductive Laid : List UInt8 → Int × Int → List (Tok × (Int × Int)) → Prop
  | nil {l p} : Laid l p []
  | skip {l p ts} : l ≠ [] → Laid (l.drop (decL l).2) (nextP p (decL l).1) ts → Laid l p ts
  | tok {l m : List UInt8} {p t ts} : l = t.s ++ m → t.s ≠ [] → (∀ x ∈ t.s, x.toNat < 128 ∧ x.toNat ≠ 10) → Laid m (p.1, p.2 + t.s.length) ts → Laid l p ((t, p) :: ts)
theorem isLet_range {n : Int} (h : isLet n = true ∨ isDgt n = true) : 48 ≤ n ∧ n ≤ 122 := by
  unfold isLet isDgt at h
  simp only [Bool.and_eq_true, decide_eq_true_eq] at h
  omega
/-! ### where a byte stands -/
/-- A byte's place. -/
def whereG (l : List UInt8) (p : Int × Int) (k : Nat) : Int × Int :=
  if h : l = [] then p else if k < (decL l).2 then p else whereG (l.drop (decL l).2) (nextP p (decL l).1) (k - (decL l).2)
termination_by l.length
decreasing_by
  have h1 := decL_width h
  have h2 : 0 < l.length := List.length_pos_iff.mpr h
  rw [List.length_drop]; omega
theorem whereG_nil (p : Int × Int) (k : Nat) : whereG [] p k = p := by rw [whereG]; simp
theorem whereG_lt {l : List UInt8} (h : l ≠ []) {p : Int × Int} {k : Nat} (hk : k < (decL l).2) : whereG l p k = p := by rw [whereG, dif_neg h, if_pos hk]
theorem whereG_ge {l : List UInt8} (h : l ≠ []) {p : Int × Int} {k : Nat} (hk : ¬ k < (decL l).2) : whereG l p k = whereG (l.drop (decL l).2) (nextP p (decL l).1) (k - (decL l).2) := by
  conv => lhs; rw [whereG]
  rw [dif_neg h, if_neg hk]
/-- What the law looks at, one byte after the other. -/
inductive Good (s : List UInt8) : Nat → List (Tok × (Int × Int)) → Prop
  | nil {k} : Good s k []
  | skip {k x ts} : k < s.length → whereG s (1, 1) k ≠ x.2 → Good s (k + 1) (x :: ts) → Good s k (x :: ts)
  | tok {k x ts} : k < s.length → whereG s (1, 1) k = x.2 → x.1.s ≠ [] → k + x.1.s.length ≤ s.length → (s.drop k).take x.1.s.length = x.1.s → Good s (k + x.1.s.length) ts → Good s k (x :: ts)
end Go.Det.C

/- What is joined is cut as it was. -/
namespace Go.Det.C
open Go Go.Det Go.Proofs
set_option maxRecDepth 4000
set_option linter.unusedVariables false
set_option linter.unusedSimpArgs false
/-- A token's text, and what is wrong. -/
def textF (t : Tok) : List UInt8 × Int :=
  if t.k = 1 ∧ (t.n = 0 ∧ t.t = false) ∧ wordF t.s = true then (t.s, 0)
  else if t.k = 3 ∧ (t.n = 0 ∧ t.t = false) ∧ (t.s = [59] ∨ t.s = [123] ∨ t.s = [125]) then (t.s, 0)
  else if t.k ≠ 2 ∨ t.n ≤ -1000000000000000000 ∨ t.n ≥ 1000000000000000000 then ([], 1)
  else if t.t = true then (ptextF t.n, 0) else (decF t.n, 0)
/-! ### words -/
theorem wordL_piece : ∀ (n : Nat) (l : List UInt8) (f : Bool), l.length ≤ n → wordL f (runes l) = true → (∀ x ∈ l, pieceB x) ∧ (f = true → l ≠ [] → isLet ((l.headD 0).toNat : Int) = true) := by
  intro n
  induction n with
  | zero =>
    intro l f hl _
    obtain rfl : l = [] := List.length_eq_zero_iff.mp (by omega)
    exact ⟨fun x hx => (by cases hx), fun _ h => absurd rfl h⟩
  | succ n ih =>
    intro l f hl h
    by_cases hne : l = []
    · subst hne; exact ⟨fun x hx => (by cases hx), fun _ h => absurd rfl h⟩
    · have hw := decL_width hne
      rw [runes_cons hne] at h
      unfold wordL at h
      simp only [Bool.and_eq_true, Bool.or_eq_true] at h
      obtain ⟨h1, h2⟩ := h
      have hp : isLet (((decL l).1 : Nat) : Int) = true ∨ isDgt (((decL l).1 : Nat) : Int) = true := by
        rcases h1 with h1 | h1
        · exact .inl h1
        · exact .inr h1.2
      have hr := isLet_range hp
      obtain ⟨b, m, rfl, hbn, hw1, hdr⟩ := decL_ascii hne (by omega)
      rw [hdr] at h2
      obtain ⟨k1, _⟩ := ih m false (by simp at hl; omega) h2
      rw [← hbn] at hp h1
      refine ⟨fun x hx => ?_, fun hf _ => ?_⟩
      · rcases List.mem_cons.mp hx with rfl | hx
        · exact hp
        · exact k1 x hx
      · subst hf
        rcases h1 with h1 | h1
        · exact h1
        · simp at h1
theorem wordF_facts {s : List UInt8} (h : wordF s = true) : (∀ x ∈ s, pieceB x) ∧ isLet ((s.headD 0).toNat : Int) = true ∧ s ≠ [] ∧ s.length ≤ 16 := by
  unfold wordF at h
  simp only [Bool.and_eq_true, Bool.not_eq_true', beq_eq_false_iff_ne, decide_eq_true_eq] at h
  obtain ⟨h1, h2, h3⟩ := h
  obtain ⟨k1, k2⟩ := wordL_piece _ s true (Nat.le_refl _) h1
  exact ⟨k1, k2 rfl h2, h2, h3⟩
/-! ### times -/
theorem pickU_facts (n : Nat) : ∃ ps : Int, unitF (pickU n).2 = some ps ∧ ps = ((pickU n).1 : Int) ∧ 0 < (pickU n).1 ∧ n / (pickU n).1 * (pickU n).1 = n := by
  unfold pickU
  by_cases h0 : n = 0
  · rw [if_pos h0]; subst h0; exact ⟨1, rfl, rfl, by decide, rfl⟩
  · rw [if_neg h0]
    by_cases h1 : n % 1000000000000 = 0
    · rw [if_pos h1]; exact ⟨1000000000000, rfl, rfl, by decide, by simp only; omega⟩
    · rw [if_neg h1]
      by_cases h2 : n % 1000000000 = 0
      · rw [if_pos h2]; exact ⟨1000000000, rfl, rfl, by decide, by simp only; omega⟩
      · rw [if_neg h2]
        by_cases h3 : n % 1000000 = 0
        · rw [if_pos h3]; exact ⟨1000000, rfl, rfl, by decide, by simp only; omega⟩
        · rw [if_neg h3]
          by_cases h4 : n % 1000 = 0
          · rw [if_pos h4]; exact ⟨1000, rfl, rfl, by decide, by simp only; omega⟩
          · rw [if_neg h4]; exact ⟨1, rfl, rfl, by decide, by simp only; omega⟩
/-- What a piece's text is, and what it is cut as. -/
structure Cuts (w : List UInt8) (t : Tok) : Prop where
  piece : Piece w
  fin : ∀ c : Cu, c.piece = w → c.fin = { c with toks := c.toks ++ [t], places := c.places ++ [c.at'], piece := [] }
theorem joinF_cons (x : List UInt8) (y : List UInt8) (r : List (List UInt8)) : joinF (x :: y :: r) [32] = x ++ 32 :: joinF (y :: r) [32] := by
  unfold joinF
  rw [Lib.join_cons, Lib.join_cons]
  simp [Lib.joinTail]
theorem joinF_one (x : List UInt8) : joinF [x] [32] = x := by unfold joinF; exact Lib.join_one x _
end Go.Det.C

/- Tokens' texts, joined. -/
namespace Go.Det.C
open Go Go.Det Go.Proofs
set_option maxRecDepth 4000
set_option maxHeartbeats 4000000
set_option linter.unusedVariables false
set_option linter.unusedSimpArgs false
section
variable {A H : DH} {bs : List (Nat × DObj)} {fs : List (DH → Prop)} {K : DV → DH → Prop}
/-- A token's text. -/
theorem text27 {t : Tok} (hs : t.s.length ≤ 65536) (hB : Bx A H bs fs) (hK : ∀ H', Bx A H' bs fs → K (.tuple [.str (textF t).1, .int .i64 (textF t).2]) H') : CallWp Tryd.prog X3 27 [.agg t.row] H K := by
  obtain ⟨k, s, n, tm⟩ := t
  have heq := eqTok ⟨k, s, n, tm⟩ ⟨k, s, 0, false⟩
  obtain ⟨pl, hpl⟩ : ∃ pl, decide ((⟨k, s, n, tm⟩ : Tok) = ⟨k, s, 0, false⟩) = pl := ⟨_, rfl⟩
  rw [hpl] at heq
  have hpl' : (n = 0 ∧ tm = false) ↔ pl = true := by rw [← hpl]; simp
  unfold textF at hK
  simp only at hs hK
  cases hk1 : (k == 1) with
  | true =>
    obtain rfl : k = 1 := by simpa using hk1
    have hk3 : ((1 : Int) == 3) = false := rfl
    have hk2 : ((1 : Int) != 2) = true := rfl
    cases pl with
    | true =>
      have hp := hpl'.mpr rfl
      cases hw : wordF s with
      | true =>
        rw [if_pos ⟨rfl, hp, hw⟩] at hK
        refine enter rfl Tryd.func27 rfl Tryd.ntmps27 rfl ?_
        dsimp only [List.cons_append, List.nil_append, List.length_cons, List.length_nil, List.replicate_succ, List.replicate_zero, Nat.reduceAdd, Nat.reduceSub]
        repeat' (first
          | dsimp only [putD, DV.cells, DH.new_next, DH.set_next, List.length_cons, List.length_nil, Nat.reduceAdd, List.set_cons_zero, List.set_cons_succ, getD_zero, getD_succ, fieldAt_zero, fieldAt_succ, thenD, blockD, retR]
          | apply dwp_seq
          | apply dwp_region
          | apply ops_nil
          | (apply ops_plain; (· exact rfl))
          | (apply ops_on; (· exact rfl); (· exact rfl); (· (first | with_reducible assumption | with_reducible rfl | decide)))
          | (apply op_call; (· exact rfl); (· exact rfl); (· exact rfl); (apply word33 (s := s); (· exact hs); (· assumption); intro H1 hB; rw [hw]))
          | (apply op_pick_t; (· exact rfl); (· exact rfl); (· (first | with_reducible assumption | with_reducible rfl | decide)); (· exact rfl))
          | (apply op_at; (· exact opD_eql rfl rfl rfl heq))
          | (apply bx_load0; (· exact rfl); (· exact rfl); (· assumption); (· (repeat (first | with_reducible exact At.here | with_reducible apply At.there | with_reducible apply at_app))); (· (first | exact part57 _ _ _ _ | exact rfl)))
          | (apply bx_box; (· exact rfl); (· exact rfl); (· (first | (dsimp only [putD, DV.cells, DH.new_next, DH.set_next, List.length_cons, List.length_nil, Nat.reduceAdd, List.set_cons_zero, List.set_cons_succ, getD_zero, getD_succ, fieldAt_zero, fieldAt_succ, thenD, blockD, retR, Sv.cells]; done) | (dsimp only [putD, DV.cells, DH.new_next, DH.set_next, List.length_cons, List.length_nil, Nat.reduceAdd, List.set_cons_zero, List.set_cons_succ, getD_zero, getD_succ, fieldAt_zero, fieldAt_succ, thenD, blockD, retR, Sv.cells]; exact rfl) | exact rfl)); (· exact rfl); (· exact rfl); (· assumption); intro b1 H1 hB)
          | (apply op_at; (· exact rfl))
          | (apply dwp_cond_t; (· exact rfl); (· (first | with_reducible assumption | with_reducible rfl | decide)))
          | apply dwp_block
          | apply dwp_ret
          | (refine ⟨_, rfl, ?_⟩)
          | fail)
        exact hK _ (hB.sub (by (repeat (first | exact List.Sublist.refl _ | exact List.nil_sublist _ | apply List.Sublist.cons_cons | apply List.Sublist.cons | apply List.Sublist.append_left | refine List.Sublist.trans ?_ (List.sublist_append_right _ _)))))
      | false =>
        rw [if_neg (fun h => by rw [hw] at h; cases h.2.2), if_neg (fun h => by cases h.1), if_pos (.inl (by decide))] at hK
        refine enter rfl Tryd.func27 rfl Tryd.ntmps27 rfl ?_
        dsimp only [List.cons_append, List.nil_append, List.length_cons, List.length_nil, List.replicate_succ, List.replicate_zero, Nat.reduceAdd, Nat.reduceSub]
        repeat' (first
          | dsimp only [putD, DV.cells, DH.new_next, DH.set_next, List.length_cons, List.length_nil, Nat.reduceAdd, List.set_cons_zero, List.set_cons_succ, getD_zero, getD_succ, fieldAt_zero, fieldAt_succ, thenD, blockD, retR]
          | apply dwp_seq
          | apply dwp_region
          | apply ops_nil
          | (apply ops_plain; (· exact rfl))
          | (apply ops_on; (· exact rfl); (· exact rfl); (· (first | with_reducible assumption | with_reducible rfl | decide)))
          | (apply ops_off1; (· exact rfl); (· exact rfl); (· (first | with_reducible assumption | with_reducible rfl | decide)))
          | (apply ops_off0; (· exact rfl); (· exact rfl); (· (first | with_reducible assumption | with_reducible rfl | decide)))
          | (apply ops_offn; (· exact rfl); (· exact rfl))
          | (apply op_call; (· exact rfl); (· exact rfl); (· exact rfl); (apply word33 (s := s); (· exact hs); (· assumption); intro H1 hB; rw [hw]))
          | (apply op_pick_t; (· exact rfl); (· exact rfl); (· (first | with_reducible assumption | with_reducible rfl | decide)); (· exact rfl))
          | (apply op_pick_f; (· exact rfl); (· exact rfl); (· (first | with_reducible assumption | with_reducible rfl | decide)); (· exact rfl))
          | (apply op_at; (· exact opD_eql rfl rfl rfl heq))
          | (apply bx_load0; (· exact rfl); (· exact rfl); (· assumption); (· (repeat (first | with_reducible exact At.here | with_reducible apply At.there | with_reducible apply at_app))); (· (first | exact part57 _ _ _ _ | exact rfl)))
          | (apply bx_box; (· exact rfl); (· exact rfl); (· (first | (dsimp only [putD, DV.cells, DH.new_next, DH.set_next, List.length_cons, List.length_nil, Nat.reduceAdd, List.set_cons_zero, List.set_cons_succ, getD_zero, getD_succ, fieldAt_zero, fieldAt_succ, thenD, blockD, retR, Sv.cells]; done) | (dsimp only [putD, DV.cells, DH.new_next, DH.set_next, List.length_cons, List.length_nil, Nat.reduceAdd, List.set_cons_zero, List.set_cons_succ, getD_zero, getD_succ, fieldAt_zero, fieldAt_succ, thenD, blockD, retR, Sv.cells]; exact rfl) | exact rfl)); (· exact rfl); (· exact rfl); (· assumption); intro b1 H1 hB)
          | (apply op_at; (· exact rfl))
          | (apply dwp_cond_t; (· exact rfl); (· (first | with_reducible assumption | with_reducible rfl | decide)))
          | (apply dwp_cond_f; (· exact rfl); (· (first | with_reducible assumption | with_reducible rfl | decide)))
          | apply dwp_block
          | apply dwp_ret
          | (refine ⟨_, rfl, ?_⟩)
          | fail)
        exact hK _ (hB.sub (by (repeat (first | exact List.Sublist.refl _ | exact List.nil_sublist _ | apply List.Sublist.cons_cons | apply List.Sublist.cons | apply List.Sublist.append_left | refine List.Sublist.trans ?_ (List.sublist_append_right _ _)))))
    | false =>
      rw [if_neg (fun h => by have := hpl'.mp h.2.1; cases this), if_neg (fun h => by cases h.1), if_pos (.inl (by decide))] at hK
      refine enter rfl Tryd.func27 rfl Tryd.ntmps27 rfl ?_
      dsimp only [List.cons_append, List.nil_append, List.length_cons, List.length_nil, List.replicate_succ, List.replicate_zero, Nat.reduceAdd, Nat.reduceSub]
      repeat' (first
        | dsimp only [putD, DV.cells, DH.new_next, DH.set_next, List.length_cons, List.length_nil, Nat.reduceAdd, List.set_cons_zero, List.set_cons_succ, getD_zero, getD_succ, fieldAt_zero, fieldAt_succ, thenD, blockD, retR]
        | apply dwp_seq
        | apply dwp_region
        | apply ops_nil
        | (apply ops_plain; (· exact rfl))
        | (apply ops_on; (· exact rfl); (· exact rfl); (· (first | with_reducible assumption | with_reducible rfl | decide)))
        | (apply ops_off1; (· exact rfl); (· exact rfl); (· (first | with_reducible assumption | with_reducible rfl | decide)))
        | (apply ops_off0; (· exact rfl); (· exact rfl); (· (first | with_reducible assumption | with_reducible rfl | decide)))
        | (apply ops_offn; (· exact rfl); (· exact rfl))
        | (apply op_pick_t; (· exact rfl); (· exact rfl); (· (first | with_reducible assumption | with_reducible rfl | decide)); (· exact rfl))
        | (apply op_pick_f; (· exact rfl); (· exact rfl); (· (first | with_reducible assumption | with_reducible rfl | decide)); (· exact rfl))
        | (apply op_at; (· exact opD_eql rfl rfl rfl heq))
        | (apply bx_load0; (· exact rfl); (· exact rfl); (· assumption); (· (repeat (first | with_reducible exact At.here | with_reducible apply At.there | with_reducible apply at_app))); (· (first | exact part57 _ _ _ _ | exact rfl)))
        | (apply bx_box; (· exact rfl); (· exact rfl); (· (first | (dsimp only [putD, DV.cells, DH.new_next, DH.set_next, List.length_cons, List.length_nil, Nat.reduceAdd, List.set_cons_zero, List.set_cons_succ, getD_zero, getD_succ, fieldAt_zero, fieldAt_succ, thenD, blockD, retR, Sv.cells]; done) | (dsimp only [putD, DV.cells, DH.new_next, DH.set_next, List.length_cons, List.length_nil, Nat.reduceAdd, List.set_cons_zero, List.set_cons_succ, getD_zero, getD_succ, fieldAt_zero, fieldAt_succ, thenD, blockD, retR, Sv.cells]; exact rfl) | exact rfl)); (· exact rfl); (· exact rfl); (· assumption); intro b1 H1 hB)
        | (apply op_at; (· exact rfl))
        | (apply dwp_cond_t; (· exact rfl); (· (first | with_reducible assumption | with_reducible rfl | decide)))
        | (apply dwp_cond_f; (· exact rfl); (· (first | with_reducible assumption | with_reducible rfl | decide)))
        | apply dwp_block
        | apply dwp_ret
        | (refine ⟨_, rfl, ?_⟩)
        | fail)
      exact hK _ (hB.sub (by (repeat (first | exact List.Sublist.refl _ | exact List.nil_sublist _ | apply List.Sublist.cons_cons | apply List.Sublist.cons | apply List.Sublist.append_left | refine List.Sublist.trans ?_ (List.sublist_append_right _ _)))))
  | false =>
    have hk1' : k ≠ 1 := by simpa using hk1
    cases hk3 : (k == 3) with
    | true =>
      obtain rfl : k = 3 := by simpa using hk3
      have hk2 : ((3 : Int) != 2) = true := rfl
      cases pl with
      | true =>
        have hp := hpl'.mpr rfl
        cases ha : (s == [59]) with
        | true =>
          have ha' : s = [59] := by simpa using ha
          rw [if_neg (fun h => by cases h.1), if_pos ⟨rfl, hp, .inl ha'⟩] at hK
          refine enter rfl Tryd.func27 rfl Tryd.ntmps27 rfl ?_
          dsimp only [List.cons_append, List.nil_append, List.length_cons, List.length_nil, List.replicate_succ, List.replicate_zero, Nat.reduceAdd, Nat.reduceSub]
          repeat' (first
            | dsimp only [putD, DV.cells, DH.new_next, DH.set_next, List.length_cons, List.length_nil, Nat.reduceAdd, List.set_cons_zero, List.set_cons_succ, getD_zero, getD_succ, fieldAt_zero, fieldAt_succ, thenD, blockD, retR]
            | apply dwp_seq
            | apply dwp_region
            | apply ops_nil
            | (apply ops_plain; (· exact rfl))
            | (apply ops_on; (· exact rfl); (· exact rfl); (· (first | with_reducible assumption | with_reducible rfl | decide)))
            | (apply ops_off1; (· exact rfl); (· exact rfl); (· (first | with_reducible assumption | with_reducible rfl | decide)))
            | (apply ops_off0; (· exact rfl); (· exact rfl); (· (first | with_reducible assumption | with_reducible rfl | decide)))
            | (apply op_pick_t; (· exact rfl); (· exact rfl); (· (first | with_reducible assumption | with_reducible rfl | decide)); (· exact rfl))
            | (apply op_pick_f; (· exact rfl); (· exact rfl); (· (first | with_reducible assumption | with_reducible rfl | decide)); (· exact rfl))
            | (apply op_at; (· exact opD_eql rfl rfl rfl heq))
            | (apply bx_load0; (· exact rfl); (· exact rfl); (· assumption); (· (repeat (first | with_reducible exact At.here | with_reducible apply At.there | with_reducible apply at_app))); (· (first | exact part57 _ _ _ _ | exact rfl)))
            | (apply bx_box; (· exact rfl); (· exact rfl); (· (first | (dsimp only [putD, DV.cells, DH.new_next, DH.set_next, List.length_cons, List.length_nil, Nat.reduceAdd, List.set_cons_zero, List.set_cons_succ, getD_zero, getD_succ, fieldAt_zero, fieldAt_succ, thenD, blockD, retR, Sv.cells]; done) | (dsimp only [putD, DV.cells, DH.new_next, DH.set_next, List.length_cons, List.length_nil, Nat.reduceAdd, List.set_cons_zero, List.set_cons_succ, getD_zero, getD_succ, fieldAt_zero, fieldAt_succ, thenD, blockD, retR, Sv.cells]; exact rfl) | exact rfl)); (· exact rfl); (· exact rfl); (· assumption); intro b1 H1 hB)
            | (apply op_at; (· exact rfl))
            | (apply dwp_cond_t; (· exact rfl); (· (first | with_reducible assumption | with_reducible rfl | decide)))
            | (apply dwp_cond_f; (· exact rfl); (· (first | with_reducible assumption | with_reducible rfl | decide)))
            | apply dwp_block
            | apply dwp_ret
            | (refine ⟨_, rfl, ?_⟩)
            | fail)
          exact hK _ (hB.sub (by (repeat (first | exact List.Sublist.refl _ | exact List.nil_sublist _ | apply List.Sublist.cons_cons | apply List.Sublist.cons | apply List.Sublist.append_left | refine List.Sublist.trans ?_ (List.sublist_append_right _ _)))))
        | false =>
          cases hb3 : (s == [123]) with
          | true =>
            have hb' : s = [123] := by simpa using hb3
            rw [if_neg (fun h => by cases h.1), if_pos ⟨rfl, hp, .inr (.inl hb')⟩] at hK
            refine enter rfl Tryd.func27 rfl Tryd.ntmps27 rfl ?_
            dsimp only [List.cons_append, List.nil_append, List.length_cons, List.length_nil, List.replicate_succ, List.replicate_zero, Nat.reduceAdd, Nat.reduceSub]
            repeat' (first
              | dsimp only [putD, DV.cells, DH.new_next, DH.set_next, List.length_cons, List.length_nil, Nat.reduceAdd, List.set_cons_zero, List.set_cons_succ, getD_zero, getD_succ, fieldAt_zero, fieldAt_succ, thenD, blockD, retR]
              | apply dwp_seq
              | apply dwp_region
              | apply ops_nil
              | (apply ops_plain; (· exact rfl))
              | (apply ops_on; (· exact rfl); (· exact rfl); (· (first | with_reducible assumption | with_reducible rfl | decide)))
              | (apply ops_off1; (· exact rfl); (· exact rfl); (· (first | with_reducible assumption | with_reducible rfl | decide)))
              | (apply ops_off0; (· exact rfl); (· exact rfl); (· (first | with_reducible assumption | with_reducible rfl | decide)))
              | (apply op_pick_t; (· exact rfl); (· exact rfl); (· (first | with_reducible assumption | with_reducible rfl | decide)); (· exact rfl))
              | (apply op_pick_f; (· exact rfl); (· exact rfl); (· (first | with_reducible assumption | with_reducible rfl | decide)); (· exact rfl))
              | (apply op_at; (· exact opD_eql rfl rfl rfl heq))
              | (apply bx_load0; (· exact rfl); (· exact rfl); (· assumption); (· (repeat (first | with_reducible exact At.here | with_reducible apply At.there | with_reducible apply at_app))); (· (first | exact part57 _ _ _ _ | exact rfl)))
              | (apply bx_box; (· exact rfl); (· exact rfl); (· (first | (dsimp only [putD, DV.cells, DH.new_next, DH.set_next, List.length_cons, List.length_nil, Nat.reduceAdd, List.set_cons_zero, List.set_cons_succ, getD_zero, getD_succ, fieldAt_zero, fieldAt_succ, thenD, blockD, retR, Sv.cells]; done) | (dsimp only [putD, DV.cells, DH.new_next, DH.set_next, List.length_cons, List.length_nil, Nat.reduceAdd, List.set_cons_zero, List.set_cons_succ, getD_zero, getD_succ, fieldAt_zero, fieldAt_succ, thenD, blockD, retR, Sv.cells]; exact rfl) | exact rfl)); (· exact rfl); (· exact rfl); (· assumption); intro b1 H1 hB)
              | (apply op_at; (· exact rfl))
              | (apply dwp_cond_t; (· exact rfl); (· (first | with_reducible assumption | with_reducible rfl | decide)))
              | (apply dwp_cond_f; (· exact rfl); (· (first | with_reducible assumption | with_reducible rfl | decide)))
              | apply dwp_block
              | apply dwp_ret
              | (refine ⟨_, rfl, ?_⟩)
              | fail)
            exact hK _ (hB.sub (by (repeat (first | exact List.Sublist.refl _ | exact List.nil_sublist _ | apply List.Sublist.cons_cons | apply List.Sublist.cons | apply List.Sublist.append_left | refine List.Sublist.trans ?_ (List.sublist_append_right _ _)))))
          | false =>
            cases hc3 : (s == [125]) with
            | true =>
              have hc' : s = [125] := by simpa using hc3
              rw [if_neg (fun h => by cases h.1), if_pos ⟨rfl, hp, .inr (.inr hc')⟩] at hK
              refine enter rfl Tryd.func27 rfl Tryd.ntmps27 rfl ?_
              dsimp only [List.cons_append, List.nil_append, List.length_cons, List.length_nil, List.replicate_succ, List.replicate_zero, Nat.reduceAdd, Nat.reduceSub]
              repeat' (first
                | dsimp only [putD, DV.cells, DH.new_next, DH.set_next, List.length_cons, List.length_nil, Nat.reduceAdd, List.set_cons_zero, List.set_cons_succ, getD_zero, getD_succ, fieldAt_zero, fieldAt_succ, thenD, blockD, retR]
                | apply dwp_seq
                | apply dwp_region
                | apply ops_nil
                | (apply ops_plain; (· exact rfl))
                | (apply ops_on; (· exact rfl); (· exact rfl); (· (first | with_reducible assumption | with_reducible rfl | decide)))
                | (apply ops_off1; (· exact rfl); (· exact rfl); (· (first | with_reducible assumption | with_reducible rfl | decide)))
                | (apply op_pick_t; (· exact rfl); (· exact rfl); (· (first | with_reducible assumption | with_reducible rfl | decide)); (· exact rfl))
                | (apply op_pick_f; (· exact rfl); (· exact rfl); (· (first | with_reducible assumption | with_reducible rfl | decide)); (· exact rfl))
                | (apply op_at; (· exact opD_eql rfl rfl rfl heq))
                | (apply bx_load0; (· exact rfl); (· exact rfl); (· assumption); (· (repeat (first | with_reducible exact At.here | with_reducible apply At.there | with_reducible apply at_app))); (· (first | exact part57 _ _ _ _ | exact rfl)))
                | (apply bx_box; (· exact rfl); (· exact rfl); (· (first | (dsimp only [putD, DV.cells, DH.new_next, DH.set_next, List.length_cons, List.length_nil, Nat.reduceAdd, List.set_cons_zero, List.set_cons_succ, getD_zero, getD_succ, fieldAt_zero, fieldAt_succ, thenD, blockD, retR, Sv.cells]; done) | (dsimp only [putD, DV.cells, DH.new_next, DH.set_next, List.length_cons, List.length_nil, Nat.reduceAdd, List.set_cons_zero, List.set_cons_succ, getD_zero, getD_succ, fieldAt_zero, fieldAt_succ, thenD, blockD, retR, Sv.cells]; exact rfl) | exact rfl)); (· exact rfl); (· exact rfl); (· assumption); intro b1 H1 hB)
                | (apply op_at; (· exact rfl))
                | (apply dwp_cond_t; (· exact rfl); (· (first | with_reducible assumption | with_reducible rfl | decide)))
                | (apply dwp_cond_f; (· exact rfl); (· (first | with_reducible assumption | with_reducible rfl | decide)))
                | apply dwp_block
                | apply dwp_ret
                | (refine ⟨_, rfl, ?_⟩)
                | fail)
              exact hK _ (hB.sub (by (repeat (first | exact List.Sublist.refl _ | exact List.nil_sublist _ | apply List.Sublist.cons_cons | apply List.Sublist.cons | apply List.Sublist.append_left | refine List.Sublist.trans ?_ (List.sublist_append_right _ _)))))
            | false =>
              have hno : ¬ (s = [59] ∨ s = [123] ∨ s = [125]) := by
                rintro (h | h | h) <;> subst h <;> simp at ha hb3 hc3
              rw [if_neg (fun h => by cases h.1), if_neg (fun h => by exact hno h.2.2), if_pos (.inl (by decide))] at hK
              refine enter rfl Tryd.func27 rfl Tryd.ntmps27 rfl ?_
              dsimp only [List.cons_append, List.nil_append, List.length_cons, List.length_nil, List.replicate_succ, List.replicate_zero, Nat.reduceAdd, Nat.reduceSub]
              repeat' (first
                | dsimp only [putD, DV.cells, DH.new_next, DH.set_next, List.length_cons, List.length_nil, Nat.reduceAdd, List.set_cons_zero, List.set_cons_succ, getD_zero, getD_succ, fieldAt_zero, fieldAt_succ, thenD, blockD, retR]
                | apply dwp_seq
                | apply dwp_region
                | apply ops_nil
                | (apply ops_plain; (· exact rfl))
                | (apply ops_on; (· exact rfl); (· exact rfl); (· (first | with_reducible assumption | with_reducible rfl | decide)))
                | (apply ops_off1; (· exact rfl); (· exact rfl); (· (first | with_reducible assumption | with_reducible rfl | decide)))
                | (apply ops_off0; (· exact rfl); (· exact rfl); (· (first | with_reducible assumption | with_reducible rfl | decide)))
                | (apply op_pick_t; (· exact rfl); (· exact rfl); (· (first | with_reducible assumption | with_reducible rfl | decide)); (· exact rfl))
                | (apply op_pick_f; (· exact rfl); (· exact rfl); (· (first | with_reducible assumption | with_reducible rfl | decide)); (· exact rfl))
                | (apply op_at; (· exact opD_eql rfl rfl rfl heq))
                | (apply bx_load0; (· exact rfl); (· exact rfl); (· assumption); (· (repeat (first | with_reducible exact At.here | with_reducible apply At.there | with_reducible apply at_app))); (· (first | exact part57 _ _ _ _ | exact rfl)))
                | (apply bx_box; (· exact rfl); (· exact rfl); (· (first | (dsimp only [putD, DV.cells, DH.new_next, DH.set_next, List.length_cons, List.length_nil, Nat.reduceAdd, List.set_cons_zero, List.set_cons_succ, getD_zero, getD_succ, fieldAt_zero, fieldAt_succ, thenD, blockD, retR, Sv.cells]; done) | (dsimp only [putD, DV.cells, DH.new_next, DH.set_next, List.length_cons, List.length_nil, Nat.reduceAdd, List.set_cons_zero, List.set_cons_succ, getD_zero, getD_succ, fieldAt_zero, fieldAt_succ, thenD, blockD, retR, Sv.cells]; exact rfl) | exact rfl)); (· exact rfl); (· exact rfl); (· assumption); intro b1 H1 hB)
                | (apply op_at; (· exact rfl))
                | (apply dwp_cond_t; (· exact rfl); (· (first | with_reducible assumption | with_reducible rfl | decide)))
                | (apply dwp_cond_f; (· exact rfl); (· (first | with_reducible assumption | with_reducible rfl | decide)))
                | apply dwp_block
                | apply dwp_ret
                | (refine ⟨_, rfl, ?_⟩)
                | fail)
              exact hK _ (hB.sub (by (repeat (first | exact List.Sublist.refl _ | exact List.nil_sublist _ | apply List.Sublist.cons_cons | apply List.Sublist.cons | apply List.Sublist.append_left | refine List.Sublist.trans ?_ (List.sublist_append_right _ _)))))
      | false =>
        rw [if_neg (fun h => by cases h.1), if_neg (fun h => by have := hpl'.mp h.2.1; cases this), if_pos (.inl (by decide))] at hK
        refine enter rfl Tryd.func27 rfl Tryd.ntmps27 rfl ?_
        dsimp only [List.cons_append, List.nil_append, List.length_cons, List.length_nil, List.replicate_succ, List.replicate_zero, Nat.reduceAdd, Nat.reduceSub]
        repeat' (first
          | dsimp only [putD, DV.cells, DH.new_next, DH.set_next, List.length_cons, List.length_nil, Nat.reduceAdd, List.set_cons_zero, List.set_cons_succ, getD_zero, getD_succ, fieldAt_zero, fieldAt_succ, thenD, blockD, retR]
          | apply dwp_seq
          | apply dwp_region
          | apply ops_nil
          | (apply ops_plain; (· exact rfl))
          | (apply ops_on; (· exact rfl); (· exact rfl); (· (first | with_reducible assumption | with_reducible rfl | decide)))
          | (apply ops_off1; (· exact rfl); (· exact rfl); (· (first | with_reducible assumption | with_reducible rfl | decide)))
          | (apply ops_off0; (· exact rfl); (· exact rfl); (· (first | with_reducible assumption | with_reducible rfl | decide)))
          | (apply ops_offn; (· exact rfl); (· exact rfl))
          | (apply op_pick_t; (· exact rfl); (· exact rfl); (· (first | with_reducible assumption | with_reducible rfl | decide)); (· exact rfl))
          | (apply op_pick_f; (· exact rfl); (· exact rfl); (· (first | with_reducible assumption | with_reducible rfl | decide)); (· exact rfl))
          | (apply op_at; (· exact opD_eql rfl rfl rfl heq))
          | (apply bx_load0; (· exact rfl); (· exact rfl); (· assumption); (· (repeat (first | with_reducible exact At.here | with_reducible apply At.there | with_reducible apply at_app))); (· (first | exact part57 _ _ _ _ | exact rfl)))
          | (apply bx_box; (· exact rfl); (· exact rfl); (· (first | (dsimp only [putD, DV.cells, DH.new_next, DH.set_next, List.length_cons, List.length_nil, Nat.reduceAdd, List.set_cons_zero, List.set_cons_succ, getD_zero, getD_succ, fieldAt_zero, fieldAt_succ, thenD, blockD, retR, Sv.cells]; done) | (dsimp only [putD, DV.cells, DH.new_next, DH.set_next, List.length_cons, List.length_nil, Nat.reduceAdd, List.set_cons_zero, List.set_cons_succ, getD_zero, getD_succ, fieldAt_zero, fieldAt_succ, thenD, blockD, retR, Sv.cells]; exact rfl) | exact rfl)); (· exact rfl); (· exact rfl); (· assumption); intro b1 H1 hB)
          | (apply op_at; (· exact rfl))
          | (apply dwp_cond_t; (· exact rfl); (· (first | with_reducible assumption | with_reducible rfl | decide)))
          | (apply dwp_cond_f; (· exact rfl); (· (first | with_reducible assumption | with_reducible rfl | decide)))
          | apply dwp_block
          | apply dwp_ret
          | (refine ⟨_, rfl, ?_⟩)
          | fail)
        exact hK _ (hB.sub (by (repeat (first | exact List.Sublist.refl _ | exact List.nil_sublist _ | apply List.Sublist.cons_cons | apply List.Sublist.cons | apply List.Sublist.append_left | refine List.Sublist.trans ?_ (List.sublist_append_right _ _)))))
    | false =>
      have hk3' : k ≠ 3 := by simpa using hk3
      cases hk2 : (k != 2) with
      | true =>
        have hk2' : k ≠ 2 := by simpa using hk2
        rw [if_neg (fun h => by exact hk1' h.1), if_neg (fun h => by exact hk3' h.1), if_pos (.inl hk2')] at hK
        refine enter rfl Tryd.func27 rfl Tryd.ntmps27 rfl ?_
        dsimp only [List.cons_append, List.nil_append, List.length_cons, List.length_nil, List.replicate_succ, List.replicate_zero, Nat.reduceAdd, Nat.reduceSub]
        repeat' (first
          | dsimp only [putD, DV.cells, DH.new_next, DH.set_next, List.length_cons, List.length_nil, Nat.reduceAdd, List.set_cons_zero, List.set_cons_succ, getD_zero, getD_succ, fieldAt_zero, fieldAt_succ, thenD, blockD, retR]
          | apply dwp_seq
          | apply dwp_region
          | apply ops_nil
          | (apply ops_plain; (· exact rfl))
          | (apply ops_off1; (· exact rfl); (· exact rfl); (· (first | with_reducible assumption | with_reducible rfl | decide)))
          | (apply ops_off0; (· exact rfl); (· exact rfl); (· (first | with_reducible assumption | with_reducible rfl | decide)))
          | (apply ops_offn; (· exact rfl); (· exact rfl))
          | (apply op_pick_t; (· exact rfl); (· exact rfl); (· (first | with_reducible assumption | with_reducible rfl | decide)); (· exact rfl))
          | (apply op_pick_f; (· exact rfl); (· exact rfl); (· (first | with_reducible assumption | with_reducible rfl | decide)); (· exact rfl))
          | (apply op_at; (· exact opD_eql rfl rfl rfl heq))
          | (apply bx_load0; (· exact rfl); (· exact rfl); (· assumption); (· (repeat (first | with_reducible exact At.here | with_reducible apply At.there | with_reducible apply at_app))); (· (first | exact part57 _ _ _ _ | exact rfl)))
          | (apply bx_box; (· exact rfl); (· exact rfl); (· (first | (dsimp only [putD, DV.cells, DH.new_next, DH.set_next, List.length_cons, List.length_nil, Nat.reduceAdd, List.set_cons_zero, List.set_cons_succ, getD_zero, getD_succ, fieldAt_zero, fieldAt_succ, thenD, blockD, retR, Sv.cells]; done) | (dsimp only [putD, DV.cells, DH.new_next, DH.set_next, List.length_cons, List.length_nil, Nat.reduceAdd, List.set_cons_zero, List.set_cons_succ, getD_zero, getD_succ, fieldAt_zero, fieldAt_succ, thenD, blockD, retR, Sv.cells]; exact rfl) | exact rfl)); (· exact rfl); (· exact rfl); (· assumption); intro b1 H1 hB)
          | (apply op_at; (· exact rfl))
          | (apply dwp_cond_t; (· exact rfl); (· (first | with_reducible assumption | with_reducible rfl | decide)))
          | (apply dwp_cond_f; (· exact rfl); (· (first | with_reducible assumption | with_reducible rfl | decide)))
          | apply dwp_block
          | apply dwp_ret
          | (refine ⟨_, rfl, ?_⟩)
          | fail)
        exact hK _ (hB.sub (by (repeat (first | exact List.Sublist.refl _ | exact List.nil_sublist _ | apply List.Sublist.cons_cons | apply List.Sublist.cons | apply List.Sublist.append_left | refine List.Sublist.trans ?_ (List.sublist_append_right _ _)))))
      | false =>
        obtain rfl : k = 2 := by simpa using hk2
        cases hn1 : decide (n ≤ -1000000000000000000) with
        | true =>
          rw [if_neg (fun h => by exact hk1' h.1), if_neg (fun h => by exact hk3' h.1), if_pos (.inr (.inl (by simpa using hn1)))] at hK
          refine enter rfl Tryd.func27 rfl Tryd.ntmps27 rfl ?_
          dsimp only [List.cons_append, List.nil_append, List.length_cons, List.length_nil, List.replicate_succ, List.replicate_zero, Nat.reduceAdd, Nat.reduceSub]
          repeat' (first
            | dsimp only [putD, DV.cells, DH.new_next, DH.set_next, List.length_cons, List.length_nil, Nat.reduceAdd, List.set_cons_zero, List.set_cons_succ, getD_zero, getD_succ, fieldAt_zero, fieldAt_succ, thenD, blockD, retR]
            | apply dwp_seq
            | apply dwp_region
            | apply ops_nil
            | (apply ops_plain; (· exact rfl))
            | (apply ops_on; (· exact rfl); (· exact rfl); (· (first | with_reducible assumption | with_reducible rfl | decide)))
            | (apply ops_off1; (· exact rfl); (· exact rfl); (· (first | with_reducible assumption | with_reducible rfl | decide)))
            | (apply ops_off0; (· exact rfl); (· exact rfl); (· (first | with_reducible assumption | with_reducible rfl | decide)))
            | (apply ops_offn; (· exact rfl); (· exact rfl))
            | (apply op_pick_t; (· exact rfl); (· exact rfl); (· (first | with_reducible assumption | with_reducible rfl | decide)); (· exact rfl))
            | (apply op_pick_f; (· exact rfl); (· exact rfl); (· (first | with_reducible assumption | with_reducible rfl | decide)); (· exact rfl))
            | (apply op_at; (· exact opD_eql rfl rfl rfl heq))
            | (apply bx_load0; (· exact rfl); (· exact rfl); (· assumption); (· (repeat (first | with_reducible exact At.here | with_reducible apply At.there | with_reducible apply at_app))); (· (first | exact part57 _ _ _ _ | exact rfl)))
            | (apply bx_box; (· exact rfl); (· exact rfl); (· (first | (dsimp only [putD, DV.cells, DH.new_next, DH.set_next, List.length_cons, List.length_nil, Nat.reduceAdd, List.set_cons_zero, List.set_cons_succ, getD_zero, getD_succ, fieldAt_zero, fieldAt_succ, thenD, blockD, retR, Sv.cells]; done) | (dsimp only [putD, DV.cells, DH.new_next, DH.set_next, List.length_cons, List.length_nil, Nat.reduceAdd, List.set_cons_zero, List.set_cons_succ, getD_zero, getD_succ, fieldAt_zero, fieldAt_succ, thenD, blockD, retR, Sv.cells]; exact rfl) | exact rfl)); (· exact rfl); (· exact rfl); (· assumption); intro b1 H1 hB)
            | (apply op_at; (· exact rfl))
            | (apply dwp_cond_t; (· exact rfl); (· (first | with_reducible assumption | with_reducible rfl | decide)))
            | (apply dwp_cond_f; (· exact rfl); (· (first | with_reducible assumption | with_reducible rfl | decide)))
            | apply dwp_block
            | apply dwp_ret
            | (refine ⟨_, rfl, ?_⟩)
            | fail)
          exact hK _ (hB.sub (by (repeat (first | exact List.Sublist.refl _ | exact List.nil_sublist _ | apply List.Sublist.cons_cons | apply List.Sublist.cons | apply List.Sublist.append_left | refine List.Sublist.trans ?_ (List.sublist_append_right _ _)))))
        | false =>
          cases hn2 : decide (n ≥ 1000000000000000000) with
          | true =>
            rw [if_neg (fun h => by exact hk1' h.1), if_neg (fun h => by exact hk3' h.1), if_pos (.inr (.inr (by simpa using hn2)))] at hK
            refine enter rfl Tryd.func27 rfl Tryd.ntmps27 rfl ?_
            dsimp only [List.cons_append, List.nil_append, List.length_cons, List.length_nil, List.replicate_succ, List.replicate_zero, Nat.reduceAdd, Nat.reduceSub]
            repeat' (first
              | dsimp only [putD, DV.cells, DH.new_next, DH.set_next, List.length_cons, List.length_nil, Nat.reduceAdd, List.set_cons_zero, List.set_cons_succ, getD_zero, getD_succ, fieldAt_zero, fieldAt_succ, thenD, blockD, retR]
              | apply dwp_seq
              | apply dwp_region
              | apply ops_nil
              | (apply ops_plain; (· exact rfl))
              | (apply ops_on; (· exact rfl); (· exact rfl); (· (first | with_reducible assumption | with_reducible rfl | decide)))
              | (apply ops_off1; (· exact rfl); (· exact rfl); (· (first | with_reducible assumption | with_reducible rfl | decide)))
              | (apply ops_offn; (· exact rfl); (· exact rfl))
              | (apply op_pick_f; (· exact rfl); (· exact rfl); (· (first | with_reducible assumption | with_reducible rfl | decide)); (· exact rfl))
              | (apply op_at; (· exact opD_eql rfl rfl rfl heq))
              | (apply bx_load0; (· exact rfl); (· exact rfl); (· assumption); (· (repeat (first | with_reducible exact At.here | with_reducible apply At.there | with_reducible apply at_app))); (· (first | exact part57 _ _ _ _ | exact rfl)))
              | (apply bx_box; (· exact rfl); (· exact rfl); (· (first | (dsimp only [putD, DV.cells, DH.new_next, DH.set_next, List.length_cons, List.length_nil, Nat.reduceAdd, List.set_cons_zero, List.set_cons_succ, getD_zero, getD_succ, fieldAt_zero, fieldAt_succ, thenD, blockD, retR, Sv.cells]; done) | (dsimp only [putD, DV.cells, DH.new_next, DH.set_next, List.length_cons, List.length_nil, Nat.reduceAdd, List.set_cons_zero, List.set_cons_succ, getD_zero, getD_succ, fieldAt_zero, fieldAt_succ, thenD, blockD, retR, Sv.cells]; exact rfl) | exact rfl)); (· exact rfl); (· exact rfl); (· assumption); intro b1 H1 hB)
              | (apply op_at; (· exact rfl))
              | (apply dwp_cond_t; (· exact rfl); (· (first | with_reducible assumption | with_reducible rfl | decide)))
              | (apply dwp_cond_f; (· exact rfl); (· (first | with_reducible assumption | with_reducible rfl | decide)))
              | apply dwp_block
              | apply dwp_ret
              | (refine ⟨_, rfl, ?_⟩)
              | fail)
            exact hK _ (hB.sub (by (repeat (first | exact List.Sublist.refl _ | exact List.nil_sublist _ | apply List.Sublist.cons_cons | apply List.Sublist.cons | apply List.Sublist.append_left | refine List.Sublist.trans ?_ (List.sublist_append_right _ _)))))
          | false =>
            have hn : -1000000000000000000 < n ∧ n < 1000000000000000000 := by simp at hn1 hn2; omega
            rw [if_neg (fun h => hk1' h.1), if_neg (fun h => hk3' h.1), if_neg (by omega)] at hK
            cases tm with
            | true =>
              rw [if_pos rfl] at hK
              refine enter rfl Tryd.func27 rfl Tryd.ntmps27 rfl ?_
              dsimp only [List.cons_append, List.nil_append, List.length_cons, List.length_nil, List.replicate_succ, List.replicate_zero, Nat.reduceAdd, Nat.reduceSub]
              repeat' (first
                | dsimp only [putD, DV.cells, DH.new_next, DH.set_next, List.length_cons, List.length_nil, Nat.reduceAdd, List.set_cons_zero, List.set_cons_succ, getD_zero, getD_succ, fieldAt_zero, fieldAt_succ, thenD, blockD, retR]
                | apply dwp_seq
                | apply dwp_region
                | apply ops_nil
                | (apply ops_plain; (· exact rfl))
                | (apply ops_on; (· exact rfl); (· exact rfl); (· (first | with_reducible assumption | with_reducible rfl | decide)))
                | (apply ops_off1; (· exact rfl); (· exact rfl); (· (first | with_reducible assumption | with_reducible rfl | decide)))
                | (apply ops_offn; (· exact rfl); (· exact rfl))
                | (apply op_call; (· exact rfl); (· exact rfl); (· exact rfl); (apply ptext39 (t := n); (· exact hn); (· assumption); intro H1 hB))
                | (apply op_pick_f; (· exact rfl); (· exact rfl); (· (first | with_reducible assumption | with_reducible rfl | decide)); (· exact rfl))
                | (apply op_at; (· exact opD_eql rfl rfl rfl heq))
                | (apply bx_load0; (· exact rfl); (· exact rfl); (· assumption); (· (repeat (first | with_reducible exact At.here | with_reducible apply At.there | with_reducible apply at_app))); (· (first | exact part57 _ _ _ _ | exact rfl)))
                | (apply bx_box; (· exact rfl); (· exact rfl); (· (first | (dsimp only [putD, DV.cells, DH.new_next, DH.set_next, List.length_cons, List.length_nil, Nat.reduceAdd, List.set_cons_zero, List.set_cons_succ, getD_zero, getD_succ, fieldAt_zero, fieldAt_succ, thenD, blockD, retR, Sv.cells]; done) | (dsimp only [putD, DV.cells, DH.new_next, DH.set_next, List.length_cons, List.length_nil, Nat.reduceAdd, List.set_cons_zero, List.set_cons_succ, getD_zero, getD_succ, fieldAt_zero, fieldAt_succ, thenD, blockD, retR, Sv.cells]; exact rfl) | exact rfl)); (· exact rfl); (· exact rfl); (· assumption); intro b1 H1 hB)
                | (apply op_at; (· exact rfl))
                | (apply dwp_cond_t; (· exact rfl); (· (first | with_reducible assumption | with_reducible rfl | decide)))
                | (apply dwp_cond_f; (· exact rfl); (· (first | with_reducible assumption | with_reducible rfl | decide)))
                | apply dwp_block
                | apply dwp_ret
                | (refine ⟨_, rfl, ?_⟩)
                | fail)
              exact hK _ (hB.sub (by (repeat (first | exact List.Sublist.refl _ | exact List.nil_sublist _ | apply List.Sublist.cons_cons | apply List.Sublist.cons | apply List.Sublist.append_left | refine List.Sublist.trans ?_ (List.sublist_append_right _ _)))))
            | false =>
              rw [if_neg (by simp)] at hK
              refine enter rfl Tryd.func27 rfl Tryd.ntmps27 rfl ?_
              dsimp only [List.cons_append, List.nil_append, List.length_cons, List.length_nil, List.replicate_succ, List.replicate_zero, Nat.reduceAdd, Nat.reduceSub]
              repeat' (first
                | dsimp only [putD, DV.cells, DH.new_next, DH.set_next, List.length_cons, List.length_nil, Nat.reduceAdd, List.set_cons_zero, List.set_cons_succ, getD_zero, getD_succ, fieldAt_zero, fieldAt_succ, thenD, blockD, retR]
                | apply dwp_seq
                | apply dwp_region
                | apply ops_nil
                | (apply ops_plain; (· exact rfl))
                | (apply ops_on; (· exact rfl); (· exact rfl); (· (first | with_reducible assumption | with_reducible rfl | decide)))
                | (apply ops_off1; (· exact rfl); (· exact rfl); (· (first | with_reducible assumption | with_reducible rfl | decide)))
                | (apply ops_offn; (· exact rfl); (· exact rfl))
                | (apply op_call; (· exact rfl); (· exact rfl); (· exact rfl); (apply dec59 (n := n); (· exact hn); (· assumption); intro H1 hB))
                | (apply op_pick_f; (· exact rfl); (· exact rfl); (· (first | with_reducible assumption | with_reducible rfl | decide)); (· exact rfl))
                | (apply op_at; (· exact opD_eql rfl rfl rfl heq))
                | (apply bx_load0; (· exact rfl); (· exact rfl); (· assumption); (· (repeat (first | with_reducible exact At.here | with_reducible apply At.there | with_reducible apply at_app))); (· (first | exact part57 _ _ _ _ | exact rfl)))
                | (apply bx_box; (· exact rfl); (· exact rfl); (· (first | (dsimp only [putD, DV.cells, DH.new_next, DH.set_next, List.length_cons, List.length_nil, Nat.reduceAdd, List.set_cons_zero, List.set_cons_succ, getD_zero, getD_succ, fieldAt_zero, fieldAt_succ, thenD, blockD, retR, Sv.cells]; done) | (dsimp only [putD, DV.cells, DH.new_next, DH.set_next, List.length_cons, List.length_nil, Nat.reduceAdd, List.set_cons_zero, List.set_cons_succ, getD_zero, getD_succ, fieldAt_zero, fieldAt_succ, thenD, blockD, retR, Sv.cells]; exact rfl) | exact rfl)); (· exact rfl); (· exact rfl); (· assumption); intro b1 H1 hB)
                | (apply op_at; (· exact rfl))
                | (apply dwp_cond_f; (· exact rfl); (· (first | with_reducible assumption | with_reducible rfl | decide)))
                | apply dwp_block
                | apply dwp_skip
                | apply dwp_ret
                | (refine ⟨_, rfl, ?_⟩)
                | fail)
              exact hK _ (hB.sub (by (repeat (first | exact List.Sublist.refl _ | exact List.nil_sublist _ | apply List.Sublist.cons_cons | apply List.Sublist.cons | apply List.Sublist.append_left | refine List.Sublist.trans ?_ (List.sublist_append_right _ _)))))
theorem textF_err (t : Tok) : (textF t).2 = 0 ∨ (textF t).2 = 1 := by
  unfold textF
  (repeat' split) <;> simp
theorem textF_len {t : Tok} (h : (textF t).2 = 0) : (textF t).1.length ≤ 100 := by
  unfold textF at h ⊢
  split
  · rename_i h1; have := (wordF_facts h1.2.2).2.2.2; simp only; omega
  · rename_i h1
    rw [if_neg h1] at h
    split
    · rename_i h2; rcases h2.2.2 with e | e | e <;> simp [e]
    · rename_i h2
      rw [if_neg h2] at h
      split
      · rename_i h3; rw [if_pos h3] at h; cases h
      · rename_i h3
        split
        · simp only
          unfold ptextF sgnF
          have h4 : t.n.natAbs / (pickU t.n.natAbs).1 ≤ t.n.natAbs := Nat.div_le_self _ _
          have h5 := decN_len 17 (t.n.natAbs / (pickU t.n.natAbs).1) (by omega)
          obtain ⟨ps, hu, _⟩ := pickU_facts t.n.natAbs
          have h6 := (unitF_head hu).2.2.2
          rw [List.length_append, List.length_append]
          split
          · simp; omega
          · simp; omega
        · simp only
          unfold decF
          have h5 := decN_len 17 t.n.natAbs (by omega)
          split
          · simp; omega
          · omega
theorem joinF_len : ∀ (l : List (List UInt8)), (∀ x ∈ l, x.length ≤ 100) → (joinF l [32]).length ≤ 101 * l.length := by
  intro l
  induction l with
  | nil => intro _; exact Nat.zero_le _
  | cons x l ih =>
    intro h
    have hx := h x List.mem_cons_self
    have hl := ih (fun y hy => h y (List.mem_cons_of_mem _ hy))
    cases l with
    | nil => rw [joinF_one, List.length_cons, List.length_nil]; omega
    | cons y r =>
      rw [joinF_cons, List.length_append, List.length_cons (a := (32 : UInt8)), List.length_cons (a := x)]
      omega
/-- What several tokens' text is. -/
def joinR (l : List Tok) : List UInt8 × Int := if (l.all fun t => decide ((textF t).2 = 0)) = true then (joinF (l.map fun t => (textF t).1) [32], 0) else ([], 1)
theorem et96 : ElemT Tryd.prog 96 9 1 16 (.str []) := ⟨rfl, rfl, rfl, by kernel_rfl, by decide, by decide, rfl, rfl⟩
theorem bx_make {P : Program} {X : Ext} {o : Oper} {env : List DV} {st e : TypeId} {z by_ : Nat} {z0 : DV} {x y : Operand} {n : Nat} {j k : IntKind} (E : ElemT P st e z by_ z0) (ho : o.op = .makeSlice st x y) (hx : evalO env x = some (.int j (n : Int))) (hy : evalO env y = some (.int k (n : Int))) (hn : n ≤ mostD) (hB : Bx A H bs fs)
    (hk : ∀ b H', Bx A H' ((b, .rows false z (List.replicate n z0.cells)) :: bs) fs → K (.sl (some (b, 0, z)) n n true) H') : OpWp P X o env H K :=
  op_make E ho hx hy (Nat.le_refl _) hn (hk _ _ (hB.box _))
theorem few23t {s : List UInt8} {l : List Tok} {p : Option (Nat × Nat × Nat)} {c : Nat} {ex : Bool} (hll : l.length ≤ 9223372036854775807) (hsl : ∀ H', Bx A H' bs fs → Sl H' 4 (l.map Tok.row) p) (hB : Bx A H bs fs)
    (hK : ∀ H', Bx A H' bs fs → K (.bool ((l.all fun t => decide (t.s.length ≤ 200)) && (few s.length && decide (l.length ≤ 300)))) H') : CallWp Tryd.prog X3 23 [.str s, .sl p l.length c ex] H K := by
  refine enter rfl Tryd.func23 rfl Tryd.ntmps23 rfl ?_
  dsimp only [List.cons_append, List.nil_append, List.length_cons, List.length_nil, List.replicate_succ, List.replicate_zero, Nat.reduceAdd, Nat.reduceSub]
  repeat' (first
    | dsimp only [putD, DV.cells, DH.new_next, DH.set_next, List.length_cons, List.length_nil, Nat.reduceAdd, List.set_cons_zero, List.set_cons_succ, getD_zero, getD_succ, fieldAt_zero, fieldAt_succ, thenD, blockD, retR]
    | apply dwp_seq
    | apply dwp_region
    | apply ops_nil
    | (apply ops_plain; (· exact rfl))
    | (apply op_at; (· exact rfl))
    | apply dwp_block
    | fail)
  refine dwp_loop (fun st => ∃ (H1 : DH) (k : Nat), ∃ J : Nat → DV, (Bx A H1 bs fs ∧ k ≤ l.length ∧ ∀ i t, i < k → l[i]? = some t → t.s.length ≤ 200) ∧ st = ⟨(.str s :: .sl p l.length c ex :: J 2 :: J 3 :: .bool false :: J 5 :: J 6 :: .sl p l.length c ex :: .int .i64 (l.length : Int) :: .int .i64 (k : Int) :: J 10 :: J 11 :: J 12 :: J 13 :: J 14 :: J 15 :: J 16 :: J 17 :: J 18 :: J 19 :: J 20 :: J 21 :: J 22 :: J 23 :: J 24 :: J 25 :: J 26 :: J 27 :: J 28 :: J 29 :: J 30 :: J 31 :: J 32 :: J 33 :: J 34 :: J 35 :: []), H1⟩) (fun st => l.length - kOf st 9) (⟨_, 0, junk_facts (⟨hB, Nat.zero_le _, fun i t h => absurd h (by omega)⟩) rfl rfl⟩) ?_
  rintro st ⟨H1, k, J, ⟨hB, hk, hbef⟩, rfl⟩
  by_cases hlt : k < l.length
  · obtain ⟨x, hx⟩ : ∃ x, l[k]? = some x := ⟨l[k], List.getElem?_eq_getElem hlt⟩
    obtain ⟨loc, i0, ro, rs, rfl, hloc, ho, hrx⟩ := (hsl _ hB).rd (k := k) (r := x.row) (by rw [List.getElem?_map, hx]; rfl)
    have hr1 : rs[i0 + ((k : Int)).toNat]? = some x.row := by rw [Int.toNat_natCast]; exact hrx
    have hc : decide ((k : Int) < (l.length : Int)) = true := by simp [hlt]
    have hin1 : 0 ≤ (k : Int) ∧ (k : Int) < (l.length : Int) := by omega
    have hw : IntKind.i64.wrap ((k : Int) + 1) = ((k + 1 : Nat) : Int) := by rw [wrapI (by omega)]; rfl
    cases hbig : decide ((x.s.length : Int) > 200) with
    | true =>
      have hf : (l.all fun t => decide (t.s.length ≤ 200)) = false := by
        rw [List.all_eq_false]
        exact ⟨x, List.mem_of_getElem? hx, by simp at hbig ⊢; omega⟩
      rw [hf, Bool.false_and] at hK
      repeat' (first
        | dsimp only [putD, DV.cells, DH.new_next, DH.set_next, List.length_cons, List.length_nil, Nat.reduceAdd, List.set_cons_zero, List.set_cons_succ, getD_zero, getD_succ, fieldAt_zero, fieldAt_succ, thenD, blockD, retR]
        | apply dwp_seq
        | apply dwp_region
        | apply ops_nil
        | (apply ops_plain; (· exact rfl))
        | (apply op_index_at; (· exact rfl); (· exact rfl); (· exact rfl); (· with_reducible exact hin1); (· exact rfl); (· exact rfl))
        | (apply op_load_at; (· exact rfl); (· exact rfl); (· exact ho); (· exact hr1); (· exact partTok x))
        | (apply bx_load0; (· exact rfl); (· exact rfl); (· assumption); (· (repeat (first | with_reducible exact At.here | with_reducible apply At.there | with_reducible apply at_app))); (· (first | exact part57 _ _ _ _ | exact rfl)))
        | (apply bx_store0; (· exact rfl); (· exact rfl); (· exact rfl); (· assumption); (· (first | (dsimp only [putD, DV.cells, DH.new_next, DH.set_next, List.length_cons, List.length_nil, Nat.reduceAdd, List.set_cons_zero, List.set_cons_succ, getD_zero, getD_succ, fieldAt_zero, fieldAt_succ, thenD, blockD, retR, Sv.cells]; done) | (dsimp only [putD, DV.cells, DH.new_next, DH.set_next, List.length_cons, List.length_nil, Nat.reduceAdd, List.set_cons_zero, List.set_cons_succ, getD_zero, getD_succ, fieldAt_zero, fieldAt_succ, thenD, blockD, retR, Sv.cells]; exact rfl) | exact rfl)); (· (repeat (first | with_reducible exact Upd.here | with_reducible apply Upd.there | with_reducible apply upd_app))); (· exact rfl); (· exact rfl); (· exact rfl); (· exact rfl); intro H1 hB)
        | (apply bx_alloc; (· exact rfl); (· exact zero57); (· (first | (dsimp only [putD, DV.cells, DH.new_next, DH.set_next, List.length_cons, List.length_nil, Nat.reduceAdd, List.set_cons_zero, List.set_cons_succ, getD_zero, getD_succ, fieldAt_zero, fieldAt_succ, thenD, blockD, retR, Sv.cells]; done) | (dsimp only [putD, DV.cells, DH.new_next, DH.set_next, List.length_cons, List.length_nil, Nat.reduceAdd, List.set_cons_zero, List.set_cons_succ, getD_zero, getD_succ, fieldAt_zero, fieldAt_succ, thenD, blockD, retR, Sv.cells]; exact rfl) | exact rfl)); (· exact rfl); (· exact rfl); (· assumption); intro b1 H1 hB)
        | (apply op_at; (· exact rfl))
        | (apply dwp_cond_t; (· exact rfl); (· (first | with_reducible assumption | with_reducible rfl | decide)))
        | apply dwp_block
        | apply dwp_skip
        | apply dwp_ret
        | (refine ⟨_, rfl, ?_⟩)
        | fail)
      exact hK _ (hB.sub (by (repeat (first | exact List.Sublist.refl _ | exact List.nil_sublist _ | apply List.Sublist.cons_cons | apply List.Sublist.cons | apply List.Sublist.append_left | refine List.Sublist.trans ?_ (List.sublist_append_right _ _)))))
    | false =>
      repeat' (first
        | dsimp only [putD, DV.cells, DH.new_next, DH.set_next, List.length_cons, List.length_nil, Nat.reduceAdd, List.set_cons_zero, List.set_cons_succ, getD_zero, getD_succ, fieldAt_zero, fieldAt_succ, thenD, blockD, retR]
        | apply dwp_seq
        | apply dwp_region
        | apply ops_nil
        | (apply ops_plain; (· exact rfl))
        | (apply op_index_at; (· exact rfl); (· exact rfl); (· exact rfl); (· with_reducible exact hin1); (· exact rfl); (· exact rfl))
        | (apply op_load_at; (· exact rfl); (· exact rfl); (· exact ho); (· exact hr1); (· exact partTok x))
        | (apply op_told; (· exact rfl); (· exact congrArg (DV.int _) hw))
        | (apply bx_load0; (· exact rfl); (· exact rfl); (· assumption); (· (repeat (first | with_reducible exact At.here | with_reducible apply At.there | with_reducible apply at_app))); (· (first | exact part57 _ _ _ _ | exact rfl)))
        | (apply bx_store0; (· exact rfl); (· exact rfl); (· exact rfl); (· assumption); (· (first | (dsimp only [putD, DV.cells, DH.new_next, DH.set_next, List.length_cons, List.length_nil, Nat.reduceAdd, List.set_cons_zero, List.set_cons_succ, getD_zero, getD_succ, fieldAt_zero, fieldAt_succ, thenD, blockD, retR, Sv.cells]; done) | (dsimp only [putD, DV.cells, DH.new_next, DH.set_next, List.length_cons, List.length_nil, Nat.reduceAdd, List.set_cons_zero, List.set_cons_succ, getD_zero, getD_succ, fieldAt_zero, fieldAt_succ, thenD, blockD, retR, Sv.cells]; exact rfl) | exact rfl)); (· (repeat (first | with_reducible exact Upd.here | with_reducible apply Upd.there | with_reducible apply upd_app))); (· exact rfl); (· exact rfl); (· exact rfl); (· exact rfl); intro H1 hB)
        | (apply bx_alloc; (· exact rfl); (· exact zero57); (· (first | (dsimp only [putD, DV.cells, DH.new_next, DH.set_next, List.length_cons, List.length_nil, Nat.reduceAdd, List.set_cons_zero, List.set_cons_succ, getD_zero, getD_succ, fieldAt_zero, fieldAt_succ, thenD, blockD, retR, Sv.cells]; done) | (dsimp only [putD, DV.cells, DH.new_next, DH.set_next, List.length_cons, List.length_nil, Nat.reduceAdd, List.set_cons_zero, List.set_cons_succ, getD_zero, getD_succ, fieldAt_zero, fieldAt_succ, thenD, blockD, retR, Sv.cells]; exact rfl) | exact rfl)); (· exact rfl); (· exact rfl); (· assumption); intro b1 H1 hB)
        | (apply op_at; (· exact rfl))
        | (apply dwp_cond_t; (· exact rfl); (· (first | with_reducible assumption | with_reducible rfl | decide)))
        | (apply dwp_cond_f; (· exact rfl); (· (first | with_reducible assumption | with_reducible rfl | decide)))
        | apply dwp_block
        | apply dwp_skip
        | fail)
      refine ⟨⟨_, k + 1, junk_facts ⟨(hB.sub (by (repeat (first | exact List.Sublist.refl _ | exact List.nil_sublist _ | apply List.Sublist.cons_cons | apply List.Sublist.cons | apply List.Sublist.append_left | refine List.Sublist.trans ?_ (List.sublist_append_right _ _))))), by omega, fun i t h1 h2 => ?_⟩ rfl rfl⟩, ?_⟩
      · by_cases e : i = k
        · subst e; rw [hx] at h2; cases h2; simp at hbig; omega
        · exact hbef i t (by omega) h2
      · show l.length - ((k + 1 : Nat) : Int).toNat < l.length - (k : Int).toNat
        omega
  · have hc : decide ((k : Int) < (l.length : Int)) = false := by simp; omega
    have hall : (l.all fun t => decide (t.s.length ≤ 200)) = true := by
      rw [List.all_eq_true]
      intro t ht
      obtain ⟨i, hi⟩ := List.getElem?_of_mem ht
      have := (List.getElem?_eq_some_iff.mp hi).1
      simpa using hbef i t (by omega) hi
    rw [hall, Bool.true_and] at hK
    unfold few at hK
    have h300 : decide ((l.length : Int) ≤ 300) = decide (l.length ≤ 300) := decide_eq_decide.mpr (by omega)
    cases h1 : decide ((s.length : Int) ≤ 3000) with
    | true =>
      have e1 : decide (s.length ≤ 3000) = true := by simp at h1 ⊢; omega
      rw [e1, Bool.true_or, Bool.true_and] at hK
      repeat' (first
        | dsimp only [putD, DV.cells, DH.new_next, DH.set_next, List.length_cons, List.length_nil, Nat.reduceAdd, List.set_cons_zero, List.set_cons_succ, getD_zero, getD_succ, fieldAt_zero, fieldAt_succ, thenD, blockD, retR]
        | apply dwp_seq
        | apply dwp_region
        | apply ops_nil
        | (apply ops_plain; (· exact rfl))
        | (apply ops_on; (· exact rfl); (· exact rfl); (· (first | with_reducible assumption | with_reducible rfl | decide)))
        | (apply ops_off0; (· exact rfl); (· exact rfl); (· (first | with_reducible assumption | with_reducible rfl | decide)))
        | (apply ops_offn; (· exact rfl); (· exact rfl))
        | (apply op_pick_t; (· exact rfl); (· exact rfl); (· (first | with_reducible assumption | with_reducible rfl | decide)); (· exact rfl))
        | (apply op_at; (· exact rfl))
        | (apply dwp_cond_f; (· exact rfl); (· (first | with_reducible assumption | with_reducible rfl | decide)))
        | apply dwp_ret
        | apply dwp_exit
        | (refine ⟨_, rfl, ?_⟩)
        | fail)
      rw [h300]; exact hK _ hB
    | false =>
      have e1 : decide (s.length ≤ 3000) = false := by simp at h1 ⊢; omega
      rw [e1, Bool.false_or] at hK
      cases h2 : decide ((s.length : Int) > 65536) with
      | true =>
        have e2 : decide (65536 < s.length) = true := by simp at h2 ⊢; omega
        rw [e2, Bool.true_and] at hK
        cases h3 : decide ((s.length : Int) < 131072) with
        | true =>
          have e3 : decide (s.length < 131072) = true := by simp at h3 ⊢; omega
          rw [e3, Bool.true_and] at hK
          repeat' (first
            | dsimp only [putD, DV.cells, DH.new_next, DH.set_next, List.length_cons, List.length_nil, Nat.reduceAdd, List.set_cons_zero, List.set_cons_succ, getD_zero, getD_succ, fieldAt_zero, fieldAt_succ, thenD, blockD, retR]
            | apply dwp_seq
            | apply dwp_region
            | apply ops_nil
            | (apply ops_plain; (· exact rfl))
            | (apply ops_on; (· exact rfl); (· exact rfl); (· (first | with_reducible assumption | with_reducible rfl | decide)))
            | (apply op_pick_t; (· exact rfl); (· exact rfl); (· (first | with_reducible assumption | with_reducible rfl | decide)); (· exact rfl))
            | (apply op_pick_f; (· exact rfl); (· exact rfl); (· (first | with_reducible assumption | with_reducible rfl | decide)); (· exact rfl))
            | (apply op_at; (· exact rfl))
            | (apply dwp_cond_f; (· exact rfl); (· (first | with_reducible assumption | with_reducible rfl | decide)))
            | apply dwp_ret
            | apply dwp_exit
            | (refine ⟨_, rfl, ?_⟩)
            | fail)
          rw [h300]; exact hK _ hB
        | false =>
          have e3 : decide (s.length < 131072) = false := by simp at h3 ⊢; omega
          rw [e3, Bool.false_and] at hK
          repeat' (first
            | dsimp only [putD, DV.cells, DH.new_next, DH.set_next, List.length_cons, List.length_nil, Nat.reduceAdd, List.set_cons_zero, List.set_cons_succ, getD_zero, getD_succ, fieldAt_zero, fieldAt_succ, thenD, blockD, retR]
            | apply dwp_seq
            | apply dwp_region
            | apply ops_nil
            | (apply ops_plain; (· exact rfl))
            | (apply ops_on; (· exact rfl); (· exact rfl); (· (first | with_reducible assumption | with_reducible rfl | decide)))
            | (apply ops_off1; (· exact rfl); (· exact rfl); (· (first | with_reducible assumption | with_reducible rfl | decide)))
            | (apply op_pick_t; (· exact rfl); (· exact rfl); (· (first | with_reducible assumption | with_reducible rfl | decide)); (· exact rfl))
            | (apply op_pick_f; (· exact rfl); (· exact rfl); (· (first | with_reducible assumption | with_reducible rfl | decide)); (· exact rfl))
            | (apply op_at; (· exact rfl))
            | (apply dwp_cond_f; (· exact rfl); (· (first | with_reducible assumption | with_reducible rfl | decide)))
            | apply dwp_ret
            | apply dwp_exit
            | (refine ⟨_, rfl, ?_⟩)
            | fail)
          exact hK _ hB
      | false =>
        have e2 : decide (65536 < s.length) = false := by simp at h2 ⊢; omega
        rw [e2, Bool.false_and, Bool.false_and] at hK
        repeat' (first
          | dsimp only [putD, DV.cells, DH.new_next, DH.set_next, List.length_cons, List.length_nil, Nat.reduceAdd, List.set_cons_zero, List.set_cons_succ, getD_zero, getD_succ, fieldAt_zero, fieldAt_succ, thenD, blockD, retR]
          | apply dwp_seq
          | apply dwp_region
          | apply ops_nil
          | (apply ops_plain; (· exact rfl))
          | (apply ops_on; (· exact rfl); (· exact rfl); (· (first | with_reducible assumption | with_reducible rfl | decide)))
          | (apply ops_off1; (· exact rfl); (· exact rfl); (· (first | with_reducible assumption | with_reducible rfl | decide)))
          | (apply op_pick_f; (· exact rfl); (· exact rfl); (· (first | with_reducible assumption | with_reducible rfl | decide)); (· exact rfl))
          | (apply op_at; (· exact rfl))
          | (apply dwp_cond_f; (· exact rfl); (· (first | with_reducible assumption | with_reducible rfl | decide)))
          | apply dwp_ret
          | apply dwp_exit
          | (refine ⟨_, rfl, ?_⟩)
          | fail)
        exact hK _ hB
theorem join28 {l : List Tok} {p : Option (Nat × Nat × Nat)} {c : Nat} {ex : Bool} (hll : l.length ≤ 100000) (hss : ∀ t ∈ l, t.s.length ≤ 65536) (hsl : ∀ H', Bx A H' bs fs → Sl H' 4 (l.map Tok.row) p) (hB : Bx A H bs fs)
    (hK : ∀ H', Bx A H' bs fs → K (.tuple [.str (joinR l).1, .int .i64 (joinR l).2]) H') : CallWp Tryd.prog X6 28 [.sl p l.length c ex] H K := by
  have hmost : l.length ≤ mostD := by unfold mostD; omega
  refine enter rfl Tryd.func28 rfl Tryd.ntmps28 rfl ?_
  dsimp only [List.cons_append, List.nil_append, List.length_cons, List.length_nil, List.replicate_succ, List.replicate_zero, Nat.reduceAdd, Nat.reduceSub]
  repeat' (first
    | dsimp only [putD, DV.cells, DH.new_next, DH.set_next, List.length_cons, List.length_nil, Nat.reduceAdd, List.set_cons_zero, List.set_cons_succ, getD_zero, getD_succ, fieldAt_zero, fieldAt_succ, thenD, blockD, retR]
    | apply dwp_seq
    | apply dwp_region
    | apply ops_nil
    | (apply ops_plain; (· exact rfl))
    | (apply bx_make et96; (· exact rfl); (· exact rfl); (· exact rfl); (· exact hmost); (· assumption); intro bm H1 hB)
    | (apply op_at; (· exact rfl))
    | apply dwp_block
    | fail)
  refine dwp_loop (fun st => ∃ (bm : Nat) (H1 : DH) (k : Nat), ∃ J : Nat → DV, (Bx A H1 ((bm, .rows false 1 (((l.take k).map fun t => [DV.str (textF t).1]) ++ List.replicate (l.length - k) [DV.str []])) :: bs) fs ∧ k ≤ l.length ∧ ∀ i t, i < k → l[i]? = some t → (textF t).2 = 0) ∧ st = ⟨(.sl p l.length c ex :: J 1 :: .str [] :: .int .i64 0 :: .sl (some (bm, 0, 1)) l.length l.length true :: J 5 :: J 6 :: J 7 :: J 8 :: J 9 :: J 10 :: J 11 :: .sl p l.length c ex :: .int .i64 (l.length : Int) :: .int .i64 (k : Int) :: J 15 :: J 16 :: J 17 :: J 18 :: J 19 :: J 20 :: J 21 :: J 22 :: J 23 :: J 24 :: J 25 :: J 26 :: J 27 :: J 28 :: J 29 :: J 30 :: J 31 :: J 32 :: J 33 :: []), H1⟩) (fun st => l.length - kOf st 14) (⟨_, _, 0, junk_facts (⟨hB, Nat.zero_le _, fun i t h => absurd h (by omega)⟩) rfl rfl⟩) ?_
  rintro st ⟨bm, H1, k, J, ⟨hB, hk, hbef⟩, rfl⟩
  by_cases hlt : k < l.length
  · obtain ⟨x, hx⟩ : ∃ x, l[k]? = some x := ⟨l[k], List.getElem?_eq_getElem hlt⟩
    obtain ⟨loc, i0, ro, rs, rfl, hloc, ho, hrx⟩ := (hsl _ hB.drop1).rd (k := k) (r := x.row) (by rw [List.getElem?_map, hx]; rfl)
    have hr1 : rs[i0 + ((k : Int)).toNat]? = some x.row := by rw [Int.toNat_natCast]; exact hrx
    have hc : decide ((k : Int) < (l.length : Int)) = true := by simp [hlt]
    have hin1 : 0 ≤ (k : Int) ∧ (k : Int) < (l.length : Int) := by omega
    have hw : IntKind.i64.wrap ((k : Int) + 1) = ((k + 1 : Nat) : Int) := by rw [wrapI (by omega)]; rfl
    have hxs := hss x (List.mem_of_getElem? hx)
    obtain ⟨R, hR⟩ : ∃ R, ((l.take k).map fun t => [DV.str (textF t).1]) ++ List.replicate (l.length - k) [DV.str []] = R := ⟨_, rfl⟩
    rw [hR] at hB
    have hrk : R[0 + ((k : Int)).toNat]? = some [DV.str []] := by
      rw [← hR, Nat.zero_add, Int.toNat_natCast, List.getElem?_append_right (by simp; omega)]
      rw [List.getElem?_replicate]
      rw [if_pos (by simp; omega)]
    have hset : setRow R (0 + ((k : Int)).toNat) 0 (DV.cells (.str (textF x).1)) = some (R.set (0 + ((k : Int)).toNat) [DV.str (textF x).1]) := setRow1 hrk rfl rfl
    have hnew : R.set (0 + ((k : Int)).toNat) [DV.str (textF x).1] = ((l.take (k + 1)).map fun t => [DV.str (textF t).1]) ++ List.replicate (l.length - (k + 1)) [DV.str []] := by
      rw [← hR, Nat.zero_add, Int.toNat_natCast, List.take_add_one, hx, List.map_append, List.set_append_right _ _ (by simp; omega)]
      have e : k - ((l.take k).map fun t => [DV.str (textF t).1]).length = 0 := by simp; omega
      rw [e, show l.length - k = (l.length - (k + 1)) + 1 by omega, List.replicate_succ]
      simp
    have htx : textF x = ((textF x).1, (textF x).2) := rfl
    cases hbad : ((textF x).2 != 0) with
    | true =>
      have hb1 : (textF x).2 = 1 := by
        rcases textF_err x with h | h
        · rw [h] at hbad; cases hbad
        · exact h
      have hj : joinR l = ([], 1) := by
        unfold joinR
        rw [if_neg]
        rw [Bool.not_eq_true, List.all_eq_false]
        exact ⟨x, List.mem_of_getElem? hx, by rw [hb1]; decide⟩
      rw [hj] at hK
      repeat' (first
        | dsimp only [putD, DV.cells, DH.new_next, DH.set_next, List.length_cons, List.length_nil, Nat.reduceAdd, List.set_cons_zero, List.set_cons_succ, getD_zero, getD_succ, fieldAt_zero, fieldAt_succ, thenD, blockD, retR]
        | apply dwp_seq
        | apply dwp_region
        | apply ops_nil
        | (apply ops_plain; (· exact rfl))
        | (apply op_call; (· exact rfl); (· exact rfl); (· exact rfl); (refine (CallWp.up up36 (text27 (t := x) hxs (by assumption) ?_)); intro H1 hB))
        | (apply op_index_at; (· exact rfl); (· exact rfl); (· exact rfl); (· with_reducible exact hin1); (· exact rfl); (· exact rfl))
        | (apply op_load_at; (· exact rfl); (· exact rfl); (· exact ho); (· exact hr1); (· exact partTok x))
        | (apply bx_load0; (· exact rfl); (· exact rfl); (· assumption); (· (repeat (first | with_reducible exact At.here | with_reducible apply At.there | with_reducible apply at_app))); (· (first | exact part57 _ _ _ _ | exact rfl)))
        | (apply bx_store0; (· exact rfl); (· exact rfl); (· exact rfl); (· assumption); (· (first | (dsimp only [putD, DV.cells, DH.new_next, DH.set_next, List.length_cons, List.length_nil, Nat.reduceAdd, List.set_cons_zero, List.set_cons_succ, getD_zero, getD_succ, fieldAt_zero, fieldAt_succ, thenD, blockD, retR, Sv.cells]; done) | (dsimp only [putD, DV.cells, DH.new_next, DH.set_next, List.length_cons, List.length_nil, Nat.reduceAdd, List.set_cons_zero, List.set_cons_succ, getD_zero, getD_succ, fieldAt_zero, fieldAt_succ, thenD, blockD, retR, Sv.cells]; exact rfl) | exact rfl)); (· (repeat (first | with_reducible exact Upd.here | with_reducible apply Upd.there | with_reducible apply upd_app))); (· exact rfl); (· exact rfl); (· exact rfl); (· exact rfl); intro H1 hB)
        | (apply bx_alloc; (· exact rfl); (· exact zero57); (· (first | (dsimp only [putD, DV.cells, DH.new_next, DH.set_next, List.length_cons, List.length_nil, Nat.reduceAdd, List.set_cons_zero, List.set_cons_succ, getD_zero, getD_succ, fieldAt_zero, fieldAt_succ, thenD, blockD, retR, Sv.cells]; done) | (dsimp only [putD, DV.cells, DH.new_next, DH.set_next, List.length_cons, List.length_nil, Nat.reduceAdd, List.set_cons_zero, List.set_cons_succ, getD_zero, getD_succ, fieldAt_zero, fieldAt_succ, thenD, blockD, retR, Sv.cells]; exact rfl) | exact rfl)); (· exact rfl); (· exact rfl); (· assumption); intro b1 H1 hB)
        | (apply op_at; (· exact rfl))
        | (apply dwp_cond_t; (· exact rfl); (· (first | with_reducible assumption | with_reducible rfl | decide)))
        | apply dwp_block
        | apply dwp_skip
        | apply dwp_ret
        | (refine ⟨_, rfl, ?_⟩)
        | fail)
      rw [hb1]; exact hK _ (hB.sub (by (repeat (first | exact List.Sublist.refl _ | exact List.nil_sublist _ | apply List.Sublist.cons_cons | apply List.Sublist.cons | apply List.Sublist.append_left | refine List.Sublist.trans ?_ (List.sublist_append_right _ _)))))
    | false =>
      have hb0 : (textF x).2 = 0 := by simpa using hbad
      repeat' (first
        | dsimp only [putD, DV.cells, DH.new_next, DH.set_next, List.length_cons, List.length_nil, Nat.reduceAdd, List.set_cons_zero, List.set_cons_succ, getD_zero, getD_succ, fieldAt_zero, fieldAt_succ, thenD, blockD, retR]
        | apply dwp_seq
        | apply dwp_region
        | apply ops_nil
        | (apply ops_plain; (· exact rfl))
        | (apply op_call; (· exact rfl); (· exact rfl); (· exact rfl); (refine (CallWp.up up36 (text27 (t := x) hxs (by assumption) ?_)); intro H1 hB))
        | (apply op_index_at; (· exact rfl); (· exact rfl); (· exact rfl); (· with_reducible exact hin1); (· exact rfl); (· exact rfl))
        | (apply op_load_at; (· exact rfl); (· exact rfl); (· exact ho); (· exact hr1); (· exact partTok x))
        | (apply op_told; (· exact rfl); (· exact congrArg (DV.int _) hw))
        | (apply bx_store; (· exact rfl); (· exact rfl); (· exact rfl); (· assumption); (· (repeat (first | with_reducible exact Upd.here | with_reducible apply Upd.there | with_reducible apply upd_app))); (· exact hset); (· exact rfl); (· exact rfl); intro H1 hB)
        | (apply bx_load0; (· exact rfl); (· exact rfl); (· assumption); (· (repeat (first | with_reducible exact At.here | with_reducible apply At.there | with_reducible apply at_app))); (· (first | exact part57 _ _ _ _ | exact rfl)))
        | (apply bx_store0; (· exact rfl); (· exact rfl); (· exact rfl); (· assumption); (· (first | (dsimp only [putD, DV.cells, DH.new_next, DH.set_next, List.length_cons, List.length_nil, Nat.reduceAdd, List.set_cons_zero, List.set_cons_succ, getD_zero, getD_succ, fieldAt_zero, fieldAt_succ, thenD, blockD, retR, Sv.cells]; done) | (dsimp only [putD, DV.cells, DH.new_next, DH.set_next, List.length_cons, List.length_nil, Nat.reduceAdd, List.set_cons_zero, List.set_cons_succ, getD_zero, getD_succ, fieldAt_zero, fieldAt_succ, thenD, blockD, retR, Sv.cells]; exact rfl) | exact rfl)); (· (repeat (first | with_reducible exact Upd.here | with_reducible apply Upd.there | with_reducible apply upd_app))); (· exact rfl); (· exact rfl); (· exact rfl); (· exact rfl); intro H1 hB)
        | (apply bx_alloc; (· exact rfl); (· exact zero57); (· (first | (dsimp only [putD, DV.cells, DH.new_next, DH.set_next, List.length_cons, List.length_nil, Nat.reduceAdd, List.set_cons_zero, List.set_cons_succ, getD_zero, getD_succ, fieldAt_zero, fieldAt_succ, thenD, blockD, retR, Sv.cells]; done) | (dsimp only [putD, DV.cells, DH.new_next, DH.set_next, List.length_cons, List.length_nil, Nat.reduceAdd, List.set_cons_zero, List.set_cons_succ, getD_zero, getD_succ, fieldAt_zero, fieldAt_succ, thenD, blockD, retR, Sv.cells]; exact rfl) | exact rfl)); (· exact rfl); (· exact rfl); (· assumption); intro b1 H1 hB)
        | (apply op_at; (· exact rfl))
        | (apply dwp_cond_t; (· exact rfl); (· (first | with_reducible assumption | with_reducible rfl | decide)))
        | (apply dwp_cond_f; (· exact rfl); (· (first | with_reducible assumption | with_reducible rfl | decide)))
        | apply dwp_block
        | apply dwp_skip
        | fail)
      refine ⟨⟨bm, _, k + 1, junk_facts ⟨by rw [← hnew]; exact (hB.sub (by (repeat (first | exact List.Sublist.refl _ | exact List.nil_sublist _ | apply List.Sublist.cons_cons | apply List.Sublist.cons | apply List.Sublist.append_left | refine List.Sublist.trans ?_ (List.sublist_append_right _ _))))), by omega, fun i t h1 h2 => ?_⟩ rfl rfl⟩, ?_⟩
      · by_cases e : i = k
        · subst e; rw [hx] at h2; cases h2; exact hb0
        · exact hbef i t (by omega) h2
      · show l.length - ((k + 1 : Nat) : Int).toNat < l.length - (k : Int).toNat
        omega
  · have hc : decide ((k : Int) < (l.length : Int)) = false := by simp; omega
    have hall : ∀ t ∈ l, (textF t).2 = 0 := by
      intro t ht
      obtain ⟨i, hi⟩ := List.getElem?_of_mem ht
      have := (List.getElem?_eq_some_iff.mp hi).1
      exact hbef i t (by omega) hi
    have hj : joinR l = (joinF (l.map fun t => (textF t).1) [32], 0) := by
      unfold joinR
      rw [if_pos]
      rw [List.all_eq_true]
      intro t ht
      simpa using hall t ht
    rw [hj] at hK
    obtain rfl : k = l.length := by omega
    have hrows : ((l.take l.length).map fun t => [DV.str (textF t).1]) ++ List.replicate (l.length - l.length) [DV.str []] = (l.map fun t => (textF t).1).map fun s => [DV.str s] := by
      rw [List.take_length, Nat.sub_self, List.map_map]; simp
    rw [hrows] at hB
    have hlm : l.length = (l.map fun t => (textF t).1).length := by rw [List.length_map]
    have hjl := joinF_len (l.map fun t => (textF t).1) (fun x hx => by
      obtain ⟨t, ht, rfl⟩ := List.mem_map.mp hx
      exact textF_len (hall t ht))
    have hsx : Sl H1 1 ((l.map fun t => (textF t).1).map fun s => [DV.str s]) (some (bm, 0, 1)) := by
      have hob := hB.obj (bm, .rows false 1 ((l.map fun t => (textF t).1).map fun s => [DV.str s])) List.mem_cons_self
      exact .at hob.2.1 hob.2.2 (by simp) (by rw [List.drop_zero]; exact List.take_of_length_le (Nat.le_refl _))
    have hcall : ∀ K', K' (.str (joinF (l.map fun t => (textF t).1) [32])) H1 → CallWp Tryd.prog X6 60 [.sl (some (bm, 0, 1)) l.length l.length true, .str [32]] H1 K' := by
      intro K' hk'
      rw [hlm]
      exact join60 hsx (by rw [← hlm]; omega) (by rw [← hlm] at hjl; omega) hk'
    repeat' (first
      | dsimp only [putD, DV.cells, DH.new_next, DH.set_next, List.length_cons, List.length_nil, Nat.reduceAdd, List.set_cons_zero, List.set_cons_succ, getD_zero, getD_succ, fieldAt_zero, fieldAt_succ, thenD, blockD, retR]
      | apply dwp_seq
      | apply dwp_region
      | apply ops_nil
      | (apply ops_plain; (· exact rfl))
      | (apply op_call; (· exact rfl); (· exact rfl); (· exact rfl); apply hcall)
      | (apply op_at; (· exact rfl))
      | (apply dwp_cond_f; (· exact rfl); (· (first | with_reducible assumption | with_reducible rfl | decide)))
      | apply dwp_ret
      | apply dwp_exit
      | (refine ⟨_, rfl, ?_⟩)
      | fail)
    exact hK _ hB.drop1
end
end Go.Det.C

/- The references' words and texts. -/
namespace Go.Det.C
open Go Go.Det Go.Proofs
set_option maxRecDepth 4000
set_option maxHeartbeats 4000000
set_option linter.unusedVariables false
set_option linter.unusedSimpArgs false
theorem dig46_t {n : Int} (hn : -1000000000000000000 < n ∧ n < 1000000000000000000) {H : DH} {K : DV → DH → Prop} (hK : K (.str (decF n)) H) : CallWp Tryd.prog X8 46 [.int .i64 n] H K :=
  call_table (g := gDig) rfl (by unfold gDig; simp only; rw [if_pos hn]) hK
theorem dig75_t {n : Int} (hn : -1000000000000000000 < n ∧ n < 1000000000000000000) {H : DH} {K : DV → DH → Prop} (hK : K (.str (decF n)) H) : CallWp Tryd.prog X8 75 [.int .i64 n] H K :=
  call_table (g := gDig) rfl (by unfold gDig; simp only; rw [if_pos hn]) hK
theorem letter64 (n : Int) (H : DH) : CallWp Tryd.prog X8 64 [.int .i32 n] H (fun r H' => r = .bool (isLet n) ∧ H' = H) := by
  have e : isLet n = (decide (n ≥ 97) && decide (n ≤ 122)) := rfl
  rw [e]
  cases h1 : decide (n ≥ 97)
  · skip
    refine enter rfl Tryd.func64 rfl Tryd.ntmps64 rfl ?_
    dsimp only [List.cons_append, List.nil_append, List.length_cons, List.length_nil, List.replicate_succ, List.replicate_zero, Nat.reduceAdd, Nat.reduceSub]
    repeat' (first
      | dsimp only [putD, DV.cells, DH.new_next, DH.set_next, List.length_cons, List.length_nil, Nat.reduceAdd, List.set_cons_zero, List.set_cons_succ, getD_zero, getD_succ, fieldAt_zero, fieldAt_succ, thenD, blockD, retR]
      | apply dwp_seq
      | apply dwp_region
      | apply ops_nil
      | (apply ops_plain; (· exact rfl))
      | (apply ops_off1; (· exact rfl); (· exact rfl); (· (first | with_reducible assumption | with_reducible rfl | decide)))
      | (apply op_pick_f; (· exact rfl); (· exact rfl); (· (first | with_reducible assumption | with_reducible rfl | decide)); (· exact rfl))
      | (apply op_at; (· exact rfl))
      | apply dwp_ret
      | (refine ⟨_, rfl, ?_⟩)
      | fail)
    exact ⟨rfl, rfl⟩
  · skip
    refine enter rfl Tryd.func64 rfl Tryd.ntmps64 rfl ?_
    dsimp only [List.cons_append, List.nil_append, List.length_cons, List.length_nil, List.replicate_succ, List.replicate_zero, Nat.reduceAdd, Nat.reduceSub]
    repeat' (first
      | dsimp only [putD, DV.cells, DH.new_next, DH.set_next, List.length_cons, List.length_nil, Nat.reduceAdd, List.set_cons_zero, List.set_cons_succ, getD_zero, getD_succ, fieldAt_zero, fieldAt_succ, thenD, blockD, retR]
      | apply dwp_seq
      | apply dwp_region
      | apply ops_nil
      | (apply ops_plain; (· exact rfl))
      | (apply ops_on; (· exact rfl); (· exact rfl); (· (first | with_reducible assumption | with_reducible rfl | decide)))
      | (apply op_pick_t; (· exact rfl); (· exact rfl); (· (first | with_reducible assumption | with_reducible rfl | decide)); (· exact rfl))
      | (apply op_at; (· exact rfl))
      | apply dwp_ret
      | (refine ⟨_, rfl, ?_⟩)
      | fail)
    exact ⟨rfl, rfl⟩
theorem digit65 (n : Int) (H : DH) : CallWp Tryd.prog X8 65 [.int .i32 n] H (fun r H' => r = .bool (isDgt n) ∧ H' = H) := by
  have e : isDgt n = (decide (n ≥ 48) && decide (n ≤ 57)) := rfl
  rw [e]
  cases h1 : decide (n ≥ 48)
  · skip
    refine enter rfl Tryd.func65 rfl Tryd.ntmps65 rfl ?_
    dsimp only [List.cons_append, List.nil_append, List.length_cons, List.length_nil, List.replicate_succ, List.replicate_zero, Nat.reduceAdd, Nat.reduceSub]
    repeat' (first
      | dsimp only [putD, DV.cells, DH.new_next, DH.set_next, List.length_cons, List.length_nil, Nat.reduceAdd, List.set_cons_zero, List.set_cons_succ, getD_zero, getD_succ, fieldAt_zero, fieldAt_succ, thenD, blockD, retR]
      | apply dwp_seq
      | apply dwp_region
      | apply ops_nil
      | (apply ops_plain; (· exact rfl))
      | (apply ops_off1; (· exact rfl); (· exact rfl); (· (first | with_reducible assumption | with_reducible rfl | decide)))
      | (apply op_pick_f; (· exact rfl); (· exact rfl); (· (first | with_reducible assumption | with_reducible rfl | decide)); (· exact rfl))
      | (apply op_at; (· exact rfl))
      | apply dwp_ret
      | (refine ⟨_, rfl, ?_⟩)
      | fail)
    exact ⟨rfl, rfl⟩
  · skip
    refine enter rfl Tryd.func65 rfl Tryd.ntmps65 rfl ?_
    dsimp only [List.cons_append, List.nil_append, List.length_cons, List.length_nil, List.replicate_succ, List.replicate_zero, Nat.reduceAdd, Nat.reduceSub]
    repeat' (first
      | dsimp only [putD, DV.cells, DH.new_next, DH.set_next, List.length_cons, List.length_nil, Nat.reduceAdd, List.set_cons_zero, List.set_cons_succ, getD_zero, getD_succ, fieldAt_zero, fieldAt_succ, thenD, blockD, retR]
      | apply dwp_seq
      | apply dwp_region
      | apply ops_nil
      | (apply ops_plain; (· exact rfl))
      | (apply ops_on; (· exact rfl); (· exact rfl); (· (first | with_reducible assumption | with_reducible rfl | decide)))
      | (apply op_pick_t; (· exact rfl); (· exact rfl); (· (first | with_reducible assumption | with_reducible rfl | decide)); (· exact rfl))
      | (apply op_at; (· exact rfl))
      | apply dwp_ret
      | (refine ⟨_, rfl, ?_⟩)
      | fail)
    exact ⟨rfl, rfl⟩
section
variable {A H : DH} {bs : List (Nat × DObj)} {fs : List (DH → Prop)} {K : DV → DH → Prop}
theorem word34 {s : List UInt8} (hs : s.length ≤ 65536) (hB : Bx A H bs fs) (hK : ∀ H', Bx A H' bs fs → K (.bool (wordF s)) H') : CallWp Tryd.prog X8 34 [.str s] H K := by
  obtain ⟨W, hW⟩ : ∃ W, wordL true (runes s) = W := ⟨_, rfl⟩
  have hwf : wordF s = (W && (!(s == []) && decide (s.length ≤ 16))) := by unfold wordF; rw [hW]
  rw [hwf] at hK
  clear hwf
  refine enter rfl Tryd.func34 rfl Tryd.ntmps34 rfl ?_
  dsimp only [List.cons_append, List.nil_append, List.length_cons, List.length_nil, List.replicate_succ, List.replicate_zero, Nat.reduceAdd, Nat.reduceSub]
  repeat' (first
    | dsimp only [putD, DV.cells, DH.new_next, DH.set_next, List.length_cons, List.length_nil, Nat.reduceAdd, List.set_cons_zero, List.set_cons_succ, getD_zero, getD_succ, fieldAt_zero, fieldAt_succ, thenD, blockD, retR]
    | apply dwp_seq
    | apply dwp_region
    | apply ops_nil
    | (apply ops_plain; (· exact rfl))
    | (apply bx_range; (· exact rfl); (· exact rfl); (· exact rfl); (· assumption); intro bi H1 hB)
    | (apply op_at; (· exact rfl))
    | apply dwp_block
    | fail)
  refine dwp_loop (fun st => ∃ (bi : Nat) (H1 : DH) (pos : Nat), ∃ J : Nat → DV, (Bx A H1 ((bi, .iter s pos) :: bs) fs ∧ pos ≤ s.length ∧ wordL (decide (pos = 0)) (runes (s.drop pos)) = W) ∧ st = ⟨(.str s :: J 1 :: .bool false :: J 3 :: J 4 :: J 5 :: .ptr (some (bi, 0, 0)) :: J 7 :: J 8 :: J 9 :: J 10 :: J 11 :: J 12 :: J 13 :: J 14 :: J 15 :: J 16 :: J 17 :: J 18 :: J 19 :: J 20 :: J 21 :: J 22 :: J 23 :: J 24 :: J 25 :: J 26 :: J 27 :: J 28 :: J 29 :: J 30 :: []), H1⟩) (fun st => s.length - posOf st 6) (⟨_, _, 0, junk_facts (⟨hB, Nat.zero_le _, hW⟩) rfl rfl⟩) ?_
  rintro st ⟨bi, H1, pos, J, ⟨hB, hpos, hgo⟩, rfl⟩
  by_cases hlt : pos < s.length
  · have hne : s.drop pos ≠ [] := by
      intro h
      have := congrArg List.length h
      rw [List.length_drop] at this
      simp at this
      omega
    obtain ⟨cn, w, hcw⟩ : ∃ cn w, decL (s.drop pos) = (cn, w) := ⟨_, _, rfl⟩
    have hww := decL_width hne
    rw [hcw, List.length_drop] at hww
    simp only at hww
    have hdec : Utf8.decode ⟨s.toArray⟩ pos = (cn, w) := by rw [decode_drop s pos hpos, hcw]
    rw [runes_cons hne, hcw, List.drop_drop] at hgo
    unfold wordL at hgo
    simp only at hgo
    have hB0 := hB
    have hpw : decide (pos + w = 0) = false := by simp; omega
    cases hL : isLet (cn : Int) with
    | true =>
      rw [hL, Bool.true_or, Bool.true_and] at hgo
      repeat' (first
        | dsimp only [putD, DV.cells, DH.new_next, DH.set_next, List.length_cons, List.length_nil, Nat.reduceAdd, List.set_cons_zero, List.set_cons_succ, getD_zero, getD_succ, fieldAt_zero, fieldAt_succ, thenD, blockD, retR]
        | apply dwp_seq
        | apply dwp_region
        | apply ops_nil
        | (apply ops_plain; (· exact rfl))
        | (apply ops_off1; (· exact rfl); (· exact rfl); (· (first | with_reducible assumption | with_reducible rfl | decide)))
        | (apply ops_offn; (· exact rfl); (· exact rfl))
        | (apply op_call; (· exact rfl); (· exact rfl); (· exact rfl); (refine (letter64 _ _).mono ?_; rintro r0 H' ⟨rfl, rfl⟩; rw [hL]))
        | (apply op_pick_f; (· exact rfl); (· exact rfl); (· (first | with_reducible assumption | with_reducible rfl | decide)); (· exact rfl))
        | (apply bx_next (c := cn) (w := w); (· exact rfl); (· exact rfl); (· assumption); (· (repeat (first | with_reducible exact Upd.here | with_reducible apply Upd.there | with_reducible apply upd_app))); (· exact hlt); (· exact hdec); intro H1 hB)
        | (apply op_at; (· exact rfl))
        | (apply dwp_cond_t; (· exact rfl); (· (first | with_reducible assumption | with_reducible rfl | decide)))
        | (apply dwp_cond_f; (· exact rfl); (· (first | with_reducible assumption | with_reducible rfl | decide)))
        | apply dwp_block
        | apply dwp_skip
        | fail)
      refine ⟨⟨_, _, pos + w, junk_facts ⟨hB, by omega, by rw [hpw]; exact hgo⟩ rfl rfl⟩, ?_⟩
      rw [posOf_at rfl (hB.get (by (repeat (first | with_reducible exact At.here | with_reducible apply At.there | with_reducible apply at_app)))), posOf_at rfl (hB0.get (by (repeat (first | with_reducible exact At.here | with_reducible apply At.there | with_reducible apply at_app))))]
      omega
    | false =>
      rw [hL, Bool.false_or] at hgo
      cases h0 : ((pos : Int) == 0) with
      | true =>
        have h0' : decide (pos = 0) = true := by
          have : (pos : Int) = 0 := by simpa using h0
          simp; omega
        rw [h0'] at hgo
        rw [Bool.not_true, Bool.false_and, Bool.false_and] at hgo
        rw [← hgo, Bool.false_and] at hK
        repeat' (first
          | dsimp only [putD, DV.cells, DH.new_next, DH.set_next, List.length_cons, List.length_nil, Nat.reduceAdd, List.set_cons_zero, List.set_cons_succ, getD_zero, getD_succ, fieldAt_zero, fieldAt_succ, thenD, blockD, retR]
          | apply dwp_seq
          | apply dwp_region
          | apply ops_nil
          | (apply ops_plain; (· exact rfl))
          | (apply ops_on; (· exact rfl); (· exact rfl); (· (first | with_reducible assumption | with_reducible rfl | decide)))
          | (apply ops_off0; (· exact rfl); (· exact rfl); (· (first | with_reducible assumption | with_reducible rfl | decide)))
          | (apply op_call; (· exact rfl); (· exact rfl); (· exact rfl); (refine (letter64 _ _).mono ?_; rintro r0 H' ⟨rfl, rfl⟩; rw [hL]))
          | (apply op_pick_t; (· exact rfl); (· exact rfl); (· (first | with_reducible assumption | with_reducible rfl | decide)); (· exact rfl))
          | (apply bx_next (c := cn) (w := w); (· exact rfl); (· exact rfl); (· assumption); (· (repeat (first | with_reducible exact Upd.here | with_reducible apply Upd.there | with_reducible apply upd_app))); (· exact hlt); (· exact hdec); intro H1 hB)
          | (apply op_at; (· exact rfl))
          | (apply dwp_cond_t; (· exact rfl); (· (first | with_reducible assumption | with_reducible rfl | decide)))
          | apply dwp_block
          | apply dwp_skip
          | apply dwp_ret
          | (refine ⟨_, rfl, ?_⟩)
          | fail)
        exact hK _ (hB.sub (by (repeat (first | exact List.Sublist.refl _ | exact List.nil_sublist _ | apply List.Sublist.cons_cons | apply List.Sublist.cons | apply List.Sublist.append_left | refine List.Sublist.trans ?_ (List.sublist_append_right _ _)))))
      | false =>
        have h0' : decide (pos = 0) = false := by
          have : ¬ (pos : Int) = 0 := by simpa using h0
          simp; omega
        rw [h0', Bool.not_false, Bool.true_and] at hgo
        cases hD : isDgt (cn : Int) with
        | true =>
          rw [hD, Bool.true_and] at hgo
          repeat' (first
            | dsimp only [putD, DV.cells, DH.new_next, DH.set_next, List.length_cons, List.length_nil, Nat.reduceAdd, List.set_cons_zero, List.set_cons_succ, getD_zero, getD_succ, fieldAt_zero, fieldAt_succ, thenD, blockD, retR]
            | apply dwp_seq
            | apply dwp_region
            | apply ops_nil
            | (apply ops_plain; (· exact rfl))
            | (apply ops_on; (· exact rfl); (· exact rfl); (· (first | with_reducible assumption | with_reducible rfl | decide)))
            | (apply op_call; (· exact rfl); (· exact rfl); (· exact rfl); (refine (letter64 _ _).mono ?_; rintro r0 H' ⟨rfl, rfl⟩; rw [hL]))
            | (apply op_call; (· exact rfl); (· exact rfl); (· exact rfl); (refine (digit65 _ _).mono ?_; rintro r0 H' ⟨rfl, rfl⟩; rw [hD]))
            | (apply op_pick_t; (· exact rfl); (· exact rfl); (· (first | with_reducible assumption | with_reducible rfl | decide)); (· exact rfl))
            | (apply op_pick_f; (· exact rfl); (· exact rfl); (· (first | with_reducible assumption | with_reducible rfl | decide)); (· exact rfl))
            | (apply bx_next (c := cn) (w := w); (· exact rfl); (· exact rfl); (· assumption); (· (repeat (first | with_reducible exact Upd.here | with_reducible apply Upd.there | with_reducible apply upd_app))); (· exact hlt); (· exact hdec); intro H1 hB)
            | (apply op_at; (· exact rfl))
            | (apply dwp_cond_t; (· exact rfl); (· (first | with_reducible assumption | with_reducible rfl | decide)))
            | (apply dwp_cond_f; (· exact rfl); (· (first | with_reducible assumption | with_reducible rfl | decide)))
            | apply dwp_block
            | apply dwp_skip
            | fail)
          refine ⟨⟨_, _, pos + w, junk_facts ⟨hB, by omega, by rw [hpw]; exact hgo⟩ rfl rfl⟩, ?_⟩
          rw [posOf_at rfl (hB.get (by (repeat (first | with_reducible exact At.here | with_reducible apply At.there | with_reducible apply at_app)))), posOf_at rfl (hB0.get (by (repeat (first | with_reducible exact At.here | with_reducible apply At.there | with_reducible apply at_app))))]
          omega
        | false =>
          rw [hD, Bool.false_and] at hgo
          rw [← hgo, Bool.false_and] at hK
          repeat' (first
            | dsimp only [putD, DV.cells, DH.new_next, DH.set_next, List.length_cons, List.length_nil, Nat.reduceAdd, List.set_cons_zero, List.set_cons_succ, getD_zero, getD_succ, fieldAt_zero, fieldAt_succ, thenD, blockD, retR]
            | apply dwp_seq
            | apply dwp_region
            | apply ops_nil
            | (apply ops_plain; (· exact rfl))
            | (apply ops_on; (· exact rfl); (· exact rfl); (· (first | with_reducible assumption | with_reducible rfl | decide)))
            | (apply op_call; (· exact rfl); (· exact rfl); (· exact rfl); (refine (letter64 _ _).mono ?_; rintro r0 H' ⟨rfl, rfl⟩; rw [hL]))
            | (apply op_call; (· exact rfl); (· exact rfl); (· exact rfl); (refine (digit65 _ _).mono ?_; rintro r0 H' ⟨rfl, rfl⟩; rw [hD]))
            | (apply op_pick_t; (· exact rfl); (· exact rfl); (· (first | with_reducible assumption | with_reducible rfl | decide)); (· exact rfl))
            | (apply op_pick_f; (· exact rfl); (· exact rfl); (· (first | with_reducible assumption | with_reducible rfl | decide)); (· exact rfl))
            | (apply bx_next (c := cn) (w := w); (· exact rfl); (· exact rfl); (· assumption); (· (repeat (first | with_reducible exact Upd.here | with_reducible apply Upd.there | with_reducible apply upd_app))); (· exact hlt); (· exact hdec); intro H1 hB)
            | (apply op_at; (· exact rfl))
            | (apply dwp_cond_t; (· exact rfl); (· (first | with_reducible assumption | with_reducible rfl | decide)))
            | apply dwp_block
            | apply dwp_skip
            | apply dwp_ret
            | (refine ⟨_, rfl, ?_⟩)
            | fail)
          exact hK _ (hB.sub (by (repeat (first | exact List.Sublist.refl _ | exact List.nil_sublist _ | apply List.Sublist.cons_cons | apply List.Sublist.cons | apply List.Sublist.append_left | refine List.Sublist.trans ?_ (List.sublist_append_right _ _)))))
  · have hnil : s.drop pos = [] := List.drop_eq_nil_of_le (by omega)
    rw [hnil, runes_nil] at hgo
    unfold wordL at hgo
    rw [← hgo, Bool.true_and] at hK
    have hd : decide ((s.length : Int) ≤ 16) = decide (s.length ≤ 16) := decide_eq_decide.mpr (by omega)
    cases he : decide ((s.length : Int) ≥ 1) with
    | true =>
      have he2 : (!(s == [])) = true := by
        cases s with
        | nil => simp at he
        | cons x s => rfl
      rw [he2, Bool.true_and] at hK
      repeat' (first
        | dsimp only [putD, DV.cells, DH.new_next, DH.set_next, List.length_cons, List.length_nil, Nat.reduceAdd, List.set_cons_zero, List.set_cons_succ, getD_zero, getD_succ, fieldAt_zero, fieldAt_succ, thenD, blockD, retR]
        | apply dwp_seq
        | apply dwp_region
        | apply ops_nil
        | (apply ops_plain; (· exact rfl))
        | (apply ops_on; (· exact rfl); (· exact rfl); (· (first | with_reducible assumption | with_reducible rfl | decide)))
        | (apply op_pick_t; (· exact rfl); (· exact rfl); (· (first | with_reducible assumption | with_reducible rfl | decide)); (· exact rfl))
        | (apply bx_next_end; (· exact rfl); (· exact rfl); (· assumption); (· (repeat (first | with_reducible exact At.here | with_reducible apply At.there | with_reducible apply at_app))); (· exact hlt))
        | (apply op_at; (· exact rfl))
        | (apply dwp_cond_f; (· exact rfl); (· (first | with_reducible assumption | with_reducible rfl | decide)))
        | apply dwp_ret
        | apply dwp_exit
        | (refine ⟨_, rfl, ?_⟩)
        | fail)
      rw [hd]
      exact hK _ (hB.sub (by (repeat (first | exact List.Sublist.refl _ | exact List.nil_sublist _ | apply List.Sublist.cons_cons | apply List.Sublist.cons | apply List.Sublist.append_left | refine List.Sublist.trans ?_ (List.sublist_append_right _ _)))))
    | false =>
      have he2 : (!(s == [])) = false := by
        cases s with
        | nil => rfl
        | cons x s => simp at he; omega
      rw [he2, Bool.false_and] at hK
      repeat' (first
        | dsimp only [putD, DV.cells, DH.new_next, DH.set_next, List.length_cons, List.length_nil, Nat.reduceAdd, List.set_cons_zero, List.set_cons_succ, getD_zero, getD_succ, fieldAt_zero, fieldAt_succ, thenD, blockD, retR]
        | apply dwp_seq
        | apply dwp_region
        | apply ops_nil
        | (apply ops_plain; (· exact rfl))
        | (apply ops_off1; (· exact rfl); (· exact rfl); (· (first | with_reducible assumption | with_reducible rfl | decide)))
        | (apply op_pick_f; (· exact rfl); (· exact rfl); (· (first | with_reducible assumption | with_reducible rfl | decide)); (· exact rfl))
        | (apply bx_next_end; (· exact rfl); (· exact rfl); (· assumption); (· (repeat (first | with_reducible exact At.here | with_reducible apply At.there | with_reducible apply at_app))); (· exact hlt))
        | (apply op_at; (· exact rfl))
        | (apply dwp_cond_f; (· exact rfl); (· (first | with_reducible assumption | with_reducible rfl | decide)))
        | apply dwp_ret
        | apply dwp_exit
        | (refine ⟨_, rfl, ?_⟩)
        | fail)
      exact hK _ (hB.sub (by (repeat (first | exact List.Sublist.refl _ | exact List.nil_sublist _ | apply List.Sublist.cons_cons | apply List.Sublist.cons | apply List.Sublist.append_left | refine List.Sublist.trans ?_ (List.sublist_append_right _ _)))))
end
theorem unit74 (s : List UInt8) (H : DH) : CallWp Tryd.prog X8 74 [.str s] H (fun r H' => r = .tuple [.int .i64 (unitN s), .bool (unitF s).isSome] ∧ H' = H) := by
  refine enter rfl Tryd.func74 rfl Tryd.ntmps74 rfl ?_
  dsimp only [List.cons_append, List.nil_append, List.length_cons, List.length_nil, List.replicate_succ, List.replicate_zero, Nat.reduceAdd, Nat.reduceSub]
  repeat' (first
    | dsimp only [putD, DV.cells, DH.new_next, DH.set_next, List.length_cons, List.length_nil, Nat.reduceAdd, List.set_cons_zero, List.set_cons_succ, getD_zero, getD_succ, fieldAt_zero, fieldAt_succ, thenD, blockD, retR]
    | apply dwp_seq
    | apply dwp_region
    | apply ops_nil
    | (apply ops_plain; (· exact rfl))
    | (apply op_at; (· exact rfl))
    | (refine dwp_cond rfl ?_ ?_ <;> intro hb)
    | apply dwp_block
    | apply dwp_skip
    | apply dwp_ret
    | (refine ⟨_, rfl, ?_⟩)
    | fail)
  all_goals first
    | (simp only [beq_iff_eq] at hb; subst hb; exact ⟨rfl, rfl⟩)
    | (have e : unitF s = none := by
         unfold unitF
         rw [if_neg (fun e => by subst e; contradiction), if_neg (fun e => by subst e; contradiction), if_neg (fun e => by subst e; contradiction), if_neg (fun e => by subst e; contradiction), if_neg (fun e => by subst e; contradiction)]
       unfold unitN
       rw [e]
       exact ⟨rfl, rfl⟩)
theorem may43 {t : Int} (ht : Fit t) {b : Nat} {H : DH} (ho : H.obj b = some (.rows false 1 [[.int .i64 t]])) : CallWp Tryd.prog X8 43 [.sl (some (b, 0, 1)) 1 1 true] H (fun r H' => r = .bool true ∧ H' = H) := by
  have h1 : decide (t > 1152921504606846976) = false := by unfold Fit at ht; simp; omega
  have h2 : decide (t < -1152921504606846976) = false := by unfold Fit at ht; simp; omega
  refine enter rfl Tryd.func43 rfl Tryd.ntmps43 rfl ?_
  dsimp only [List.cons_append, List.nil_append, List.length_cons, List.length_nil, List.replicate_succ, List.replicate_zero, Nat.reduceAdd, Nat.reduceSub]
  repeat' (first
    | dsimp only [putD, DV.cells, DH.new_next, DH.set_next, List.length_cons, List.length_nil, Nat.reduceAdd, List.set_cons_zero, List.set_cons_succ, getD_zero, getD_succ, fieldAt_zero, fieldAt_succ, thenD, blockD, retR]
    | refine dwp_round ?_
    | apply dwp_seq
    | apply dwp_region
    | apply ops_nil
    | (apply ops_plain; (· exact rfl))
    | (apply ops_on; (· exact rfl); (· exact rfl); (· (first | with_reducible assumption | with_reducible rfl | decide)))
    | (apply op_pick_f; (· exact rfl); (· exact rfl); (· (first | with_reducible assumption | with_reducible rfl | decide)); (· exact rfl))
    | (apply op_load_at; (· exact rfl); (· exact rfl); (· exact ho); (· exact rfl); (· exact rfl))
    | (apply op_at; (· exact rfl))
    | (apply dwp_cond_t; (· exact rfl); (· (first | with_reducible assumption | with_reducible rfl | decide)))
    | (apply dwp_cond_f; (· exact rfl); (· (first | with_reducible assumption | with_reducible rfl | decide)))
    | apply dwp_block
    | apply dwp_skip
    | apply dwp_ret
    | apply dwp_exit
    | (refine ⟨_, rfl, ?_⟩)
    | fail)
  exact ⟨rfl, rfl⟩
theorem tdiv_bound (t p : Int) : (t.tdiv p).natAbs ≤ t.natAbs := by rw [Int.natAbs_tdiv]; exact Nat.div_le_self _ _
theorem decF_div {t : Int} {ps : Nat} (hp : 0 < ps) (hd : t.natAbs % ps = 0) : decF (t.tdiv (ps : Int)) = sgnF t ++ decN (t.natAbs / ps) := by
  have hn : (t.tdiv (ps : Int)).natAbs = t.natAbs / ps := by rw [Int.natAbs_tdiv]; rfl
  unfold decF sgnF
  rw [hn]
  by_cases h : t < 0
  · have hneg : t.tdiv (ps : Int) < 0 := by
      have h1 : 0 < t.natAbs / ps := Nat.div_pos (Nat.le_of_dvd (by omega) (Nat.dvd_of_mod_eq_zero hd)) hp
      have h2 : t.tdiv (ps : Int) ≤ 0 := by
        have h3 := Int.tdiv_nonneg (a := -t) (b := (ps : Int)) (by omega) (by omega)
        rw [Int.neg_tdiv] at h3
        omega
      omega
    rw [if_pos hneg, if_pos h]; rfl
  · have hpos : ¬ t.tdiv (ps : Int) < 0 := by
      have := Int.tdiv_nonneg (a := t) (b := (ps : Int)) (by omega) (by omega)
      omega
    rw [if_neg hpos, if_neg h]; rfl
theorem ptext44 {t : Int} (ht : -1000000000000000000 < t ∧ t < 1000000000000000000) (H : DH) : CallWp Tryd.prog X8 44 [.int .i64 t] H (fun r H' => r = .tuple [.str (ptextF t), .int .i64 0] ∧ Above H H') := by
  have ft : Fit t := by unfold Fit; omega
  have u1 : unitN [115] = 1000000000000 := rfl
  have hq1 : IntKind.i64.wrap (t.tdiv 1000000000000) = t.tdiv 1000000000000 := wrapI (by have := tdiv_bound t 1000000000000; omega)
  have hb1 : -1000000000000000000 < t.tdiv 1000000000000 ∧ t.tdiv 1000000000000 < 1000000000000000000 := by have := tdiv_bound t 1000000000000; omega
  have hm1 : (t.tmod 1000000000000).natAbs = t.natAbs % 1000000000000 := by rw [Int.natAbs_tmod]; rfl
  have u2 : unitN [109, 115] = 1000000000 := rfl
  have hq2 : IntKind.i64.wrap (t.tdiv 1000000000) = t.tdiv 1000000000 := wrapI (by have := tdiv_bound t 1000000000; omega)
  have hb2 : -1000000000000000000 < t.tdiv 1000000000 ∧ t.tdiv 1000000000 < 1000000000000000000 := by have := tdiv_bound t 1000000000; omega
  have hm2 : (t.tmod 1000000000).natAbs = t.natAbs % 1000000000 := by rw [Int.natAbs_tmod]; rfl
  have u3 : unitN [117, 115] = 1000000 := rfl
  have hq3 : IntKind.i64.wrap (t.tdiv 1000000) = t.tdiv 1000000 := wrapI (by have := tdiv_bound t 1000000; omega)
  have hb3 : -1000000000000000000 < t.tdiv 1000000 ∧ t.tdiv 1000000 < 1000000000000000000 := by have := tdiv_bound t 1000000; omega
  have hm3 : (t.tmod 1000000).natAbs = t.natAbs % 1000000 := by rw [Int.natAbs_tmod]; rfl
  have u4 : unitN [110, 115] = 1000 := rfl
  have hq4 : IntKind.i64.wrap (t.tdiv 1000) = t.tdiv 1000 := wrapI (by have := tdiv_bound t 1000; omega)
  have hb4 : -1000000000000000000 < t.tdiv 1000 ∧ t.tdiv 1000 < 1000000000000000000 := by have := tdiv_bound t 1000; omega
  have hm4 : (t.tmod 1000).natAbs = t.natAbs % 1000 := by rw [Int.natAbs_tmod]; rfl
  have hll : ∀ (m : Int) (k : Nat), -1000000000000000000 < m ∧ m < 1000000000000000000 → k ≤ 2 → (decF m).length + k ≤ 4294967296 := by
    intro m k hm hk
    unfold decF
    have := decN_len 17 m.natAbs (by omega)
    split
    · simp; omega
    · omega
  unfold ptextF
  by_cases h0 : t = 0
  · subst h0
    have hz : ((0 : Int) != 0) = false := rfl
    have hpk : pickU (0 : Int).natAbs = (1, [112, 115]) := rfl
    rw [hpk]
    refine enter rfl Tryd.func44 rfl Tryd.ntmps44 rfl ?_
    dsimp only [List.cons_append, List.nil_append, List.length_cons, List.length_nil, List.replicate_succ, List.replicate_zero, Nat.reduceAdd, Nat.reduceSub]
    repeat' (first
      | dsimp only [putD, DV.cells, DH.new_next, DH.set_next, List.length_cons, List.length_nil, Nat.reduceAdd, List.set_cons_zero, List.set_cons_succ, getD_zero, getD_succ, fieldAt_zero, fieldAt_succ, thenD, blockD, retR]
      | refine dwp_round ?_
      | apply dwp_seq
      | apply dwp_region
      | apply ops_nil
      | (apply ops_plain; (· exact rfl))
      | (apply ops_off1; (· exact rfl); (· exact rfl); (· (first | with_reducible assumption | with_reducible rfl | decide)))
      | (apply op_call; (· exact rfl); (· exact rfl); (· exact rfl); (refine (may43 ft obj_here').mono ?_; rintro r H' ⟨rfl, rfl⟩))
      | (apply op_call; (· exact rfl); (· exact rfl); (· exact rfl); (refine (unit74 _ _).mono ?_; rintro r H' ⟨rfl, rfl⟩; first | rw [u1] | rw [u2] | rw [u3] | rw [u4]))
      | (apply op_call; (· exact rfl); (· exact rfl); (· exact rfl); (apply dig75_t; (· exact ht)))
      | (apply op_pick_f; (· exact rfl); (· exact rfl); (· (first | with_reducible assumption | with_reducible rfl | decide)); (· exact rfl))
      | (apply op_at; (· exact opD_strAdd rfl rfl rfl (hll _ _ ht (by decide))))
      | (apply op_load_at; (· exact rfl); (· exact rfl); (· repeat (first | with_reducible assumption | (with_reducible apply obj_here; with_reducible rfl) | with_reducible apply obj_set | (with_reducible apply obj_skip_lo; (· ((repeat (first | with_reducible assumption | with_reducible apply Lo.self | with_reducible apply Lo.new | with_reducible apply Lo.set | with_reducible apply Lo.self1 | with_reducible apply Lo.self2)); done))) | (with_reducible apply obj_past; (· ((first | with_reducible assumption | with_reducible apply ne_add1 | with_reducible apply ne_add1' | with_reducible apply ne_add2 | with_reducible apply ne_add2' | with_reducible apply ne_add12 | with_reducible apply ne_add21 | (with_reducible apply Lo.ne; (repeat (first | with_reducible assumption | with_reducible apply Lo.self | with_reducible apply Lo.new | with_reducible apply Lo.set | with_reducible apply Lo.self1 | with_reducible apply Lo.self2)); done) | (with_reducible apply Lo.ne1; (repeat (first | with_reducible assumption | with_reducible apply Lo.self | with_reducible apply Lo.new | with_reducible apply Lo.set | with_reducible apply Lo.self1 | with_reducible apply Lo.self2)); done) | (with_reducible apply Lo.ne'; (repeat (first | with_reducible assumption | with_reducible apply Lo.self | with_reducible apply Lo.new | with_reducible apply Lo.set | with_reducible apply Lo.self1 | with_reducible apply Lo.self2)); done) | (with_reducible apply Lo.ne1'; (repeat (first | with_reducible assumption | with_reducible apply Lo.self | with_reducible apply Lo.new | with_reducible apply Lo.set | with_reducible apply Lo.self1 | with_reducible apply Lo.self2)); done)); done))) | exact obj_here rfl)); (· exact rfl); (· exact rfl))
      | (apply op_at; (· exact rfl))
      | (apply dwp_cond_t; (· exact rfl); (· (first | with_reducible assumption | with_reducible rfl | decide)))
      | (apply dwp_cond_f; (· exact rfl); (· (first | with_reducible assumption | with_reducible rfl | decide)))
      | apply dwp_block
      | apply dwp_skip
      | apply dwp_ret
      | apply dwp_exit
      | (refine ⟨_, rfl, ?_⟩)
      | fail)
    exact ⟨rfl, (((Above.refl _).new _).new _)⟩
  · have hz : (t != 0) = true := by simpa using h0
    have hn0 : ¬ t.natAbs = 0 := by omega
    by_cases hd1 : t.natAbs % 1000000000000 = 0
    · have hz1 : (t.tmod 1000000000000 == 0) = true := by rw [hd1] at hm1; simp; omega
      have hpk : pickU t.natAbs = (1000000000000, [115]) := by unfold pickU; rw [if_neg hn0, if_pos hd1]
      have ed : decF (t.tdiv 1000000000000) = sgnF t ++ decN (t.natAbs / 1000000000000) := decF_div (ps := 1000000000000) (by decide) hd1
      rw [hpk]
      dsimp only
      rw [← ed]
      refine enter rfl Tryd.func44 rfl Tryd.ntmps44 rfl ?_
      dsimp only [List.cons_append, List.nil_append, List.length_cons, List.length_nil, List.replicate_succ, List.replicate_zero, Nat.reduceAdd, Nat.reduceSub]
      repeat' (first
        | dsimp only [putD, DV.cells, DH.new_next, DH.set_next, List.length_cons, List.length_nil, Nat.reduceAdd, List.set_cons_zero, List.set_cons_succ, getD_zero, getD_succ, fieldAt_zero, fieldAt_succ, thenD, blockD, retR]
        | refine dwp_round ?_
        | apply dwp_seq
        | apply dwp_region
        | apply ops_nil
        | (apply ops_plain; (· exact rfl))
        | (apply ops_on; (· exact rfl); (· exact rfl); (· (first | with_reducible assumption | with_reducible rfl | decide)))
        | (apply op_call; (· exact rfl); (· exact rfl); (· exact rfl); (refine (may43 ft obj_here').mono ?_; rintro r H' ⟨rfl, rfl⟩))
        | (apply op_call; (· exact rfl); (· exact rfl); (· exact rfl); (refine (unit74 _ _).mono ?_; rintro r H' ⟨rfl, rfl⟩; first | rw [u1] | rw [u2] | rw [u3] | rw [u4]))
        | (apply op_call; (· exact rfl); (· exact rfl); (· exact rfl); (apply dig75_t; (· exact hb1)))
        | (apply op_pick_t; (· exact rfl); (· exact rfl); (· (first | with_reducible assumption | with_reducible rfl | decide)); (· exact rfl))
        | (apply op_at; (· exact opD_rem rfl rfl rfl (by decide) rfl))
        | (apply op_at; (· exact opD_quo rfl rfl rfl (by decide) hq1))
        | (apply op_at; (· exact opD_strAdd rfl rfl rfl (hll _ _ hb1 (by decide))))
        | (apply op_load_at; (· exact rfl); (· exact rfl); (· repeat (first | with_reducible assumption | (with_reducible apply obj_here; with_reducible rfl) | with_reducible apply obj_set | (with_reducible apply obj_skip_lo; (· ((repeat (first | with_reducible assumption | with_reducible apply Lo.self | with_reducible apply Lo.new | with_reducible apply Lo.set | with_reducible apply Lo.self1 | with_reducible apply Lo.self2)); done))) | (with_reducible apply obj_past; (· ((first | with_reducible assumption | with_reducible apply ne_add1 | with_reducible apply ne_add1' | with_reducible apply ne_add2 | with_reducible apply ne_add2' | with_reducible apply ne_add12 | with_reducible apply ne_add21 | (with_reducible apply Lo.ne; (repeat (first | with_reducible assumption | with_reducible apply Lo.self | with_reducible apply Lo.new | with_reducible apply Lo.set | with_reducible apply Lo.self1 | with_reducible apply Lo.self2)); done) | (with_reducible apply Lo.ne1; (repeat (first | with_reducible assumption | with_reducible apply Lo.self | with_reducible apply Lo.new | with_reducible apply Lo.set | with_reducible apply Lo.self1 | with_reducible apply Lo.self2)); done) | (with_reducible apply Lo.ne'; (repeat (first | with_reducible assumption | with_reducible apply Lo.self | with_reducible apply Lo.new | with_reducible apply Lo.set | with_reducible apply Lo.self1 | with_reducible apply Lo.self2)); done) | (with_reducible apply Lo.ne1'; (repeat (first | with_reducible assumption | with_reducible apply Lo.self | with_reducible apply Lo.new | with_reducible apply Lo.set | with_reducible apply Lo.self1 | with_reducible apply Lo.self2)); done)); done))) | exact obj_here rfl)); (· exact rfl); (· exact rfl))
        | (apply op_at; (· exact rfl))
        | (apply dwp_cond_t; (· exact rfl); (· (first | with_reducible assumption | with_reducible rfl | decide)))
        | (apply dwp_cond_f; (· exact rfl); (· (first | with_reducible assumption | with_reducible rfl | decide)))
        | apply dwp_block
        | apply dwp_skip
        | apply dwp_ret
        | (refine ⟨_, rfl, ?_⟩)
        | fail)
      exact ⟨rfl, (((Above.refl _).new _).new _)⟩
    · have hz1 : (t.tmod 1000000000000 == 0) = false := by
        have : t.tmod 1000000000000 ≠ 0 := by omega
        simpa using this
      by_cases hd2 : t.natAbs % 1000000000 = 0
      · have hz2 : (t.tmod 1000000000 == 0) = true := by rw [hd2] at hm2; simp; omega
        have hpk : pickU t.natAbs = (1000000000, [109, 115]) := by unfold pickU; rw [if_neg hn0, if_neg hd1, if_pos hd2]
        have ed : decF (t.tdiv 1000000000) = sgnF t ++ decN (t.natAbs / 1000000000) := decF_div (ps := 1000000000) (by decide) hd2
        rw [hpk]
        dsimp only
        rw [← ed]
        refine enter rfl Tryd.func44 rfl Tryd.ntmps44 rfl ?_
        dsimp only [List.cons_append, List.nil_append, List.length_cons, List.length_nil, List.replicate_succ, List.replicate_zero, Nat.reduceAdd, Nat.reduceSub]
        repeat' (first
          | dsimp only [putD, DV.cells, DH.new_next, DH.set_next, List.length_cons, List.length_nil, Nat.reduceAdd, List.set_cons_zero, List.set_cons_succ, getD_zero, getD_succ, fieldAt_zero, fieldAt_succ, thenD, blockD, retR]
          | refine dwp_round ?_
          | apply dwp_seq
          | apply dwp_region
          | apply ops_nil
          | (apply ops_plain; (· exact rfl))
          | (apply ops_on; (· exact rfl); (· exact rfl); (· (first | with_reducible assumption | with_reducible rfl | decide)))
          | (apply op_call; (· exact rfl); (· exact rfl); (· exact rfl); (refine (may43 ft obj_here').mono ?_; rintro r H' ⟨rfl, rfl⟩))
          | (apply op_call; (· exact rfl); (· exact rfl); (· exact rfl); (refine (unit74 _ _).mono ?_; rintro r H' ⟨rfl, rfl⟩; first | rw [u1] | rw [u2] | rw [u3] | rw [u4]))
          | (apply op_call; (· exact rfl); (· exact rfl); (· exact rfl); (apply dig75_t; (· exact hb2)))
          | (apply op_pick_t; (· exact rfl); (· exact rfl); (· (first | with_reducible assumption | with_reducible rfl | decide)); (· exact rfl))
          | (apply op_at; (· exact opD_rem rfl rfl rfl (by decide) rfl))
          | (apply op_at; (· exact opD_quo rfl rfl rfl (by decide) hq2))
          | (apply op_at; (· exact opD_strAdd rfl rfl rfl (hll _ _ hb2 (by decide))))
          | (apply op_load_at; (· exact rfl); (· exact rfl); (· repeat (first | with_reducible assumption | (with_reducible apply obj_here; with_reducible rfl) | with_reducible apply obj_set | (with_reducible apply obj_skip_lo; (· ((repeat (first | with_reducible assumption | with_reducible apply Lo.self | with_reducible apply Lo.new | with_reducible apply Lo.set | with_reducible apply Lo.self1 | with_reducible apply Lo.self2)); done))) | (with_reducible apply obj_past; (· ((first | with_reducible assumption | with_reducible apply ne_add1 | with_reducible apply ne_add1' | with_reducible apply ne_add2 | with_reducible apply ne_add2' | with_reducible apply ne_add12 | with_reducible apply ne_add21 | (with_reducible apply Lo.ne; (repeat (first | with_reducible assumption | with_reducible apply Lo.self | with_reducible apply Lo.new | with_reducible apply Lo.set | with_reducible apply Lo.self1 | with_reducible apply Lo.self2)); done) | (with_reducible apply Lo.ne1; (repeat (first | with_reducible assumption | with_reducible apply Lo.self | with_reducible apply Lo.new | with_reducible apply Lo.set | with_reducible apply Lo.self1 | with_reducible apply Lo.self2)); done) | (with_reducible apply Lo.ne'; (repeat (first | with_reducible assumption | with_reducible apply Lo.self | with_reducible apply Lo.new | with_reducible apply Lo.set | with_reducible apply Lo.self1 | with_reducible apply Lo.self2)); done) | (with_reducible apply Lo.ne1'; (repeat (first | with_reducible assumption | with_reducible apply Lo.self | with_reducible apply Lo.new | with_reducible apply Lo.set | with_reducible apply Lo.self1 | with_reducible apply Lo.self2)); done)); done))) | exact obj_here rfl)); (· exact rfl); (· exact rfl))
          | (apply op_at; (· exact rfl))
          | (apply dwp_cond_t; (· exact rfl); (· (first | with_reducible assumption | with_reducible rfl | decide)))
          | (apply dwp_cond_f; (· exact rfl); (· (first | with_reducible assumption | with_reducible rfl | decide)))
          | apply dwp_block
          | apply dwp_skip
          | apply dwp_ret
          | (refine ⟨_, rfl, ?_⟩)
          | fail)
        exact ⟨rfl, (((Above.refl _).new _).new _)⟩
      · have hz2 : (t.tmod 1000000000 == 0) = false := by
          have : t.tmod 1000000000 ≠ 0 := by omega
          simpa using this
        by_cases hd3 : t.natAbs % 1000000 = 0
        · have hz3 : (t.tmod 1000000 == 0) = true := by rw [hd3] at hm3; simp; omega
          have hpk : pickU t.natAbs = (1000000, [117, 115]) := by unfold pickU; rw [if_neg hn0, if_neg hd1, if_neg hd2, if_pos hd3]
          have ed : decF (t.tdiv 1000000) = sgnF t ++ decN (t.natAbs / 1000000) := decF_div (ps := 1000000) (by decide) hd3
          rw [hpk]
          dsimp only
          rw [← ed]
          refine enter rfl Tryd.func44 rfl Tryd.ntmps44 rfl ?_
          dsimp only [List.cons_append, List.nil_append, List.length_cons, List.length_nil, List.replicate_succ, List.replicate_zero, Nat.reduceAdd, Nat.reduceSub]
          repeat' (first
            | dsimp only [putD, DV.cells, DH.new_next, DH.set_next, List.length_cons, List.length_nil, Nat.reduceAdd, List.set_cons_zero, List.set_cons_succ, getD_zero, getD_succ, fieldAt_zero, fieldAt_succ, thenD, blockD, retR]
            | refine dwp_round ?_
            | apply dwp_seq
            | apply dwp_region
            | apply ops_nil
            | (apply ops_plain; (· exact rfl))
            | (apply ops_on; (· exact rfl); (· exact rfl); (· (first | with_reducible assumption | with_reducible rfl | decide)))
            | (apply op_call; (· exact rfl); (· exact rfl); (· exact rfl); (refine (may43 ft obj_here').mono ?_; rintro r H' ⟨rfl, rfl⟩))
            | (apply op_call; (· exact rfl); (· exact rfl); (· exact rfl); (refine (unit74 _ _).mono ?_; rintro r H' ⟨rfl, rfl⟩; first | rw [u1] | rw [u2] | rw [u3] | rw [u4]))
            | (apply op_call; (· exact rfl); (· exact rfl); (· exact rfl); (apply dig75_t; (· exact hb3)))
            | (apply op_pick_t; (· exact rfl); (· exact rfl); (· (first | with_reducible assumption | with_reducible rfl | decide)); (· exact rfl))
            | (apply op_at; (· exact opD_rem rfl rfl rfl (by decide) rfl))
            | (apply op_at; (· exact opD_quo rfl rfl rfl (by decide) hq3))
            | (apply op_at; (· exact opD_strAdd rfl rfl rfl (hll _ _ hb3 (by decide))))
            | (apply op_load_at; (· exact rfl); (· exact rfl); (· repeat (first | with_reducible assumption | (with_reducible apply obj_here; with_reducible rfl) | with_reducible apply obj_set | (with_reducible apply obj_skip_lo; (· ((repeat (first | with_reducible assumption | with_reducible apply Lo.self | with_reducible apply Lo.new | with_reducible apply Lo.set | with_reducible apply Lo.self1 | with_reducible apply Lo.self2)); done))) | (with_reducible apply obj_past; (· ((first | with_reducible assumption | with_reducible apply ne_add1 | with_reducible apply ne_add1' | with_reducible apply ne_add2 | with_reducible apply ne_add2' | with_reducible apply ne_add12 | with_reducible apply ne_add21 | (with_reducible apply Lo.ne; (repeat (first | with_reducible assumption | with_reducible apply Lo.self | with_reducible apply Lo.new | with_reducible apply Lo.set | with_reducible apply Lo.self1 | with_reducible apply Lo.self2)); done) | (with_reducible apply Lo.ne1; (repeat (first | with_reducible assumption | with_reducible apply Lo.self | with_reducible apply Lo.new | with_reducible apply Lo.set | with_reducible apply Lo.self1 | with_reducible apply Lo.self2)); done) | (with_reducible apply Lo.ne'; (repeat (first | with_reducible assumption | with_reducible apply Lo.self | with_reducible apply Lo.new | with_reducible apply Lo.set | with_reducible apply Lo.self1 | with_reducible apply Lo.self2)); done) | (with_reducible apply Lo.ne1'; (repeat (first | with_reducible assumption | with_reducible apply Lo.self | with_reducible apply Lo.new | with_reducible apply Lo.set | with_reducible apply Lo.self1 | with_reducible apply Lo.self2)); done)); done))) | exact obj_here rfl)); (· exact rfl); (· exact rfl))
            | (apply op_at; (· exact rfl))
            | (apply dwp_cond_t; (· exact rfl); (· (first | with_reducible assumption | with_reducible rfl | decide)))
            | (apply dwp_cond_f; (· exact rfl); (· (first | with_reducible assumption | with_reducible rfl | decide)))
            | apply dwp_block
            | apply dwp_skip
            | apply dwp_ret
            | (refine ⟨_, rfl, ?_⟩)
            | fail)
          exact ⟨rfl, (((Above.refl _).new _).new _)⟩
        · have hz3 : (t.tmod 1000000 == 0) = false := by
            have : t.tmod 1000000 ≠ 0 := by omega
            simpa using this
          by_cases hd4 : t.natAbs % 1000 = 0
          · have hz4 : (t.tmod 1000 == 0) = true := by rw [hd4] at hm4; simp; omega
            have hpk : pickU t.natAbs = (1000, [110, 115]) := by unfold pickU; rw [if_neg hn0, if_neg hd1, if_neg hd2, if_neg hd3, if_pos hd4]
            have ed : decF (t.tdiv 1000) = sgnF t ++ decN (t.natAbs / 1000) := decF_div (ps := 1000) (by decide) hd4
            rw [hpk]
            dsimp only
            rw [← ed]
            refine enter rfl Tryd.func44 rfl Tryd.ntmps44 rfl ?_
            dsimp only [List.cons_append, List.nil_append, List.length_cons, List.length_nil, List.replicate_succ, List.replicate_zero, Nat.reduceAdd, Nat.reduceSub]
            repeat' (first
              | dsimp only [putD, DV.cells, DH.new_next, DH.set_next, List.length_cons, List.length_nil, Nat.reduceAdd, List.set_cons_zero, List.set_cons_succ, getD_zero, getD_succ, fieldAt_zero, fieldAt_succ, thenD, blockD, retR]
              | refine dwp_round ?_
              | apply dwp_seq
              | apply dwp_region
              | apply ops_nil
              | (apply ops_plain; (· exact rfl))
              | (apply ops_on; (· exact rfl); (· exact rfl); (· (first | with_reducible assumption | with_reducible rfl | decide)))
              | (apply op_call; (· exact rfl); (· exact rfl); (· exact rfl); (refine (may43 ft obj_here').mono ?_; rintro r H' ⟨rfl, rfl⟩))
              | (apply op_call; (· exact rfl); (· exact rfl); (· exact rfl); (refine (unit74 _ _).mono ?_; rintro r H' ⟨rfl, rfl⟩; first | rw [u1] | rw [u2] | rw [u3] | rw [u4]))
              | (apply op_call; (· exact rfl); (· exact rfl); (· exact rfl); (apply dig75_t; (· exact hb4)))
              | (apply op_pick_t; (· exact rfl); (· exact rfl); (· (first | with_reducible assumption | with_reducible rfl | decide)); (· exact rfl))
              | (apply op_at; (· exact opD_rem rfl rfl rfl (by decide) rfl))
              | (apply op_at; (· exact opD_quo rfl rfl rfl (by decide) hq4))
              | (apply op_at; (· exact opD_strAdd rfl rfl rfl (hll _ _ hb4 (by decide))))
              | (apply op_load_at; (· exact rfl); (· exact rfl); (· repeat (first | with_reducible assumption | (with_reducible apply obj_here; with_reducible rfl) | with_reducible apply obj_set | (with_reducible apply obj_skip_lo; (· ((repeat (first | with_reducible assumption | with_reducible apply Lo.self | with_reducible apply Lo.new | with_reducible apply Lo.set | with_reducible apply Lo.self1 | with_reducible apply Lo.self2)); done))) | (with_reducible apply obj_past; (· ((first | with_reducible assumption | with_reducible apply ne_add1 | with_reducible apply ne_add1' | with_reducible apply ne_add2 | with_reducible apply ne_add2' | with_reducible apply ne_add12 | with_reducible apply ne_add21 | (with_reducible apply Lo.ne; (repeat (first | with_reducible assumption | with_reducible apply Lo.self | with_reducible apply Lo.new | with_reducible apply Lo.set | with_reducible apply Lo.self1 | with_reducible apply Lo.self2)); done) | (with_reducible apply Lo.ne1; (repeat (first | with_reducible assumption | with_reducible apply Lo.self | with_reducible apply Lo.new | with_reducible apply Lo.set | with_reducible apply Lo.self1 | with_reducible apply Lo.self2)); done) | (with_reducible apply Lo.ne'; (repeat (first | with_reducible assumption | with_reducible apply Lo.self | with_reducible apply Lo.new | with_reducible apply Lo.set | with_reducible apply Lo.self1 | with_reducible apply Lo.self2)); done) | (with_reducible apply Lo.ne1'; (repeat (first | with_reducible assumption | with_reducible apply Lo.self | with_reducible apply Lo.new | with_reducible apply Lo.set | with_reducible apply Lo.self1 | with_reducible apply Lo.self2)); done)); done))) | exact obj_here rfl)); (· exact rfl); (· exact rfl))
              | (apply op_at; (· exact rfl))
              | (apply dwp_cond_t; (· exact rfl); (· (first | with_reducible assumption | with_reducible rfl | decide)))
              | (apply dwp_cond_f; (· exact rfl); (· (first | with_reducible assumption | with_reducible rfl | decide)))
              | apply dwp_block
              | apply dwp_skip
              | apply dwp_ret
              | (refine ⟨_, rfl, ?_⟩)
              | fail)
            exact ⟨rfl, (((Above.refl _).new _).new _)⟩
          · have hz4 : (t.tmod 1000 == 0) = false := by
              have : t.tmod 1000 ≠ 0 := by omega
              simpa using this
            have hpk : pickU t.natAbs = (1, [112, 115]) := by unfold pickU; rw [if_neg hn0, if_neg hd1, if_neg hd2, if_neg hd3, if_neg hd4]
            have ed : decF t = sgnF t ++ decN (t.natAbs / 1) := by have := decF_div (t := t) (ps := 1) (by decide) (Nat.mod_one _); rw [show (((1 : Nat)) : Int) = 1 from rfl, Int.tdiv_one] at this; exact this
            rw [hpk]
            dsimp only
            rw [← ed]
            refine enter rfl Tryd.func44 rfl Tryd.ntmps44 rfl ?_
            dsimp only [List.cons_append, List.nil_append, List.length_cons, List.length_nil, List.replicate_succ, List.replicate_zero, Nat.reduceAdd, Nat.reduceSub]
            repeat' (first
              | dsimp only [putD, DV.cells, DH.new_next, DH.set_next, List.length_cons, List.length_nil, Nat.reduceAdd, List.set_cons_zero, List.set_cons_succ, getD_zero, getD_succ, fieldAt_zero, fieldAt_succ, thenD, blockD, retR]
              | refine dwp_round ?_
              | apply dwp_seq
              | apply dwp_region
              | apply ops_nil
              | (apply ops_plain; (· exact rfl))
              | (apply ops_on; (· exact rfl); (· exact rfl); (· (first | with_reducible assumption | with_reducible rfl | decide)))
              | (apply op_call; (· exact rfl); (· exact rfl); (· exact rfl); (refine (may43 ft obj_here').mono ?_; rintro r H' ⟨rfl, rfl⟩))
              | (apply op_call; (· exact rfl); (· exact rfl); (· exact rfl); (refine (unit74 _ _).mono ?_; rintro r H' ⟨rfl, rfl⟩; first | rw [u1] | rw [u2] | rw [u3] | rw [u4]))
              | (apply op_call; (· exact rfl); (· exact rfl); (· exact rfl); (apply dig75_t; (· exact ht)))
              | (apply op_pick_t; (· exact rfl); (· exact rfl); (· (first | with_reducible assumption | with_reducible rfl | decide)); (· exact rfl))
              | (apply op_at; (· exact opD_rem rfl rfl rfl (by decide) rfl))
              | (apply op_at; (· exact opD_strAdd rfl rfl rfl (hll _ _ ht (by decide))))
              | (apply op_load_at; (· exact rfl); (· exact rfl); (· repeat (first | with_reducible assumption | (with_reducible apply obj_here; with_reducible rfl) | with_reducible apply obj_set | (with_reducible apply obj_skip_lo; (· ((repeat (first | with_reducible assumption | with_reducible apply Lo.self | with_reducible apply Lo.new | with_reducible apply Lo.set | with_reducible apply Lo.self1 | with_reducible apply Lo.self2)); done))) | (with_reducible apply obj_past; (· ((first | with_reducible assumption | with_reducible apply ne_add1 | with_reducible apply ne_add1' | with_reducible apply ne_add2 | with_reducible apply ne_add2' | with_reducible apply ne_add12 | with_reducible apply ne_add21 | (with_reducible apply Lo.ne; (repeat (first | with_reducible assumption | with_reducible apply Lo.self | with_reducible apply Lo.new | with_reducible apply Lo.set | with_reducible apply Lo.self1 | with_reducible apply Lo.self2)); done) | (with_reducible apply Lo.ne1; (repeat (first | with_reducible assumption | with_reducible apply Lo.self | with_reducible apply Lo.new | with_reducible apply Lo.set | with_reducible apply Lo.self1 | with_reducible apply Lo.self2)); done) | (with_reducible apply Lo.ne'; (repeat (first | with_reducible assumption | with_reducible apply Lo.self | with_reducible apply Lo.new | with_reducible apply Lo.set | with_reducible apply Lo.self1 | with_reducible apply Lo.self2)); done) | (with_reducible apply Lo.ne1'; (repeat (first | with_reducible assumption | with_reducible apply Lo.self | with_reducible apply Lo.new | with_reducible apply Lo.set | with_reducible apply Lo.self1 | with_reducible apply Lo.self2)); done)); done))) | exact obj_here rfl)); (· exact rfl); (· exact rfl))
              | (apply op_at; (· exact rfl))
              | (apply dwp_cond_t; (· exact rfl); (· (first | with_reducible assumption | with_reducible rfl | decide)))
              | (apply dwp_cond_f; (· exact rfl); (· (first | with_reducible assumption | with_reducible rfl | decide)))
              | apply dwp_block
              | apply dwp_skip
              | apply dwp_ret
              | apply dwp_exit
              | (refine ⟨_, rfl, ?_⟩)
              | fail)
            exact ⟨rfl, (((Above.refl _).new _).new _)⟩
end Go.Det.C
