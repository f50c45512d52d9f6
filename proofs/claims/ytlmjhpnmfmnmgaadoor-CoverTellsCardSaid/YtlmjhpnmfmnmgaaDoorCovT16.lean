/- The references' Digits. -/
import Derived.Tactics
import Derived.Tactics2
import Derived.WalkKit
import Derived.WalkSpells
import Derived.StillTactics
import Derived.Laws.Pointers
import Derived.Laws.BytesString
import Derived.Laws.NewBlocks
import Derived.Laws.IdiomStrings
import Derived.Laws.Concat
import Derived.Deep.RegionHeld3
import Derived.Deep.RegionWith
import Derived.KernelRfl
import Derived.Below
import Derived.RowKit
import Derived.Shelf.Abstract
import Derived.Test.YtlmjhpnmfmnmgaaDoorCovT15
namespace Go.Det.C
open Go Go.Det Go.Proofs Go.RowKit
set_option maxRecDepth 100000
set_option maxHeartbeats 8000000
set_option linter.unusedVariables false
set_option linter.unusedSimpArgs false
theorem conv1 (w : World) (b : Nat) (v : Int) (h : w.cell? ⟨b, 0, none⟩ = some (.int .u8 v)) : (convert 68 9 (.slice (some ⟨b, 0, none⟩) 1 1)).run Tryd.prog w = .ok (.string ⟨#[UInt8.ofNat v.toNat]⟩) w := by
  rw [run_convert_bytes_string w 68 9 5 _ _ _ Tryd.underlying68 Tryd.underlying5 Tryd.underlying9]
  have hload : (loadCells ⟨b, 0, none⟩ 1).run Tryd.prog w = .ok ([v].map (Value.int .u8)).toArray w := by
    exact run_loadCells_list (P := Tryd.prog) w ⟨b, 0, none⟩ [Value.int .u8 v] (by
      intro i x hi
      match i, hi with
      | 0, hi => cases hi; exact h
      | i + 1, hi => cases hi)
  have h2 := run_bytesToString w ⟨b, 0, none⟩ 1 1 [v] hload
  exact h2
theorem cell_alloc5 (w : World) (v : Value) : (w.alloc (Obj.cells #[v] 5)).cell? ⟨w.heap.size, 0, none⟩ = some v := by
  rw [World.cell?_alloc_at _ _ _ _ rfl]; rfl
theorem cell_below {B : Nat} {w w' : World} (h : Below B w w') {b o : Nat} {v : Value} (hb : b < B) (hc : w.cell? ⟨b, o, none⟩ = some v) : w'.cell? ⟨b, o, none⟩ = some v := by
  unfold World.cell? at hc ⊢
  simp only at hc ⊢
  rw [h.block b hb]
  exact hc
theorem below_drew {w w' : World} (h : Below w.drew.heap.size w.drew w') : Below w.heap.size w w' := ⟨h.os, h.tape, h.output, h.size, h.block⟩
theorem below_alloc_drew {w w' : World} {o : Obj} (h : Below (w.alloc o).drew.heap.size (w.alloc o).drew w') : Below w.heap.size w w' :=
  ((Below.refl _ w).alloc (Nat.le_refl _) o).trans ((below_drew h).mono (by show w.heap.size ≤ (w.heap.push o).size; rw [Array.size_push]; omega))
theorem ba_app (a b : List UInt8) : (⟨a.toArray⟩ : ByteArray) ++ ⟨b.toArray⟩ = ⟨(a ++ b).toArray⟩ := by
  apply ByteArray.ext
  rw [ByteArray.data_append]
  simp
theorem decN_append {m : Nat} (h : ¬ m < 10) {x : Int} (hx : x = 48 + ((m % 10 : Nat) : Int)) : (⟨(decN (m / 10)).toArray⟩ : ByteArray) ++ ⟨#[UInt8.ofNat x.toNat]⟩ = ⟨(decN m).toArray⟩ := by
  have e : x.toNat = 48 + m % 10 := by omega
  rw [decN_ge h, e]
  exact ba_app _ [UInt8.ofNat (48 + m % 10)]
theorem dig46_big (n : Int) (D : ByteArray) (hD : D.size ≤ 1000) (h1 : decide (n < 0) = false) (h2 : decide (n < 10) = false) (w : World) (ih : ∀ w, Calls Tryd.prog 46 #[.int .i64 (IntKind.i64.wrap (n.tdiv 10))] w fun e w' => e = .returned (.string D) ∧ Below w.heap.size w w') :
    Calls Tryd.prog 46 #[.int .i64 n] w fun e w' => e = .returned (.string (D ++ ⟨#[UInt8.ofNat (IntKind.u8.wrap (48 + IntKind.u8.wrap (n.tmod 10))).toNat]⟩)) ∧ Below w.heap.size w w' := by
  have ef : ∀ args w, (callFunc 46 args).run Tryd.prog w = .ok (.enter 46 args) w := enters_of Tryd.func46 (by kernel_rfl) rfl
  have hconv := conv1
  obtain ⟨x, hx⟩ : ∃ x, IntKind.u8.wrap (48 + IntKind.u8.wrap (n.tmod 10)) = x := ⟨_, rfl⟩
  rw [hx]
  have hcc := cell_alloc5
  have hsz : ¬ (D.size + (⟨#[UInt8.ofNat x.toNat]⟩ : ByteArray).size > 9223372036854775807) := by show ¬ (D.size + 1 > _); omega
  have hsz2 : ¬ (9223372036854775807 < D.size + 1) := by omega
  clear hD
  go_enter Tryd.func46, Tryd.ntmps46
  go_wp
  go_region_with (first | (go_at_call 46; refine (ih _).mono ?_; rintro e w' ⟨rfl, hb⟩; try (have hk := cell_below hb (by simp) (hcc _ _))))
  all_goals go_wp
  all_goals go_ret
  all_goals refine ⟨rfl, ?_⟩
  all_goals first | exact below_alloc_drew hb | exact (below_drew hb).alloc (by have := hb.size; exact this) _
theorem dig46_small (n : Int) (h1 : decide (n < 0) = false) (h2 : decide (n < 10) = true) (w : World) : Calls Tryd.prog 46 #[.int .i64 n] w fun e w' => e = .returned (.string ⟨#[UInt8.ofNat ((48 + n) % 256).toNat]⟩) ∧ Below w.heap.size w w' := by
  have hconv := conv1
  have hcc := cell_alloc5
  go_enter Tryd.func46, Tryd.ntmps46
  go_wp
  go_ret
  exact ⟨rfl, (Below.refl _ w).alloc (Nat.le_refl _) _⟩
theorem dig46_neg (n : Int) (D : ByteArray) (hD : D.size ≤ 1000) (h1 : decide (n < 0) = true) (w : World) (ih : ∀ w, Calls Tryd.prog 46 #[.int .i64 (wrap64 (-n))] w fun e w' => e = .returned (.string D) ∧ Below w.heap.size w w') :
    Calls Tryd.prog 46 #[.int .i64 n] w fun e w' => e = .returned (.string (⟨#[45]⟩ ++ D)) ∧ Below w.heap.size w w' := by
  have ef : ∀ args w, (callFunc 46 args).run Tryd.prog w = .ok (.enter 46 args) w := enters_of Tryd.func46 (by kernel_rfl) rfl
  have hsz : ¬ ((⟨#[45]⟩ : ByteArray).size + D.size > 9223372036854775807) := by show ¬ (1 + D.size > _); omega
  have hsz2 : ¬ (9223372036854775807 < 1 + D.size) := by omega
  clear hD
  go_enter Tryd.func46, Tryd.ntmps46
  go_wp
  refine (ih _).mono ?_
  rintro e w' ⟨rfl, hb⟩
  dsimp only
  go_wp2
  go_ret
  exact ⟨rfl, hb⟩
theorem dig46_nat : ∀ (k m : Nat), m ≤ k → m < 1152921504606846977 → ∀ w, Calls Tryd.prog 46 #[.int .i64 (m : Int)] w fun e w' => e = .returned (.string ⟨(decN m).toArray⟩) ∧ Below w.heap.size w w' := by
  intro k
  induction k with
  | zero =>
    intro m hm _ w
    obtain rfl : m = 0 := by omega
    refine (dig46_small ((0 : Nat) : Int) rfl rfl w).mono ?_
    rintro e w' ⟨rfl, hb⟩
    exact ⟨by rw [decN_lt (by decide)]; rfl, hb⟩
  | succ k ih =>
    intro m hm hlt w
    by_cases h : m < 10
    · refine (dig46_small (m : Int) (by simp) (by simp; omega) w).mono ?_
      rintro e w' ⟨rfl, hb⟩
      refine ⟨?_, hb⟩
      rw [decN_lt h, show ((48 + (m : Int)) % 256).toNat = 48 + m by omega]
    · have hq : IntKind.i64.wrap ((m : Int).tdiv 10) = ((m / 10 : Nat) : Int) := by rw [Int.tdiv_eq_ediv_of_nonneg (by omega), wrapI (by omega)]; omega
      have hr : (m : Int).tmod 10 = ((m % 10 : Nat) : Int) := by rw [Int.tmod_eq_emod_of_nonneg (by omega)]; omega
      have hx : IntKind.u8.wrap (48 + IntKind.u8.wrap ((m : Int).tmod 10)) = 48 + ((m % 10 : Nat) : Int) := by rw [hr, wrapB (n := ((m % 10 : Nat) : Int)) (by omega), wrapB (by omega)]
      have hl := decN_len 18 (m / 10) (by omega)
      refine (dig46_big (m : Int) ⟨(decN (m / 10)).toArray⟩ (by show (decN (m / 10)).length ≤ 1000; omega) (by simp) (by simp; omega) w (fun w => by rw [hq]; exact ih (m / 10) (by omega) (by omega) w)).mono ?_
      rintro e w' ⟨rfl, hb⟩
      exact ⟨by rw [decN_append h hx], hb⟩
theorem dig46 {n : Int} (hn : -1152921504606846977 < n ∧ n < 1152921504606846977) (w : World) : Calls Tryd.prog 46 #[.int .i64 n] w fun e w' => e = .returned (.string ⟨(decF n).toArray⟩) ∧ Below w.heap.size w w' := by
  unfold decF
  by_cases h : n < 0
  · rw [if_pos h]
    have hl := decN_len 18 n.natAbs (by omega)
    have hw : wrap64 (-n) = (n.natAbs : Int) := by unfold wrap64; omega
    refine (dig46_neg n ⟨(decN n.natAbs).toArray⟩ (by show (decN n.natAbs).length ≤ 1000; omega) (by simpa using h) w (fun w => by rw [hw]; exact dig46_nat _ _ (Nat.le_refl _) (by omega) w)).mono ?_
    rintro e w' ⟨rfl, hb⟩
    exact ⟨congrArg (fun b => Ending.returned (Value.string b)) (ba_app [45] _), hb⟩
  · rw [if_neg h]
    have e : n = (n.natAbs : Int) := by omega
    rw [e]
    have := dig46_nat _ n.natAbs (Nat.le_refl _) (by omega) w
    exact this
theorem dig75_big (n : Int) (D : ByteArray) (hD : D.size ≤ 1000) (h1 : decide (n < 0) = false) (h2 : decide (n < 10) = false) (w : World) (ih : ∀ w, Calls Tryd.prog 75 #[.int .i64 (IntKind.i64.wrap (n.tdiv 10))] w fun e w' => e = .returned (.string D) ∧ Below w.heap.size w w') :
    Calls Tryd.prog 75 #[.int .i64 n] w fun e w' => e = .returned (.string (D ++ ⟨#[UInt8.ofNat (IntKind.u8.wrap (48 + IntKind.u8.wrap (n.tmod 10))).toNat]⟩)) ∧ Below w.heap.size w w' := by
  have ef : ∀ args w, (callFunc 75 args).run Tryd.prog w = .ok (.enter 75 args) w := enters_of Tryd.func75 (by kernel_rfl) rfl
  have hconv := conv1
  obtain ⟨x, hx⟩ : ∃ x, IntKind.u8.wrap (48 + IntKind.u8.wrap (n.tmod 10)) = x := ⟨_, rfl⟩
  rw [hx]
  have hcc := cell_alloc5
  have hsz : ¬ (D.size + (⟨#[UInt8.ofNat x.toNat]⟩ : ByteArray).size > 9223372036854775807) := by show ¬ (D.size + 1 > _); omega
  have hsz2 : ¬ (9223372036854775807 < D.size + 1) := by omega
  clear hD
  go_enter Tryd.func75, Tryd.ntmps75
  go_wp
  go_region_with (first | (go_at_call 75; refine (ih _).mono ?_; rintro e w' ⟨rfl, hb⟩; try (have hk := cell_below hb (by simp) (hcc _ _))))
  all_goals go_wp
  all_goals go_ret
  all_goals refine ⟨rfl, ?_⟩
  all_goals first | exact below_alloc_drew hb | exact (below_drew hb).alloc (by have := hb.size; exact this) _
theorem dig75_small (n : Int) (h1 : decide (n < 0) = false) (h2 : decide (n < 10) = true) (w : World) : Calls Tryd.prog 75 #[.int .i64 n] w fun e w' => e = .returned (.string ⟨#[UInt8.ofNat ((48 + n) % 256).toNat]⟩) ∧ Below w.heap.size w w' := by
  have hconv := conv1
  have hcc := cell_alloc5
  go_enter Tryd.func75, Tryd.ntmps75
  go_wp
  go_ret
  exact ⟨rfl, (Below.refl _ w).alloc (Nat.le_refl _) _⟩
theorem dig75_neg (n : Int) (D : ByteArray) (hD : D.size ≤ 1000) (h1 : decide (n < 0) = true) (w : World) (ih : ∀ w, Calls Tryd.prog 75 #[.int .i64 (wrap64 (-n))] w fun e w' => e = .returned (.string D) ∧ Below w.heap.size w w') :
    Calls Tryd.prog 75 #[.int .i64 n] w fun e w' => e = .returned (.string (⟨#[45]⟩ ++ D)) ∧ Below w.heap.size w w' := by
  have ef : ∀ args w, (callFunc 75 args).run Tryd.prog w = .ok (.enter 75 args) w := enters_of Tryd.func75 (by kernel_rfl) rfl
  have hsz : ¬ ((⟨#[45]⟩ : ByteArray).size + D.size > 9223372036854775807) := by show ¬ (1 + D.size > _); omega
  have hsz2 : ¬ (9223372036854775807 < 1 + D.size) := by omega
  clear hD
  go_enter Tryd.func75, Tryd.ntmps75
  go_wp
  refine (ih _).mono ?_
  rintro e w' ⟨rfl, hb⟩
  dsimp only
  go_wp2
  go_ret
  exact ⟨rfl, hb⟩
theorem dig75_nat : ∀ (k m : Nat), m ≤ k → m < 1152921504606846977 → ∀ w, Calls Tryd.prog 75 #[.int .i64 (m : Int)] w fun e w' => e = .returned (.string ⟨(decN m).toArray⟩) ∧ Below w.heap.size w w' := by
  intro k
  induction k with
  | zero =>
    intro m hm _ w
    obtain rfl : m = 0 := by omega
    refine (dig75_small ((0 : Nat) : Int) rfl rfl w).mono ?_
    rintro e w' ⟨rfl, hb⟩
    exact ⟨by rw [decN_lt (by decide)]; rfl, hb⟩
  | succ k ih =>
    intro m hm hlt w
    by_cases h : m < 10
    · refine (dig75_small (m : Int) (by simp) (by simp; omega) w).mono ?_
      rintro e w' ⟨rfl, hb⟩
      refine ⟨?_, hb⟩
      rw [decN_lt h, show ((48 + (m : Int)) % 256).toNat = 48 + m by omega]
    · have hq : IntKind.i64.wrap ((m : Int).tdiv 10) = ((m / 10 : Nat) : Int) := by rw [Int.tdiv_eq_ediv_of_nonneg (by omega), wrapI (by omega)]; omega
      have hr : (m : Int).tmod 10 = ((m % 10 : Nat) : Int) := by rw [Int.tmod_eq_emod_of_nonneg (by omega)]; omega
      have hx : IntKind.u8.wrap (48 + IntKind.u8.wrap ((m : Int).tmod 10)) = 48 + ((m % 10 : Nat) : Int) := by rw [hr, wrapB (n := ((m % 10 : Nat) : Int)) (by omega), wrapB (by omega)]
      have hl := decN_len 18 (m / 10) (by omega)
      refine (dig75_big (m : Int) ⟨(decN (m / 10)).toArray⟩ (by show (decN (m / 10)).length ≤ 1000; omega) (by simp) (by simp; omega) w (fun w => by rw [hq]; exact ih (m / 10) (by omega) (by omega) w)).mono ?_
      rintro e w' ⟨rfl, hb⟩
      exact ⟨by rw [decN_append h hx], hb⟩
theorem dig75 {n : Int} (hn : -1152921504606846977 < n ∧ n < 1152921504606846977) (w : World) : Calls Tryd.prog 75 #[.int .i64 n] w fun e w' => e = .returned (.string ⟨(decF n).toArray⟩) ∧ Below w.heap.size w w' := by
  unfold decF
  by_cases h : n < 0
  · rw [if_pos h]
    have hl := decN_len 18 n.natAbs (by omega)
    have hw : wrap64 (-n) = (n.natAbs : Int) := by unfold wrap64; omega
    refine (dig75_neg n ⟨(decN n.natAbs).toArray⟩ (by show (decN n.natAbs).length ≤ 1000; omega) (by simpa using h) w (fun w => by rw [hw]; exact dig75_nat _ _ (Nat.le_refl _) (by omega) w)).mono ?_
    rintro e w' ⟨rfl, hb⟩
    exact ⟨congrArg (fun b => Ending.returned (Value.string b)) (ba_app [45] _), hb⟩
  · rw [if_neg h]
    have e : n = (n.natAbs : Int) := by omega
    rw [e]
    have := dig75_nat _ n.natAbs (Nat.le_refl _) (by omega) w
    exact this
def gDig : G := fun args H => match args with
  | [.int .i64 n] => if -1152921504606846977 < n ∧ n < 1152921504606846977 then some (.str (decF n), H) else none
  | _ => none
theorem dig46_ok : ExtSound Tryd.prog gDig 46 := by
  intro args H r H' h ρ w vs ha hv
  unfold gDig at h
  split at h
  · rename_i n
    split at h
    · rename_i hp
      cases h
      simp only [VRs] at hv
      obtain ⟨v, r1, e1, h1, e3⟩ := hv
      subst e3
      simp only [VR] at h1
      have hvs : vs = #[v] := by rw [← Array.toArray_toList (xs := vs), e1]
      subst h1 hvs
      refine callOk_of_calls Tryd.func46 (by kernel_rfl) rfl ((dig46 hp w).mono fun e w' he => ?_)
      obtain ⟨rfl, hb⟩ := he
      exact ⟨ρ, VR_str_iff.mpr rfl, moves_below ha hb⟩
    · cases h
  · cases h
theorem dig75_ok : ExtSound Tryd.prog gDig 75 := by
  intro args H r H' h ρ w vs ha hv
  unfold gDig at h
  split at h
  · rename_i n
    split at h
    · rename_i hp
      cases h
      simp only [VRs] at hv
      obtain ⟨v, r1, e1, h1, e3⟩ := hv
      subst e3
      simp only [VR] at h1
      have hvs : vs = #[v] := by rw [← Array.toArray_toList (xs := vs), e1]
      subst h1 hvs
      refine callOk_of_calls Tryd.func75 (by kernel_rfl) rfl ((dig75 hp w).mono fun e w' he => ?_)
      obtain ⟨rfl, hb⟩ := he
      exact ⟨ρ, VR_str_iff.mpr rfl, moves_below ha hb⟩
    · cases h
  · cases h
/-! ### numbers' texts by the library -/
def PowO (o0 o1 : Obj) : Prop := ∃ T fr, o0 = .cells (Lib.pow10Tab.map fun z => Value.int .u64 z).toArray T fr
theorem pow_tab {H : DH} (h : Pins 2 0 PowO H) {ρ : Rho} {w : World} (ha : Agree ρ H w) : Lib.TabIs Tryd.prog w "internal/strconv.uint64pow10" .u64 Lib.pow10Tab := by
  obtain ⟨o0, o1, h0, h1, T, fr, rfl⟩ := h
  obtain ⟨p0, _, hb0, e0⟩ := ha.obj 0 _ h0
  rw [e0] at hb0
  unfold Lib.TabIs World.var?
  rw [show Tryd.prog.globalNamed "internal/strconv.uint64pow10" = some 2 by kernel_rfl]
  simp only [Option.bind_some, hb0]
theorem pow_laid {w : World} (h : Lib.TabIs Tryd.prog w "internal/strconv.uint64pow10" .u64 Lib.pow10Tab) : ∃ o0 o1, w.heap[2]? = some o0 ∧ w.heap[0]? = some o1 ∧ PowO o0 o1 := by
  unfold Lib.TabIs World.var? at h
  rw [show Tryd.prog.globalNamed "internal/strconv.uint64pow10" = some 2 by kernel_rfl] at h
  simp only [Option.bind_some] at h
  cases hb : w.heap[2]? with
  | none => rw [hb] at h; cases h
  | some o =>
    rw [hb] at h
    have hlt := (Array.getElem?_eq_some_iff.mp hb).1
    cases o with
    | cells cs T fr =>
      simp only [Option.some.injEq] at h
      subst h
      exact ⟨_, w.heap[0], rfl, Array.getElem?_eq_getElem (by omega), T, fr, rfl⟩
    | _ => cases h
theorem itoa_decF (n : Int) : Lib.itoa n = decF n := by
  unfold Lib.itoa decF
  by_cases h : n < 0
  · rw [if_pos h, if_pos h, decN_decDigits]
  · rw [if_neg h, if_neg h, decN_decDigits, show n.toNat = n.natAbs by omega]
open Classical in
noncomputable def gItoaP : G := fun args H => match args with
  | [.int .i64 n] => if Pins 2 0 PowO H ∧ (0 ≤ n ∧ n < 1000000000) then some (.str (decF n), H) else none
  | _ => none
theorem itoaP41_ok : ExtSound Tryd.prog gItoaP 41 := by
  intro args H r H' h ρ w vs ha hv
  unfold gItoaP at h
  split at h
  · rename_i n
    split at h
    · rename_i hp
      obtain ⟨hp, hn⟩ := hp
      cases h
      simp only [VRs] at hv
      obtain ⟨v, r1, e1, h1, e3⟩ := hv
      subst e3
      simp only [VR] at h1
      have hvs : vs = #[v] := by rw [← Array.toArray_toList (xs := vs), e1]
      subst h1 hvs
      have hc := Any.strconv_Itoa (ρ := Tryd.lays171_ren) Tryd.lays171 n (by omega) (by omega) w (pow_tab hp ha)
      refine callOk_of_calls Tryd.func41 (by kernel_rfl) rfl (Calls.mono (P := Tryd.prog) (f := 41) hc ?_)
      rintro e w' ⟨rfl, k, os, rfl⟩
      exact ⟨ρ, VR_str_iff.mpr (by rw [itoa_decF]), moves_below ha ⟨rfl, rfl, rfl, (by show w.heap.size ≤ (w.heap ++ os).size; rw [Array.size_append]; omega), fun j hj => (by show (w.heap ++ os)[j]? = w.heap[j]?; rw [Array.getElem?_append, if_pos hj])⟩⟩
    · cases h
  · cases h
def L10 : List FuncId := 18 :: 11 :: L
theorem okL10 : L10.all (fun f => okB Tryd.prog f || [84].contains f) = true := by kernel_rfl
noncomputable def E10 : List (FuncId × G) := [(38, gWrite), (42, gStr), (41, gItoaP), (46, gDig), (75, gDig), (22, gLive), (106, gSet), (71, gUnits)]
theorem okE10 : ∀ f g, (f, g) ∈ E10 → ExtSound Tryd.prog g f := by
  intro f g h
  simp only [E10, List.mem_cons, List.not_mem_nil, or_false, Prod.mk.injEq] at h
  rcases h with ⟨rfl, rfl⟩ | ⟨rfl, rfl⟩ | ⟨rfl, rfl⟩ | ⟨rfl, rfl⟩ | ⟨rfl, rfl⟩ | ⟨rfl, rfl⟩ | ⟨rfl, rfl⟩ | ⟨rfl, rfl⟩
  · exact write38_ok
  · exact string42_ok
  · exact itoaP41_ok
  · exact dig46_ok
  · exact dig75_ok
  · exact live22_ok
  · exact set106_ok
  · exact units71_ok
noncomputable def X10 : Ext := Xof L10 E10
theorem ok10 : ProgOk Tryd.prog X10 := progOk_of2 mixed okL10 add_code okE10
theorem up310 : ExtLe X3 X10 := extLe_more (M := [18, 11]) (T := [(38, gWrite), (42, gStr), (41, gItoaP), (46, gDig), (75, gDig)]) (E := E3) (by decide +kernel)
theorem itoa10 {n : Int} {H : DH} (hp : Pins 2 0 PowO H) (h0 : 0 ≤ n) (h1 : n < 1000000000) : CallWp Tryd.prog X10 41 [.int .i64 n] H (fun r H2 => r = .str (decF n) ∧ H2 = H) :=
  call_table (g := gItoaP) rfl (r := .str (decF n)) (H' := H) (by simp only [gItoaP]; rw [if_pos ⟨hp, h0, h1⟩]) ⟨rfl, rfl⟩
theorem dig46_t {n : Int} (hn : -1152921504606846977 < n ∧ n < 1152921504606846977) {H : DH} {K : DV → DH → Prop} (hK : K (.str (decF n)) H) : CallWp Tryd.prog X10 46 [.int .i64 n] H K :=
  call_table (g := gDig) rfl (by simp only [gDig]; rw [if_pos hn]) hK
theorem dig75_t {n : Int} (hn : -1152921504606846977 < n ∧ n < 1152921504606846977) {H : DH} {K : DV → DH → Prop} (hK : K (.str (decF n)) H) : CallWp Tryd.prog X10 75 [.int .i64 n] H K :=
  call_table (g := gDig) rfl (by simp only [gDig]; rw [if_pos hn]) hK
theorem pins_up {A H : DH} {g0 g1 : Nat} {T : Obj → Obj → Prop} (hwf : WF A) (h : Pins g0 g1 T A) (ha : Above A H) : Pins g0 g1 T H := by
  obtain ⟨o0, o1, h0, h1, ht⟩ := h
  exact ⟨o0, o1, ha.obj (hwf _ _ h0) h0, ha.obj (hwf _ _ h1) h1, ht⟩
end Go.Det.C

/- The references' words and texts. -/
namespace Go.Det.C
open Go Go.Det Go.Proofs
set_option maxRecDepth 4000
set_option maxHeartbeats 4000000
set_option linter.unusedVariables false
set_option linter.unusedSimpArgs false
theorem unit74 (s : List UInt8) (H : DH) : CallWp Tryd.prog X10 74 [.str s] H (fun r H' => r = .tuple [.int .i64 (unitN s), .bool (unitF s).isSome] ∧ H' = H) := by
  refine enter rfl Tryd.func74 rfl Tryd.ntmps74 rfl ?_
  dsimp only [List.cons_append, List.nil_append, List.length_cons, List.length_nil, List.replicate_succ, List.replicate_zero, Nat.reduceAdd, Nat.reduceSub]
  repeat' (first | dsimp only [putD, DV.cells, DH.new_next, DH.set_next, List.length_cons, List.length_nil, Nat.reduceAdd, List.set_cons_zero, List.set_cons_succ, getD_zero, getD_succ, fieldAt_zero, fieldAt_succ, thenD, blockD, retR] | apply dwp_seq | apply dwp_region | apply ops_nil | (apply ops_plain; (· exact rfl)) | (apply op_at; (· exact rfl)) | (refine dwp_cond rfl ?_ ?_ <;> intro hb) | apply dwp_block | apply dwp_skip | apply dwp_ret | (refine ⟨_, rfl, ?_⟩) | fail)
  all_goals first
    | (simp only [beq_iff_eq] at hb; subst hb; exact ⟨rfl, rfl⟩)
    | (have e : unitF s = none := by
         unfold unitF
         rw [if_neg (fun e => by subst e; contradiction), if_neg (fun e => by subst e; contradiction), if_neg (fun e => by subst e; contradiction), if_neg (fun e => by subst e; contradiction), if_neg (fun e => by subst e; contradiction)]
       unfold unitN
       rw [e]
       exact ⟨rfl, rfl⟩)
theorem may43 {t : Int} (ht : Fit t) {b : Nat} {H : DH} (ho : H.obj b = some (.rows false 1 [[.int .i64 t]])) : CallWp Tryd.prog X10 43 [.sl (some (b, 0, 1)) 1 1 true] H (fun r H' => r = .bool true ∧ H' = H) := by
  have h1 : decide (t > 1152921504606846976) = false := by unfold Fit at ht; simp; omega
  have h2 : decide (t < -1152921504606846976) = false := by unfold Fit at ht; simp; omega
  refine enter rfl Tryd.func43 rfl Tryd.ntmps43 rfl ?_
  dsimp only [List.cons_append, List.nil_append, List.length_cons, List.length_nil, List.replicate_succ, List.replicate_zero, Nat.reduceAdd, Nat.reduceSub]
  repeat' (first | dsimp only [putD, DV.cells, DH.new_next, DH.set_next, List.length_cons, List.length_nil, Nat.reduceAdd, List.set_cons_zero, List.set_cons_succ, getD_zero, getD_succ, fieldAt_zero, fieldAt_succ, thenD, blockD, retR] | refine dwp_round ?_ | apply dwp_seq | apply dwp_region | apply ops_nil | (apply ops_plain; (· exact rfl)) | (apply ops_on; (· exact rfl); (· exact rfl); (· (with_reducible first | assumption | rfl | decide))) | (apply op_pick_f; (· exact rfl); (· exact rfl); (· (with_reducible first | assumption | rfl | decide)); (· exact rfl)) | (apply op_load_at; (· exact rfl); (· exact rfl); (· exact ho); (· exact rfl); (· exact rfl)) | (apply op_at; (· exact rfl)) | (apply dwp_cond_t; (· exact rfl); (· (with_reducible first | assumption | rfl | decide))) | (apply dwp_cond_f; (· exact rfl); (· (with_reducible first | assumption | rfl | decide))) | apply dwp_block | apply dwp_skip | apply dwp_ret | apply dwp_exit | (refine ⟨_, rfl, ?_⟩) | fail)
  exact ⟨rfl, rfl⟩
theorem tdiv_bound (t p : Int) : (t.tdiv p).natAbs ≤ t.natAbs := by rw [Int.natAbs_tdiv]; exact Nat.div_le_self _ _
theorem decF_div {t : Int} {ps : Nat} (hp : 0 < ps) (hd : t.natAbs % ps = 0) : decF (t.tdiv (ps : Int)) = sgnF t ++ decN (t.natAbs / ps) := by
  have hn : (t.tdiv (ps : Int)).natAbs = t.natAbs / ps := by rw [Int.natAbs_tdiv]; rfl
  unfold decF sgnF
  rw [hn]
  by_cases h : t < 0
  · have hneg : t.tdiv (ps : Int) < 0 := by
      have h1 : 0 < t.natAbs / ps := Nat.div_pos (Nat.le_of_dvd (by omega) (Nat.dvd_of_mod_eq_zero hd)) hp
      have h2 : t.tdiv (ps : Int) ≤ 0 := by
        have h3 := Int.tdiv_nonneg (a := -t) (b := (ps : Int)) (by omega) (by omega)
        rw [Int.neg_tdiv] at h3
        omega
      omega
    rw [if_pos hneg, if_pos h]; rfl
  · have hpos : ¬ t.tdiv (ps : Int) < 0 := by
      have := Int.tdiv_nonneg (a := t) (b := (ps : Int)) (by omega) (by omega)
      omega
    rw [if_neg hpos, if_neg h]; rfl
theorem ptext44 {t : Int} (ht : -1152921504606846977 < t ∧ t < 1152921504606846977) (H : DH) : CallWp Tryd.prog X10 44 [.int .i64 t] H (fun r H' => r = .tuple [.str (ptextF t), .int .i64 0] ∧ Above H H') := by
  have ft : Fit t := by unfold Fit; omega
  have u1 : unitN [115] = 1000000000000 := rfl
  have hq1 : IntKind.i64.wrap (t.tdiv 1000000000000) = t.tdiv 1000000000000 := wrapI (by have := tdiv_bound t 1000000000000; omega)
  have hb1 : -1152921504606846977 < t.tdiv 1000000000000 ∧ t.tdiv 1000000000000 < 1152921504606846977 := by have := tdiv_bound t 1000000000000; omega
  have hm1 : (t.tmod 1000000000000).natAbs = t.natAbs % 1000000000000 := by rw [Int.natAbs_tmod]; rfl
  have u2 : unitN [109, 115] = 1000000000 := rfl
  have hq2 : IntKind.i64.wrap (t.tdiv 1000000000) = t.tdiv 1000000000 := wrapI (by have := tdiv_bound t 1000000000; omega)
  have hb2 : -1152921504606846977 < t.tdiv 1000000000 ∧ t.tdiv 1000000000 < 1152921504606846977 := by have := tdiv_bound t 1000000000; omega
  have hm2 : (t.tmod 1000000000).natAbs = t.natAbs % 1000000000 := by rw [Int.natAbs_tmod]; rfl
  have u3 : unitN [117, 115] = 1000000 := rfl
  have hq3 : IntKind.i64.wrap (t.tdiv 1000000) = t.tdiv 1000000 := wrapI (by have := tdiv_bound t 1000000; omega)
  have hb3 : -1152921504606846977 < t.tdiv 1000000 ∧ t.tdiv 1000000 < 1152921504606846977 := by have := tdiv_bound t 1000000; omega
  have hm3 : (t.tmod 1000000).natAbs = t.natAbs % 1000000 := by rw [Int.natAbs_tmod]; rfl
  have u4 : unitN [110, 115] = 1000 := rfl
  have hq4 : IntKind.i64.wrap (t.tdiv 1000) = t.tdiv 1000 := wrapI (by have := tdiv_bound t 1000; omega)
  have hb4 : -1152921504606846977 < t.tdiv 1000 ∧ t.tdiv 1000 < 1152921504606846977 := by have := tdiv_bound t 1000; omega
  have hm4 : (t.tmod 1000).natAbs = t.natAbs % 1000 := by rw [Int.natAbs_tmod]; rfl
  have hll : ∀ (m : Int) (k : Nat), -1152921504606846977 < m ∧ m < 1152921504606846977 → k ≤ 2 → (decF m).length + k ≤ 4294967296 := by
    intro m k hm hk
    unfold decF
    have := decN_len 18 m.natAbs (by omega)
    split
    · simp; omega
    · omega
  unfold ptextF
  by_cases h0 : t = 0
  · subst h0
    have hz : ((0 : Int) != 0) = false := rfl
    have hpk : pickU (0 : Int).natAbs = (1, [112, 115]) := rfl
    rw [hpk]
    refine enter rfl Tryd.func44 rfl Tryd.ntmps44 rfl ?_
    dsimp only [List.cons_append, List.nil_append, List.length_cons, List.length_nil, List.replicate_succ, List.replicate_zero, Nat.reduceAdd, Nat.reduceSub]
    repeat' (first | dsimp only [putD, DV.cells, DH.new_next, DH.set_next, List.length_cons, List.length_nil, Nat.reduceAdd, List.set_cons_zero, List.set_cons_succ, getD_zero, getD_succ, fieldAt_zero, fieldAt_succ, thenD, blockD, retR] | refine dwp_round ?_ | apply dwp_seq | apply dwp_region | apply ops_nil | (apply ops_plain; (· exact rfl)) | (apply ops_off1; (· exact rfl); (· exact rfl); (· (with_reducible first | assumption | rfl | decide))) | (apply op_call; (· exact rfl); (· exact rfl); (· exact rfl); (refine (may43 ft obj_here').mono ?_; rintro r H' ⟨rfl, rfl⟩)) | (apply op_call; (· exact rfl); (· exact rfl); (· exact rfl); (refine (unit74 _ _).mono ?_; rintro r H' ⟨rfl, rfl⟩; first | rw [u1] | rw [u2] | rw [u3] | rw [u4])) | (apply op_call; (· exact rfl); (· exact rfl); (· exact rfl); (apply dig75_t; (· exact ht))) | (apply op_pick_f; (· exact rfl); (· exact rfl); (· (with_reducible first | assumption | rfl | decide)); (· exact rfl)) | (apply op_at; (· exact opD_strAdd rfl rfl rfl (hll _ _ ht (by decide)))) | (apply op_load_at; (· exact rfl); (· exact rfl); (· repeat (first | with_reducible assumption | (with_reducible apply obj_here; with_reducible rfl) | with_reducible apply obj_set | (with_reducible apply obj_skip_lo; (· ((repeat (first | with_reducible assumption | with_reducible apply Lo.self | with_reducible apply Lo.new | with_reducible apply Lo.set | with_reducible apply Lo.self1 | with_reducible apply Lo.self2)); done))) | (with_reducible apply obj_past; (· ((first | with_reducible assumption | with_reducible apply ne_add1 | with_reducible apply ne_add1' | with_reducible apply ne_add2 | with_reducible apply ne_add2' | with_reducible apply ne_add12 | with_reducible apply ne_add21 | (with_reducible apply Lo.ne; (repeat (first | with_reducible assumption | with_reducible apply Lo.self | with_reducible apply Lo.new | with_reducible apply Lo.set | with_reducible apply Lo.self1 | with_reducible apply Lo.self2)); done) | (with_reducible apply Lo.ne1; (repeat (first | with_reducible assumption | with_reducible apply Lo.self | with_reducible apply Lo.new | with_reducible apply Lo.set | with_reducible apply Lo.self1 | with_reducible apply Lo.self2)); done) | (with_reducible apply Lo.ne'; (repeat (first | with_reducible assumption | with_reducible apply Lo.self | with_reducible apply Lo.new | with_reducible apply Lo.set | with_reducible apply Lo.self1 | with_reducible apply Lo.self2)); done) | (with_reducible apply Lo.ne1'; (repeat (first | with_reducible assumption | with_reducible apply Lo.self | with_reducible apply Lo.new | with_reducible apply Lo.set | with_reducible apply Lo.self1 | with_reducible apply Lo.self2)); done)); done))) | exact obj_here rfl)); (· exact rfl); (· exact rfl)) | (apply op_at; (· exact rfl)) | (apply dwp_cond_t; (· exact rfl); (· (with_reducible first | assumption | rfl | decide))) | (apply dwp_cond_f; (· exact rfl); (· (with_reducible first | assumption | rfl | decide))) | apply dwp_block | apply dwp_skip | apply dwp_ret | apply dwp_exit | (refine ⟨_, rfl, ?_⟩) | fail)
    exact ⟨rfl, (((Above.refl _).new _).new _)⟩
  · have hz : (t != 0) = true := by simpa using h0
    have hn0 : ¬ t.natAbs = 0 := by omega
    by_cases hd1 : t.natAbs % 1000000000000 = 0
    · have hz1 : (t.tmod 1000000000000 == 0) = true := by rw [hd1] at hm1; simp; omega
      have hpk : pickU t.natAbs = (1000000000000, [115]) := by unfold pickU; rw [if_neg hn0, if_pos hd1]
      have ed : decF (t.tdiv 1000000000000) = sgnF t ++ decN (t.natAbs / 1000000000000) := decF_div (ps := 1000000000000) (by decide) hd1
      rw [hpk]
      dsimp only
      rw [← ed]
      refine enter rfl Tryd.func44 rfl Tryd.ntmps44 rfl ?_
      dsimp only [List.cons_append, List.nil_append, List.length_cons, List.length_nil, List.replicate_succ, List.replicate_zero, Nat.reduceAdd, Nat.reduceSub]
      repeat' (first | dsimp only [putD, DV.cells, DH.new_next, DH.set_next, List.length_cons, List.length_nil, Nat.reduceAdd, List.set_cons_zero, List.set_cons_succ, getD_zero, getD_succ, fieldAt_zero, fieldAt_succ, thenD, blockD, retR] | refine dwp_round ?_ | apply dwp_seq | apply dwp_region | apply ops_nil | (apply ops_plain; (· exact rfl)) | (apply ops_on; (· exact rfl); (· exact rfl); (· (with_reducible first | assumption | rfl | decide))) | (apply op_call; (· exact rfl); (· exact rfl); (· exact rfl); (refine (may43 ft obj_here').mono ?_; rintro r H' ⟨rfl, rfl⟩)) | (apply op_call; (· exact rfl); (· exact rfl); (· exact rfl); (refine (unit74 _ _).mono ?_; rintro r H' ⟨rfl, rfl⟩; first | rw [u1] | rw [u2] | rw [u3] | rw [u4])) | (apply op_call; (· exact rfl); (· exact rfl); (· exact rfl); (apply dig75_t; (· exact hb1))) | (apply op_pick_t; (· exact rfl); (· exact rfl); (· (with_reducible first | assumption | rfl | decide)); (· exact rfl)) | (apply op_at; (· exact opD_rem rfl rfl rfl (by decide) rfl)) | (apply op_at; (· exact opD_quo rfl rfl rfl (by decide) hq1)) | (apply op_at; (· exact opD_strAdd rfl rfl rfl (hll _ _ hb1 (by decide)))) | (apply op_load_at; (· exact rfl); (· exact rfl); (· repeat (first | with_reducible assumption | (with_reducible apply obj_here; with_reducible rfl) | with_reducible apply obj_set | (with_reducible apply obj_skip_lo; (· ((repeat (first | with_reducible assumption | with_reducible apply Lo.self | with_reducible apply Lo.new | with_reducible apply Lo.set | with_reducible apply Lo.self1 | with_reducible apply Lo.self2)); done))) | (with_reducible apply obj_past; (· ((first | with_reducible assumption | with_reducible apply ne_add1 | with_reducible apply ne_add1' | with_reducible apply ne_add2 | with_reducible apply ne_add2' | with_reducible apply ne_add12 | with_reducible apply ne_add21 | (with_reducible apply Lo.ne; (repeat (first | with_reducible assumption | with_reducible apply Lo.self | with_reducible apply Lo.new | with_reducible apply Lo.set | with_reducible apply Lo.self1 | with_reducible apply Lo.self2)); done) | (with_reducible apply Lo.ne1; (repeat (first | with_reducible assumption | with_reducible apply Lo.self | with_reducible apply Lo.new | with_reducible apply Lo.set | with_reducible apply Lo.self1 | with_reducible apply Lo.self2)); done) | (with_reducible apply Lo.ne'; (repeat (first | with_reducible assumption | with_reducible apply Lo.self | with_reducible apply Lo.new | with_reducible apply Lo.set | with_reducible apply Lo.self1 | with_reducible apply Lo.self2)); done) | (with_reducible apply Lo.ne1'; (repeat (first | with_reducible assumption | with_reducible apply Lo.self | with_reducible apply Lo.new | with_reducible apply Lo.set | with_reducible apply Lo.self1 | with_reducible apply Lo.self2)); done)); done))) | exact obj_here rfl)); (· exact rfl); (· exact rfl)) | (apply op_at; (· exact rfl)) | (apply dwp_cond_t; (· exact rfl); (· (with_reducible first | assumption | rfl | decide))) | (apply dwp_cond_f; (· exact rfl); (· (with_reducible first | assumption | rfl | decide))) | apply dwp_block | apply dwp_skip | apply dwp_ret | (refine ⟨_, rfl, ?_⟩) | fail)
      exact ⟨rfl, (((Above.refl _).new _).new _)⟩
    · have hz1 : (t.tmod 1000000000000 == 0) = false := by
        have : t.tmod 1000000000000 ≠ 0 := by omega
        simpa using this
      by_cases hd2 : t.natAbs % 1000000000 = 0
      · have hz2 : (t.tmod 1000000000 == 0) = true := by rw [hd2] at hm2; simp; omega
        have hpk : pickU t.natAbs = (1000000000, [109, 115]) := by unfold pickU; rw [if_neg hn0, if_neg hd1, if_pos hd2]
        have ed : decF (t.tdiv 1000000000) = sgnF t ++ decN (t.natAbs / 1000000000) := decF_div (ps := 1000000000) (by decide) hd2
        rw [hpk]
        dsimp only
        rw [← ed]
        refine enter rfl Tryd.func44 rfl Tryd.ntmps44 rfl ?_
        dsimp only [List.cons_append, List.nil_append, List.length_cons, List.length_nil, List.replicate_succ, List.replicate_zero, Nat.reduceAdd, Nat.reduceSub]
        repeat' (first | dsimp only [putD, DV.cells, DH.new_next, DH.set_next, List.length_cons, List.length_nil, Nat.reduceAdd, List.set_cons_zero, List.set_cons_succ, getD_zero, getD_succ, fieldAt_zero, fieldAt_succ, thenD, blockD, retR] | refine dwp_round ?_ | apply dwp_seq | apply dwp_region | apply ops_nil | (apply ops_plain; (· exact rfl)) | (apply ops_on; (· exact rfl); (· exact rfl); (· (with_reducible first | assumption | rfl | decide))) | (apply op_call; (· exact rfl); (· exact rfl); (· exact rfl); (refine (may43 ft obj_here').mono ?_; rintro r H' ⟨rfl, rfl⟩)) | (apply op_call; (· exact rfl); (· exact rfl); (· exact rfl); (refine (unit74 _ _).mono ?_; rintro r H' ⟨rfl, rfl⟩; first | rw [u1] | rw [u2] | rw [u3] | rw [u4])) | (apply op_call; (· exact rfl); (· exact rfl); (· exact rfl); (apply dig75_t; (· exact hb2))) | (apply op_pick_t; (· exact rfl); (· exact rfl); (· (with_reducible first | assumption | rfl | decide)); (· exact rfl)) | (apply op_at; (· exact opD_rem rfl rfl rfl (by decide) rfl)) | (apply op_at; (· exact opD_quo rfl rfl rfl (by decide) hq2)) | (apply op_at; (· exact opD_strAdd rfl rfl rfl (hll _ _ hb2 (by decide)))) | (apply op_load_at; (· exact rfl); (· exact rfl); (· repeat (first | with_reducible assumption | (with_reducible apply obj_here; with_reducible rfl) | with_reducible apply obj_set | (with_reducible apply obj_skip_lo; (· ((repeat (first | with_reducible assumption | with_reducible apply Lo.self | with_reducible apply Lo.new | with_reducible apply Lo.set | with_reducible apply Lo.self1 | with_reducible apply Lo.self2)); done))) | (with_reducible apply obj_past; (· ((first | with_reducible assumption | with_reducible apply ne_add1 | with_reducible apply ne_add1' | with_reducible apply ne_add2 | with_reducible apply ne_add2' | with_reducible apply ne_add12 | with_reducible apply ne_add21 | (with_reducible apply Lo.ne; (repeat (first | with_reducible assumption | with_reducible apply Lo.self | with_reducible apply Lo.new | with_reducible apply Lo.set | with_reducible apply Lo.self1 | with_reducible apply Lo.self2)); done) | (with_reducible apply Lo.ne1; (repeat (first | with_reducible assumption | with_reducible apply Lo.self | with_reducible apply Lo.new | with_reducible apply Lo.set | with_reducible apply Lo.self1 | with_reducible apply Lo.self2)); done) | (with_reducible apply Lo.ne'; (repeat (first | with_reducible assumption | with_reducible apply Lo.self | with_reducible apply Lo.new | with_reducible apply Lo.set | with_reducible apply Lo.self1 | with_reducible apply Lo.self2)); done) | (with_reducible apply Lo.ne1'; (repeat (first | with_reducible assumption | with_reducible apply Lo.self | with_reducible apply Lo.new | with_reducible apply Lo.set | with_reducible apply Lo.self1 | with_reducible apply Lo.self2)); done)); done))) | exact obj_here rfl)); (· exact rfl); (· exact rfl)) | (apply op_at; (· exact rfl)) | (apply dwp_cond_t; (· exact rfl); (· (with_reducible first | assumption | rfl | decide))) | (apply dwp_cond_f; (· exact rfl); (· (with_reducible first | assumption | rfl | decide))) | apply dwp_block | apply dwp_skip | apply dwp_ret | (refine ⟨_, rfl, ?_⟩) | fail)
        exact ⟨rfl, (((Above.refl _).new _).new _)⟩
      · have hz2 : (t.tmod 1000000000 == 0) = false := by
          have : t.tmod 1000000000 ≠ 0 := by omega
          simpa using this
        by_cases hd3 : t.natAbs % 1000000 = 0
        · have hz3 : (t.tmod 1000000 == 0) = true := by rw [hd3] at hm3; simp; omega
          have hpk : pickU t.natAbs = (1000000, [117, 115]) := by unfold pickU; rw [if_neg hn0, if_neg hd1, if_neg hd2, if_pos hd3]
          have ed : decF (t.tdiv 1000000) = sgnF t ++ decN (t.natAbs / 1000000) := decF_div (ps := 1000000) (by decide) hd3
          rw [hpk]
          dsimp only
          rw [← ed]
          refine enter rfl Tryd.func44 rfl Tryd.ntmps44 rfl ?_
          dsimp only [List.cons_append, List.nil_append, List.length_cons, List.length_nil, List.replicate_succ, List.replicate_zero, Nat.reduceAdd, Nat.reduceSub]
          repeat' (first | dsimp only [putD, DV.cells, DH.new_next, DH.set_next, List.length_cons, List.length_nil, Nat.reduceAdd, List.set_cons_zero, List.set_cons_succ, getD_zero, getD_succ, fieldAt_zero, fieldAt_succ, thenD, blockD, retR] | refine dwp_round ?_ | apply dwp_seq | apply dwp_region | apply ops_nil | (apply ops_plain; (· exact rfl)) | (apply ops_on; (· exact rfl); (· exact rfl); (· (with_reducible first | assumption | rfl | decide))) | (apply op_call; (· exact rfl); (· exact rfl); (· exact rfl); (refine (may43 ft obj_here').mono ?_; rintro r H' ⟨rfl, rfl⟩)) | (apply op_call; (· exact rfl); (· exact rfl); (· exact rfl); (refine (unit74 _ _).mono ?_; rintro r H' ⟨rfl, rfl⟩; first | rw [u1] | rw [u2] | rw [u3] | rw [u4])) | (apply op_call; (· exact rfl); (· exact rfl); (· exact rfl); (apply dig75_t; (· exact hb3))) | (apply op_pick_t; (· exact rfl); (· exact rfl); (· (with_reducible first | assumption | rfl | decide)); (· exact rfl)) | (apply op_at; (· exact opD_rem rfl rfl rfl (by decide) rfl)) | (apply op_at; (· exact opD_quo rfl rfl rfl (by decide) hq3)) | (apply op_at; (· exact opD_strAdd rfl rfl rfl (hll _ _ hb3 (by decide)))) | (apply op_load_at; (· exact rfl); (· exact rfl); (· repeat (first | with_reducible assumption | (with_reducible apply obj_here; with_reducible rfl) | with_reducible apply obj_set | (with_reducible apply obj_skip_lo; (· ((repeat (first | with_reducible assumption | with_reducible apply Lo.self | with_reducible apply Lo.new | with_reducible apply Lo.set | with_reducible apply Lo.self1 | with_reducible apply Lo.self2)); done))) | (with_reducible apply obj_past; (· ((first | with_reducible assumption | with_reducible apply ne_add1 | with_reducible apply ne_add1' | with_reducible apply ne_add2 | with_reducible apply ne_add2' | with_reducible apply ne_add12 | with_reducible apply ne_add21 | (with_reducible apply Lo.ne; (repeat (first | with_reducible assumption | with_reducible apply Lo.self | with_reducible apply Lo.new | with_reducible apply Lo.set | with_reducible apply Lo.self1 | with_reducible apply Lo.self2)); done) | (with_reducible apply Lo.ne1; (repeat (first | with_reducible assumption | with_reducible apply Lo.self | with_reducible apply Lo.new | with_reducible apply Lo.set | with_reducible apply Lo.self1 | with_reducible apply Lo.self2)); done) | (with_reducible apply Lo.ne'; (repeat (first | with_reducible assumption | with_reducible apply Lo.self | with_reducible apply Lo.new | with_reducible apply Lo.set | with_reducible apply Lo.self1 | with_reducible apply Lo.self2)); done) | (with_reducible apply Lo.ne1'; (repeat (first | with_reducible assumption | with_reducible apply Lo.self | with_reducible apply Lo.new | with_reducible apply Lo.set | with_reducible apply Lo.self1 | with_reducible apply Lo.self2)); done)); done))) | exact obj_here rfl)); (· exact rfl); (· exact rfl)) | (apply op_at; (· exact rfl)) | (apply dwp_cond_t; (· exact rfl); (· (with_reducible first | assumption | rfl | decide))) | (apply dwp_cond_f; (· exact rfl); (· (with_reducible first | assumption | rfl | decide))) | apply dwp_block | apply dwp_skip | apply dwp_ret | (refine ⟨_, rfl, ?_⟩) | fail)
          exact ⟨rfl, (((Above.refl _).new _).new _)⟩
        · have hz3 : (t.tmod 1000000 == 0) = false := by
            have : t.tmod 1000000 ≠ 0 := by omega
            simpa using this
          by_cases hd4 : t.natAbs % 1000 = 0
          · have hz4 : (t.tmod 1000 == 0) = true := by rw [hd4] at hm4; simp; omega
            have hpk : pickU t.natAbs = (1000, [110, 115]) := by unfold pickU; rw [if_neg hn0, if_neg hd1, if_neg hd2, if_neg hd3, if_pos hd4]
            have ed : decF (t.tdiv 1000) = sgnF t ++ decN (t.natAbs / 1000) := decF_div (ps := 1000) (by decide) hd4
            rw [hpk]
            dsimp only
            rw [← ed]
            refine enter rfl Tryd.func44 rfl Tryd.ntmps44 rfl ?_
            dsimp only [List.cons_append, List.nil_append, List.length_cons, List.length_nil, List.replicate_succ, List.replicate_zero, Nat.reduceAdd, Nat.reduceSub]
            repeat' (first | dsimp only [putD, DV.cells, DH.new_next, DH.set_next, List.length_cons, List.length_nil, Nat.reduceAdd, List.set_cons_zero, List.set_cons_succ, getD_zero, getD_succ, fieldAt_zero, fieldAt_succ, thenD, blockD, retR] | refine dwp_round ?_ | apply dwp_seq | apply dwp_region | apply ops_nil | (apply ops_plain; (· exact rfl)) | (apply ops_on; (· exact rfl); (· exact rfl); (· (with_reducible first | assumption | rfl | decide))) | (apply op_call; (· exact rfl); (· exact rfl); (· exact rfl); (refine (may43 ft obj_here').mono ?_; rintro r H' ⟨rfl, rfl⟩)) | (apply op_call; (· exact rfl); (· exact rfl); (· exact rfl); (refine (unit74 _ _).mono ?_; rintro r H' ⟨rfl, rfl⟩; first | rw [u1] | rw [u2] | rw [u3] | rw [u4])) | (apply op_call; (· exact rfl); (· exact rfl); (· exact rfl); (apply dig75_t; (· exact hb4))) | (apply op_pick_t; (· exact rfl); (· exact rfl); (· (with_reducible first | assumption | rfl | decide)); (· exact rfl)) | (apply op_at; (· exact opD_rem rfl rfl rfl (by decide) rfl)) | (apply op_at; (· exact opD_quo rfl rfl rfl (by decide) hq4)) | (apply op_at; (· exact opD_strAdd rfl rfl rfl (hll _ _ hb4 (by decide)))) | (apply op_load_at; (· exact rfl); (· exact rfl); (· repeat (first | with_reducible assumption | (with_reducible apply obj_here; with_reducible rfl) | with_reducible apply obj_set | (with_reducible apply obj_skip_lo; (· ((repeat (first | with_reducible assumption | with_reducible apply Lo.self | with_reducible apply Lo.new | with_reducible apply Lo.set | with_reducible apply Lo.self1 | with_reducible apply Lo.self2)); done))) | (with_reducible apply obj_past; (· ((first | with_reducible assumption | with_reducible apply ne_add1 | with_reducible apply ne_add1' | with_reducible apply ne_add2 | with_reducible apply ne_add2' | with_reducible apply ne_add12 | with_reducible apply ne_add21 | (with_reducible apply Lo.ne; (repeat (first | with_reducible assumption | with_reducible apply Lo.self | with_reducible apply Lo.new | with_reducible apply Lo.set | with_reducible apply Lo.self1 | with_reducible apply Lo.self2)); done) | (with_reducible apply Lo.ne1; (repeat (first | with_reducible assumption | with_reducible apply Lo.self | with_reducible apply Lo.new | with_reducible apply Lo.set | with_reducible apply Lo.self1 | with_reducible apply Lo.self2)); done) | (with_reducible apply Lo.ne'; (repeat (first | with_reducible assumption | with_reducible apply Lo.self | with_reducible apply Lo.new | with_reducible apply Lo.set | with_reducible apply Lo.self1 | with_reducible apply Lo.self2)); done) | (with_reducible apply Lo.ne1'; (repeat (first | with_reducible assumption | with_reducible apply Lo.self | with_reducible apply Lo.new | with_reducible apply Lo.set | with_reducible apply Lo.self1 | with_reducible apply Lo.self2)); done)); done))) | exact obj_here rfl)); (· exact rfl); (· exact rfl)) | (apply op_at; (· exact rfl)) | (apply dwp_cond_t; (· exact rfl); (· (with_reducible first | assumption | rfl | decide))) | (apply dwp_cond_f; (· exact rfl); (· (with_reducible first | assumption | rfl | decide))) | apply dwp_block | apply dwp_skip | apply dwp_ret | (refine ⟨_, rfl, ?_⟩) | fail)
            exact ⟨rfl, (((Above.refl _).new _).new _)⟩
          · have hz4 : (t.tmod 1000 == 0) = false := by
              have : t.tmod 1000 ≠ 0 := by omega
              simpa using this
            have hpk : pickU t.natAbs = (1, [112, 115]) := by unfold pickU; rw [if_neg hn0, if_neg hd1, if_neg hd2, if_neg hd3, if_neg hd4]
            have ed : decF t = sgnF t ++ decN (t.natAbs / 1) := by have := decF_div (t := t) (ps := 1) (by decide) (Nat.mod_one _); rw [show (((1 : Nat)) : Int) = 1 from rfl, Int.tdiv_one] at this; exact this
            rw [hpk]
            dsimp only
            rw [← ed]
            refine enter rfl Tryd.func44 rfl Tryd.ntmps44 rfl ?_
            dsimp only [List.cons_append, List.nil_append, List.length_cons, List.length_nil, List.replicate_succ, List.replicate_zero, Nat.reduceAdd, Nat.reduceSub]
            repeat' (first | dsimp only [putD, DV.cells, DH.new_next, DH.set_next, List.length_cons, List.length_nil, Nat.reduceAdd, List.set_cons_zero, List.set_cons_succ, getD_zero, getD_succ, fieldAt_zero, fieldAt_succ, thenD, blockD, retR] | refine dwp_round ?_ | apply dwp_seq | apply dwp_region | apply ops_nil | (apply ops_plain; (· exact rfl)) | (apply ops_on; (· exact rfl); (· exact rfl); (· (with_reducible first | assumption | rfl | decide))) | (apply op_call; (· exact rfl); (· exact rfl); (· exact rfl); (refine (may43 ft obj_here').mono ?_; rintro r H' ⟨rfl, rfl⟩)) | (apply op_call; (· exact rfl); (· exact rfl); (· exact rfl); (refine (unit74 _ _).mono ?_; rintro r H' ⟨rfl, rfl⟩; first | rw [u1] | rw [u2] | rw [u3] | rw [u4])) | (apply op_call; (· exact rfl); (· exact rfl); (· exact rfl); (apply dig75_t; (· exact ht))) | (apply op_pick_t; (· exact rfl); (· exact rfl); (· (with_reducible first | assumption | rfl | decide)); (· exact rfl)) | (apply op_at; (· exact opD_rem rfl rfl rfl (by decide) rfl)) | (apply op_at; (· exact opD_strAdd rfl rfl rfl (hll _ _ ht (by decide)))) | (apply op_load_at; (· exact rfl); (· exact rfl); (· repeat (first | with_reducible assumption | (with_reducible apply obj_here; with_reducible rfl) | with_reducible apply obj_set | (with_reducible apply obj_skip_lo; (· ((repeat (first | with_reducible assumption | with_reducible apply Lo.self | with_reducible apply Lo.new | with_reducible apply Lo.set | with_reducible apply Lo.self1 | with_reducible apply Lo.self2)); done))) | (with_reducible apply obj_past; (· ((first | with_reducible assumption | with_reducible apply ne_add1 | with_reducible apply ne_add1' | with_reducible apply ne_add2 | with_reducible apply ne_add2' | with_reducible apply ne_add12 | with_reducible apply ne_add21 | (with_reducible apply Lo.ne; (repeat (first | with_reducible assumption | with_reducible apply Lo.self | with_reducible apply Lo.new | with_reducible apply Lo.set | with_reducible apply Lo.self1 | with_reducible apply Lo.self2)); done) | (with_reducible apply Lo.ne1; (repeat (first | with_reducible assumption | with_reducible apply Lo.self | with_reducible apply Lo.new | with_reducible apply Lo.set | with_reducible apply Lo.self1 | with_reducible apply Lo.self2)); done) | (with_reducible apply Lo.ne'; (repeat (first | with_reducible assumption | with_reducible apply Lo.self | with_reducible apply Lo.new | with_reducible apply Lo.set | with_reducible apply Lo.self1 | with_reducible apply Lo.self2)); done) | (with_reducible apply Lo.ne1'; (repeat (first | with_reducible assumption | with_reducible apply Lo.self | with_reducible apply Lo.new | with_reducible apply Lo.set | with_reducible apply Lo.self1 | with_reducible apply Lo.self2)); done)); done))) | exact obj_here rfl)); (· exact rfl); (· exact rfl)) | (apply op_at; (· exact rfl)) | (apply dwp_cond_t; (· exact rfl); (· (with_reducible first | assumption | rfl | decide))) | (apply dwp_cond_f; (· exact rfl); (· (with_reducible first | assumption | rfl | decide))) | apply dwp_block | apply dwp_skip | apply dwp_ret | apply dwp_exit | (refine ⟨_, rfl, ?_⟩) | fail)
            exact ⟨rfl, (((Above.refl _).new _).new _)⟩
end Go.Det.C

/- Cover: lemmas for the walk of Report. -/
namespace Go.Det.C
open Go Go.Det Go.Proofs
set_option linter.unusedVariables false
set_option linter.unusedSimpArgs false
abbrev natRow (i : Nat) : List DV := [.int .i64 (i : Int)]
/-- An append of one to a slice that has room: in place. -/
theorem op_append_in {P : Program} {X : Ext} {A H : DH} {bs bs' : List (Nat × DObj)} {fs : List (DH → Prop)} {st e xt : TypeId} {z by_ n c b : Nat} {z0 d : DV} {o : Oper} {env : List DV} {K : DV → DH → Prop} {x y : Operand} {ex : Bool} {rs : List (List DV)} {row : List DV}
    (ho : o.op = .call ⟨.builtin .append, #[x, y], #[st, xt]⟩) (hx : evalO env x = some (.sl (some (b, 0, z)) n c ex)) (hy : evalO env y = some d)
    (E : ElemT P st e z by_ z0) (hB : Bx A H bs fs) (hnew : appendedD P e H (P.underlying xt) d = some [row]) (hall : row.length = z ∧ row.all DV.one = true) (hn : n + 1 ≤ c) (hc : c = rs.length) (hlen : n + 1 ≤ mostD)
    (hup : Upd b (.rows false z rs) (.rows false z (rs.set n row)) bs bs')
    (hk : ∀ H', Bx A H' bs' fs → K (.sl (some (b, 0, z)) (n + 1) c ex) H') : OpWp P X o env H K := by
  obtain ⟨m, rfl⟩ : ∃ m, z = m + 1 := ⟨z - 1, by have := E.pos; omega⟩
  have hc' : by_ ≤ 4096 ∧ z0.cells.length = m + 1 ∧ (([row] : List (List DV)).all fun r => r.length == m + 1 && r.all DV.one) = true := ⟨E.le, E.len, by simp [hall.1, hall.2]⟩
  have hob : H.obj b = some (.rows false (m + 1) rs) := hB.get hup.at
  have hset : setRows rs (0 + n) [row] = rs.set n row := by
    unfold setRows
    rw [Nat.zero_add, List.set_eq_take_append_cons_drop, if_pos (by omega)]
    simp
  refine op_at (v := .sl (some (b, 0, m + 1)) (n + 1) c ex) (H' := H.set b (some (.rows false (m + 1) (rs.set n row)))) ?_ (hk _ (hB.put hup))
  simp only [opD, ho, mover, moveD, hx, hy, if_true]
  unfold appendD
  simp only [E.u, E.s, E.b, E.zr, hnew]
  rw [if_pos hc']
  rw [if_neg (by simp), if_neg (by simp)]
  simp only [hob]
  rw [if_neg (by simp; omega), if_pos (by simpa using hn), if_pos (by simp; omega), hset]
  rfl
/-- Boxes that are written no more: what is known of them. -/
theorem bx_freeze {A H : DH} {bx rest : List (Nat × DObj)} {fs : List (DH → Prop)} (h : Bx A H (bx ++ rest) fs) {f : DH → Prop} (S : Nat → Prop) (h1 : Stay S f) (h2 : f H) (h3 : ∀ l, S l → ∃ x ∈ bx, x.1 = l) : Bx A H rest (f :: fs) := by
  have hnd := h.nd
  rw [List.map_append, List.nodup_append] at hnd
  refine ⟨h.ab, fun b hb => h.obj b (List.mem_append_right _ hb), hnd.2.1, fun g hg => ?_⟩
  rcases List.mem_cons.mp hg with rfl | hg
  · refine ⟨S, h1, h2, fun l hl => ?_, fun b hb hs => ?_⟩
    · obtain ⟨x, hx, rfl⟩ := h3 l hl
      exact (h.obj x (List.mem_append_left _ hx)).2.1
    · obtain ⟨x, hx, e⟩ := h3 _ hs
      exact hnd.2.2 _ (List.mem_map_of_mem hx) _ (List.mem_map_of_mem hb) e
  · obtain ⟨S', a, b, c, d⟩ := h.fact g hg
    exact ⟨S', a, b, c, fun x hx => d x (List.mem_append_right _ hx)⟩
end Go.Det.C

/- Cover: a map's queues. -/
namespace Go.Det.C
open Go Go.Det Go.Proofs
set_option linter.unusedVariables false
set_option linter.unusedSimpArgs false
/-- An entry of the map: its key, its queue, the slice, the slice's box. -/
structure Qe where
  key : Ev
  l : List Nat
  s : DV
  bx : List (Nat × DObj)
abbrev Qe.kv (e : Qe) : Ev × DV := (e.key, e.s)
theorem find_q (k : Ev) : ∀ M : List Qe, (∃ M1 e M2, M = M1 ++ e :: M2 ∧ e.key = k ∧ (∀ x ∈ M1, x.key ≠ k) ∧ findM k (M.map Qe.kv) = some (M1.length, e.s)) ∨ ((∀ x ∈ M, x.key ≠ k) ∧ findM k (M.map Qe.kv) = none)
  | [] => Or.inr ⟨fun x h => absurd h (by simp), rfl⟩
  | a :: r => by
    by_cases h : k = a.key
    · exact Or.inl ⟨[], a, r, rfl, h.symm, fun x h => absurd h (by simp), by simp only [List.map_cons, findM, Qe.kv, if_pos h]; rfl⟩
    · rcases find_q k r with ⟨M1, e, M2, h1, h2, h3, h4⟩ | ⟨h1, h2⟩
      · refine Or.inl ⟨a :: M1, e, M2, by rw [h1]; rfl, h2, fun x hx => ?_, ?_⟩
        · rcases List.mem_cons.mp hx with rfl | hx
          · exact fun e => h e.symm
          · exact h3 x hx
        · simp only [List.map_cons, findM, Qe.kv, if_neg h] at h4 ⊢
          rw [h4]; rfl
      · refine Or.inr ⟨fun x hx => ?_, ?_⟩
        · rcases List.mem_cons.mp hx with rfl | hx
          · exact fun e => h e.symm
          · exact h1 x hx
        · simp only [List.map_cons, findM, Qe.kv, if_neg h] at h2 ⊢
          rw [h2]; rfl
/-- The map's entries are these queues. -/
structure QRel (M : List Qe) (q : Ev → List Nat) : Prop where
  at' : ∀ e ∈ M, e.l = q e.key
  no : ∀ y, (∀ e ∈ M, e.key ≠ y) → q y = []
  nd : (M.map Qe.key).Nodup
theorem QRel.upd {M1 M2 : List Qe} {e e' : Qe} {q q' : Ev → List Nat} (h : QRel (M1 ++ e :: M2) q) (hk : e'.key = e.key) (h1 : e'.l = q' e.key) (h2 : ∀ y, y ≠ e.key → q' y = q y) : QRel (M1 ++ e' :: M2) q' := by
  have hnd := h.nd
  rw [List.map_append, List.map_cons, List.nodup_append] at hnd
  obtain ⟨n1, n2, n3⟩ := hnd
  rw [List.nodup_cons] at n2
  refine ⟨fun x hx => ?_, fun y hy => ?_, ?_⟩
  · rcases List.mem_append.mp hx with hx | hx
    · rw [h2 x.key (fun c => n3 x.key (List.mem_map_of_mem hx) e.key List.mem_cons_self c)]
      exact h.at' x (List.mem_append_left _ hx)
    · rcases List.mem_cons.mp hx with rfl | hx
      · rw [hk]; exact h1
      · rw [h2 x.key (fun c => n2.1 (c ▸ List.mem_map_of_mem hx))]
        exact h.at' x (List.mem_append_right _ (List.mem_cons_of_mem _ hx))
  · have hne : y ≠ e.key := fun c => hy e' (List.mem_append_right _ List.mem_cons_self) (by rw [hk, c])
    rw [h2 y hne]
    refine h.no y fun x hx => ?_
    rcases List.mem_append.mp hx with hx | hx
    · exact hy x (List.mem_append_left _ hx)
    · rcases List.mem_cons.mp hx with rfl | hx
      · exact fun c => hne c.symm
      · exact hy x (List.mem_append_right _ (List.mem_cons_of_mem _ hx))
  · have := h.nd
    rw [List.map_append, List.map_cons] at this ⊢
    rw [hk]; exact this
theorem QRel.add {M : List Qe} {e' : Qe} {q q' : Ev → List Nat} (h : QRel M q) (hn : ∀ x ∈ M, x.key ≠ e'.key) (h1 : e'.l = q' e'.key) (h2 : ∀ y, y ≠ e'.key → q' y = q y) : QRel (M ++ [e']) q' := by
  refine ⟨fun x hx => ?_, fun y hy => ?_, ?_⟩
  · rcases List.mem_append.mp hx with hx | hx
    · rw [h2 x.key (hn x hx)]; exact h.at' x hx
    · rw [List.mem_singleton] at hx; subst hx; exact h1
  · have hne : y ≠ e'.key := fun c => hy e' (List.mem_append_right _ (by simp)) c.symm
    rw [h2 y hne]
    exact h.no y fun x hx => hy x (List.mem_append_left _ hx)
  · rw [List.map_append, List.nodup_append]
    refine ⟨h.nd, by simp, fun a ha b hb => ?_⟩
    obtain ⟨x, hx, rfl⟩ := List.mem_map.mp ha
    rw [List.map_singleton, List.mem_singleton] at hb
    subst hb
    exact hn x hx
theorem queue0_succ {tab : List Inj} {i : Nat} {x : Inj} (hx : tab[i]? = some x) (y : Ev) : queue0 tab (i + 1) y = if y = keyOf x then queue0 tab i y ++ [i] else queue0 tab i y := by
  unfold queue0
  rw [List.range_succ, List.filter_append]
  simp only [List.filter_cons, List.filter_nil, hx]
  by_cases h : y = keyOf x
  · subst h; simp
  · have h' : ¬ keyOf x = y := fun c => h c.symm
    simp [h, h']
end Go.Det.C

/- Cover: events as keys. -/
namespace Go.Det.C
open Go Go.Det Go.Proofs
set_option maxRecDepth 4000
set_option linter.unusedVariables false
set_option linter.unusedSimpArgs false
theorem eqFs1 {P : Program} {g : TypeId → DV → DV → Option Bool} {xs ys : List DV} {f : Field} {fs : List Field} {a b : DV} {v : Bool} (hn : f.name ≠ "_") (ha : partD P f.type xs f.offset = some a) (hb : partD P f.type ys f.offset = some b) (hg : g f.type a b = some v) :
    eqFs P g xs ys (f :: fs) = if v = true then eqFs P g xs ys fs else some false := by
  rw [eqFs, if_neg hn, ha, hb]
  simp only [hg]
  cases v <;> rfl
theorem eqEvT (x y : Ev) : eqT Tryd.prog 20 34 (.agg x.row) (.agg y.row) = some (decide (x = y)) := by
  obtain ⟨a, b, c, d, e⟩ := x
  obtain ⟨a', b', c', d', e'⟩ := y
  show eqFs Tryd.prog (eqT Tryd.prog 19) _ _ (List.toArray _).toList = _
  rw [eqFs1 (v := a == a') (by decide) rfl rfl rfl, eqFs1 (v := b == b') (by decide) rfl rfl rfl, eqFs1 (v := c == c') (by decide) rfl rfl rfl, eqFs1 (v := d == d') (by decide) rfl rfl rfl, eqFs1 (v := e == e') (by decide) rfl rfl rfl]
  simp only [eqFs, Ev.mk.injEq, beq_iff_eq]
  by_cases h1 : a = a' <;> by_cases h2 : b = b' <;> by_cases h3 : c = c' <;> by_cases h4 : d = d' <;> by_cases h5 : e = e' <;> simp [h1, h2, h3, h4, h5]
theorem keqEv (x y : Ev) : keq Tryd.prog 34 (.agg x.row) (.agg y.row) = some (decide (x = y)) := by
  unfold keq
  rw [eqEvT]
  by_cases h : x = y
  · subst h
    have e : (DV.beq (.agg x.row) (.agg x.row) && plainKey (.agg x.row)) = true := by
      simp [DV.beq, DV.beqs, plainKey, Ev.row]
    simp [e]
  · simp [h]
theorem keyOkE (x : Ev) : keyOk Tryd.prog 34 (.agg x.row) = true := by
  show (keq Tryd.prog 34 (.agg x.row) (.agg x.row) == some true) = true
  rw [keqEv]
  simp
end Go.Det.C

/- Cover: the reference's small functions. -/
namespace Go.Det.C
open Go Go.Det Go.Proofs
set_option maxRecDepth 4000
set_option maxHeartbeats 4000000
set_option linter.unusedVariables false
set_option linter.unusedSimpArgs false
def refN (x : Inj) (y : Ev) : Bool :=
  if x.k == 3 then (y.k == 12) && ((y.a == x.w) && (y.b == 2))
  else if decide (x.k < 1) || (decide (x.k > 5) || ((y.w == x.w) || (y.b != x.w))) then false
  else (y.k == 4) || ((y.k == 5) || (y.k == 13))
theorem refN_eq (x : Inj) (y : Ev) : refN x y = noticesF x y := by
  unfold refN noticesF
  by_cases h3 : x.k = 3
  · simp [h3]
  · have h3' : (x.k == 3) = false := by simp [h3]
    rw [if_neg h3, h3']
    simp only [Bool.false_eq_true, if_false]
    by_cases hk : x.k < 1 ∨ x.k > 5
    · have e : (decide (x.k < 1) || (decide (x.k > 5) || ((y.w == x.w) || (y.b != x.w)))) = true := by
        rcases hk with h | h <;> simp [h]
      rw [if_pos e, if_neg (by omega)]
    · have h1 : decide (x.k < 1) = false := by simp; omega
      have h2 : decide (x.k > 5) = false := by simp; omega
      have hor : x.k = 1 ∨ x.k = 2 ∨ x.k = 4 ∨ x.k = 5 := by omega
      rw [h1, h2, if_pos hor]
      simp only [Bool.false_or]
      cases hw : (y.w == x.w) <;> cases hb : (y.b == x.w) <;> cases k4 : (y.k == 4) <;> cases k5 : (y.k == 5) <;> cases k13 : (y.k == 13) <;> simp_all [bne]
theorem notices15 (x : Inj) (y : Ev) (H : DH) : CallWp Tryd.prog X3 15 [.agg x.row, .agg y.row] H (fun r H' => r = .bool (noticesF x y) ∧ Above H H') := by
  rw [← refN_eq]
  have hB : Bx H H [] [] := Bx.init (fun f hf => by cases hf)
  obtain ⟨xt, xk, xw, xu⟩ := x
  obtain ⟨yt, yk, yw, ya, yb⟩ := y
  cases h3 : (xk == 3) with
  | true =>
    cases c0 : (yk == 12) with
    | false =>
      refine enter rfl Tryd.func15 rfl Tryd.ntmps15 rfl ?_
      dsimp only [List.cons_append, List.nil_append, List.length_cons, List.length_nil, List.replicate_succ, List.replicate_zero, Nat.reduceAdd, Nat.reduceSub]
      repeat' (first | dsimp only [putD, DV.cells, DH.new_next, DH.set_next, List.length_cons, List.length_nil, Nat.reduceAdd, List.set_cons_zero, List.set_cons_succ, getD_zero, getD_succ, fieldAt_zero, fieldAt_succ, thenD, blockD, retR] | apply dwp_seq | apply dwp_region | apply ops_nil | (apply ops_plain; (· exact rfl)) | (apply ops_off1; (· exact rfl); (· exact rfl); (· (with_reducible first | assumption | rfl | decide))) | (apply op_pick_f; (· exact rfl); (· exact rfl); (· (with_reducible first | assumption | rfl | decide)); (· exact rfl)) | (apply bx_load0; (· exact rfl); (· exact rfl); (· assumption); (· (repeat (first | with_reducible exact At.here | with_reducible apply At.there))); (· (first | exact partInj _ _ _ _ | exact partEv _ _ _ _ _ | exact partFireR _ | exact rfl))) | (apply bx_box; (· exact rfl); (· exact rfl); (· (first | (dsimp only [DV.cells, getD_zero, getD_succ, Sv.cells]; done) | (dsimp only [DV.cells, getD_zero, getD_succ, Sv.cells]; exact rfl) | exact rfl)); (· exact rfl); (· exact rfl); (· assumption); intro b1 H1 hB) | (apply op_at; (· exact rfl)) | (apply dwp_cond_t; (· exact rfl); (· (with_reducible first | assumption | rfl | decide))) | apply dwp_ret | (refine ⟨_, rfl, ?_⟩) | fail)
      exact ⟨congrArg DV.bool (by simp only [refN, h3, c0, if_true, Bool.false_eq_true, if_false, Bool.true_or, Bool.false_or, Bool.true_and, Bool.false_and, Bool.not_true, Bool.not_false, Bool.or_true, Bool.or_false, Bool.and_true, Bool.and_false]), hB.ab⟩
    | true =>
      cases c1 : (ya == xw) with
      | false =>
        refine enter rfl Tryd.func15 rfl Tryd.ntmps15 rfl ?_
        dsimp only [List.cons_append, List.nil_append, List.length_cons, List.length_nil, List.replicate_succ, List.replicate_zero, Nat.reduceAdd, Nat.reduceSub]
        repeat' (first | dsimp only [putD, DV.cells, DH.new_next, DH.set_next, List.length_cons, List.length_nil, Nat.reduceAdd, List.set_cons_zero, List.set_cons_succ, getD_zero, getD_succ, fieldAt_zero, fieldAt_succ, thenD, blockD, retR] | apply dwp_seq | apply dwp_region | apply ops_nil | (apply ops_plain; (· exact rfl)) | (apply ops_on; (· exact rfl); (· exact rfl); (· (with_reducible first | assumption | rfl | decide))) | (apply ops_off1; (· exact rfl); (· exact rfl); (· (with_reducible first | assumption | rfl | decide))) | (apply op_pick_t; (· exact rfl); (· exact rfl); (· (with_reducible first | assumption | rfl | decide)); (· exact rfl)) | (apply op_pick_f; (· exact rfl); (· exact rfl); (· (with_reducible first | assumption | rfl | decide)); (· exact rfl)) | (apply bx_load0; (· exact rfl); (· exact rfl); (· assumption); (· (repeat (first | with_reducible exact At.here | with_reducible apply At.there))); (· (first | exact partInj _ _ _ _ | exact partEv _ _ _ _ _ | exact partFireR _ | exact rfl))) | (apply bx_box; (· exact rfl); (· exact rfl); (· (first | (dsimp only [DV.cells, getD_zero, getD_succ, Sv.cells]; done) | (dsimp only [DV.cells, getD_zero, getD_succ, Sv.cells]; exact rfl) | exact rfl)); (· exact rfl); (· exact rfl); (· assumption); intro b1 H1 hB) | (apply op_at; (· exact rfl)) | (apply dwp_cond_t; (· exact rfl); (· (with_reducible first | assumption | rfl | decide))) | apply dwp_ret | (refine ⟨_, rfl, ?_⟩) | fail)
        exact ⟨congrArg DV.bool (by simp only [refN, h3, c0, c1, if_true, Bool.false_eq_true, if_false, Bool.true_or, Bool.false_or, Bool.true_and, Bool.false_and, Bool.not_true, Bool.not_false, Bool.or_true, Bool.or_false, Bool.and_true, Bool.and_false]), hB.ab⟩
      | true =>
        refine enter rfl Tryd.func15 rfl Tryd.ntmps15 rfl ?_
        dsimp only [List.cons_append, List.nil_append, List.length_cons, List.length_nil, List.replicate_succ, List.replicate_zero, Nat.reduceAdd, Nat.reduceSub]
        repeat' (first | dsimp only [putD, DV.cells, DH.new_next, DH.set_next, List.length_cons, List.length_nil, Nat.reduceAdd, List.set_cons_zero, List.set_cons_succ, getD_zero, getD_succ, fieldAt_zero, fieldAt_succ, thenD, blockD, retR] | apply dwp_seq | apply dwp_region | apply ops_nil | (apply ops_plain; (· exact rfl)) | (apply ops_on; (· exact rfl); (· exact rfl); (· (with_reducible first | assumption | rfl | decide))) | (apply op_pick_t; (· exact rfl); (· exact rfl); (· (with_reducible first | assumption | rfl | decide)); (· exact rfl)) | (apply bx_load0; (· exact rfl); (· exact rfl); (· assumption); (· (repeat (first | with_reducible exact At.here | with_reducible apply At.there))); (· (first | exact partInj _ _ _ _ | exact partEv _ _ _ _ _ | exact partFireR _ | exact rfl))) | (apply bx_box; (· exact rfl); (· exact rfl); (· (first | (dsimp only [DV.cells, getD_zero, getD_succ, Sv.cells]; done) | (dsimp only [DV.cells, getD_zero, getD_succ, Sv.cells]; exact rfl) | exact rfl)); (· exact rfl); (· exact rfl); (· assumption); intro b1 H1 hB) | (apply op_at; (· exact rfl)) | (apply dwp_cond_t; (· exact rfl); (· (with_reducible first | assumption | rfl | decide))) | apply dwp_ret | (refine ⟨_, rfl, ?_⟩) | fail)
        exact ⟨congrArg DV.bool (by simp only [refN, h3, c0, c1, if_true, Bool.false_eq_true, if_false, Bool.true_or, Bool.false_or, Bool.true_and, Bool.false_and, Bool.not_true, Bool.not_false, Bool.or_true, Bool.or_false, Bool.and_true, Bool.and_false]), hB.ab⟩
  | false =>
    cases c0 : decide (xk < 1) with
    | true =>
      refine enter rfl Tryd.func15 rfl Tryd.ntmps15 rfl ?_
      dsimp only [List.cons_append, List.nil_append, List.length_cons, List.length_nil, List.replicate_succ, List.replicate_zero, Nat.reduceAdd, Nat.reduceSub]
      repeat' (first | dsimp only [putD, DV.cells, DH.new_next, DH.set_next, List.length_cons, List.length_nil, Nat.reduceAdd, List.set_cons_zero, List.set_cons_succ, getD_zero, getD_succ, fieldAt_zero, fieldAt_succ, thenD, blockD, retR] | apply dwp_seq | apply dwp_region | apply ops_nil | (apply ops_plain; (· exact rfl)) | (apply ops_off0; (· exact rfl); (· exact rfl); (· (with_reducible first | assumption | rfl | decide))) | (apply op_pick_t; (· exact rfl); (· exact rfl); (· (with_reducible first | assumption | rfl | decide)); (· exact rfl)) | (apply bx_load0; (· exact rfl); (· exact rfl); (· assumption); (· (repeat (first | with_reducible exact At.here | with_reducible apply At.there))); (· (first | exact partInj _ _ _ _ | exact partEv _ _ _ _ _ | exact partFireR _ | exact rfl))) | (apply bx_box; (· exact rfl); (· exact rfl); (· (first | (dsimp only [DV.cells, getD_zero, getD_succ, Sv.cells]; done) | (dsimp only [DV.cells, getD_zero, getD_succ, Sv.cells]; exact rfl) | exact rfl)); (· exact rfl); (· exact rfl); (· assumption); intro b1 H1 hB) | (apply op_at; (· exact rfl)) | (apply dwp_cond_t; (· exact rfl); (· (with_reducible first | assumption | rfl | decide))) | (apply dwp_cond_f; (· exact rfl); (· (with_reducible first | assumption | rfl | decide))) | apply dwp_skip | apply dwp_ret | (refine ⟨_, rfl, ?_⟩) | fail)
      exact ⟨congrArg DV.bool (by simp only [refN, h3, c0, if_true, Bool.false_eq_true, if_false, Bool.true_or, Bool.false_or, Bool.true_and, Bool.false_and, Bool.not_true, Bool.not_false, Bool.or_true, Bool.or_false, Bool.and_true, Bool.and_false]), hB.ab⟩
    | false =>
      cases c1 : decide (xk > 5) with
      | true =>
        refine enter rfl Tryd.func15 rfl Tryd.ntmps15 rfl ?_
        dsimp only [List.cons_append, List.nil_append, List.length_cons, List.length_nil, List.replicate_succ, List.replicate_zero, Nat.reduceAdd, Nat.reduceSub]
        repeat' (first | dsimp only [putD, DV.cells, DH.new_next, DH.set_next, List.length_cons, List.length_nil, Nat.reduceAdd, List.set_cons_zero, List.set_cons_succ, getD_zero, getD_succ, fieldAt_zero, fieldAt_succ, thenD, blockD, retR] | apply dwp_seq | apply dwp_region | apply ops_nil | (apply ops_plain; (· exact rfl)) | (apply ops_on; (· exact rfl); (· exact rfl); (· (with_reducible first | assumption | rfl | decide))) | (apply ops_off0; (· exact rfl); (· exact rfl); (· (with_reducible first | assumption | rfl | decide))) | (apply op_pick_t; (· exact rfl); (· exact rfl); (· (with_reducible first | assumption | rfl | decide)); (· exact rfl)) | (apply op_pick_f; (· exact rfl); (· exact rfl); (· (with_reducible first | assumption | rfl | decide)); (· exact rfl)) | (apply bx_load0; (· exact rfl); (· exact rfl); (· assumption); (· (repeat (first | with_reducible exact At.here | with_reducible apply At.there))); (· (first | exact partInj _ _ _ _ | exact partEv _ _ _ _ _ | exact partFireR _ | exact rfl))) | (apply bx_box; (· exact rfl); (· exact rfl); (· (first | (dsimp only [DV.cells, getD_zero, getD_succ, Sv.cells]; done) | (dsimp only [DV.cells, getD_zero, getD_succ, Sv.cells]; exact rfl) | exact rfl)); (· exact rfl); (· exact rfl); (· assumption); intro b1 H1 hB) | (apply op_at; (· exact rfl)) | (apply dwp_cond_t; (· exact rfl); (· (with_reducible first | assumption | rfl | decide))) | (apply dwp_cond_f; (· exact rfl); (· (with_reducible first | assumption | rfl | decide))) | apply dwp_skip | apply dwp_ret | (refine ⟨_, rfl, ?_⟩) | fail)
        exact ⟨congrArg DV.bool (by simp only [refN, h3, c0, c1, if_true, Bool.false_eq_true, if_false, Bool.true_or, Bool.false_or, Bool.true_and, Bool.false_and, Bool.not_true, Bool.not_false, Bool.or_true, Bool.or_false, Bool.and_true, Bool.and_false]), hB.ab⟩
      | false =>
        cases c2 : (yw == xw) with
        | true =>
          refine enter rfl Tryd.func15 rfl Tryd.ntmps15 rfl ?_
          dsimp only [List.cons_append, List.nil_append, List.length_cons, List.length_nil, List.replicate_succ, List.replicate_zero, Nat.reduceAdd, Nat.reduceSub]
          repeat' (first | dsimp only [putD, DV.cells, DH.new_next, DH.set_next, List.length_cons, List.length_nil, Nat.reduceAdd, List.set_cons_zero, List.set_cons_succ, getD_zero, getD_succ, fieldAt_zero, fieldAt_succ, thenD, blockD, retR] | apply dwp_seq | apply dwp_region | apply ops_nil | (apply ops_plain; (· exact rfl)) | (apply ops_on; (· exact rfl); (· exact rfl); (· (with_reducible first | assumption | rfl | decide))) | (apply ops_off0; (· exact rfl); (· exact rfl); (· (with_reducible first | assumption | rfl | decide))) | (apply op_pick_t; (· exact rfl); (· exact rfl); (· (with_reducible first | assumption | rfl | decide)); (· exact rfl)) | (apply op_pick_f; (· exact rfl); (· exact rfl); (· (with_reducible first | assumption | rfl | decide)); (· exact rfl)) | (apply bx_load0; (· exact rfl); (· exact rfl); (· assumption); (· (repeat (first | with_reducible exact At.here | with_reducible apply At.there))); (· (first | exact partInj _ _ _ _ | exact partEv _ _ _ _ _ | exact partFireR _ | exact rfl))) | (apply bx_box; (· exact rfl); (· exact rfl); (· (first | (dsimp only [DV.cells, getD_zero, getD_succ, Sv.cells]; done) | (dsimp only [DV.cells, getD_zero, getD_succ, Sv.cells]; exact rfl) | exact rfl)); (· exact rfl); (· exact rfl); (· assumption); intro b1 H1 hB) | (apply op_at; (· exact rfl)) | (apply dwp_cond_t; (· exact rfl); (· (with_reducible first | assumption | rfl | decide))) | (apply dwp_cond_f; (· exact rfl); (· (with_reducible first | assumption | rfl | decide))) | apply dwp_skip | apply dwp_ret | (refine ⟨_, rfl, ?_⟩) | fail)
          exact ⟨congrArg DV.bool (by simp only [refN, h3, c0, c1, c2, if_true, Bool.false_eq_true, if_false, Bool.true_or, Bool.false_or, Bool.true_and, Bool.false_and, Bool.not_true, Bool.not_false, Bool.or_true, Bool.or_false, Bool.and_true, Bool.and_false]), hB.ab⟩
        | false =>
          cases c3 : (yb != xw) with
          | true =>
            refine enter rfl Tryd.func15 rfl Tryd.ntmps15 rfl ?_
            dsimp only [List.cons_append, List.nil_append, List.length_cons, List.length_nil, List.replicate_succ, List.replicate_zero, Nat.reduceAdd, Nat.reduceSub]
            repeat' (first | dsimp only [putD, DV.cells, DH.new_next, DH.set_next, List.length_cons, List.length_nil, Nat.reduceAdd, List.set_cons_zero, List.set_cons_succ, getD_zero, getD_succ, fieldAt_zero, fieldAt_succ, thenD, blockD, retR] | apply dwp_seq | apply dwp_region | apply ops_nil | (apply ops_plain; (· exact rfl)) | (apply ops_on; (· exact rfl); (· exact rfl); (· (with_reducible first | assumption | rfl | decide))) | (apply op_pick_f; (· exact rfl); (· exact rfl); (· (with_reducible first | assumption | rfl | decide)); (· exact rfl)) | (apply bx_load0; (· exact rfl); (· exact rfl); (· assumption); (· (repeat (first | with_reducible exact At.here | with_reducible apply At.there))); (· (first | exact partInj _ _ _ _ | exact partEv _ _ _ _ _ | exact partFireR _ | exact rfl))) | (apply bx_box; (· exact rfl); (· exact rfl); (· (first | (dsimp only [DV.cells, getD_zero, getD_succ, Sv.cells]; done) | (dsimp only [DV.cells, getD_zero, getD_succ, Sv.cells]; exact rfl) | exact rfl)); (· exact rfl); (· exact rfl); (· assumption); intro b1 H1 hB) | (apply op_at; (· exact rfl)) | (apply dwp_cond_t; (· exact rfl); (· (with_reducible first | assumption | rfl | decide))) | (apply dwp_cond_f; (· exact rfl); (· (with_reducible first | assumption | rfl | decide))) | apply dwp_skip | apply dwp_ret | (refine ⟨_, rfl, ?_⟩) | fail)
            exact ⟨congrArg DV.bool (by simp only [refN, h3, c0, c1, c2, c3, if_true, Bool.false_eq_true, if_false, Bool.true_or, Bool.false_or, Bool.true_and, Bool.false_and, Bool.not_true, Bool.not_false, Bool.or_true, Bool.or_false, Bool.and_true, Bool.and_false]), hB.ab⟩
          | false =>
            cases c4 : (yk == 4) with
            | true =>
              refine enter rfl Tryd.func15 rfl Tryd.ntmps15 rfl ?_
              dsimp only [List.cons_append, List.nil_append, List.length_cons, List.length_nil, List.replicate_succ, List.replicate_zero, Nat.reduceAdd, Nat.reduceSub]
              repeat' (first | dsimp only [putD, DV.cells, DH.new_next, DH.set_next, List.length_cons, List.length_nil, Nat.reduceAdd, List.set_cons_zero, List.set_cons_succ, getD_zero, getD_succ, fieldAt_zero, fieldAt_succ, thenD, blockD, retR] | apply dwp_seq | apply dwp_region | apply ops_nil | (apply ops_plain; (· exact rfl)) | (apply ops_on; (· exact rfl); (· exact rfl); (· (with_reducible first | assumption | rfl | decide))) | (apply ops_off0; (· exact rfl); (· exact rfl); (· (with_reducible first | assumption | rfl | decide))) | (apply op_pick_t; (· exact rfl); (· exact rfl); (· (with_reducible first | assumption | rfl | decide)); (· exact rfl)) | (apply op_pick_f; (· exact rfl); (· exact rfl); (· (with_reducible first | assumption | rfl | decide)); (· exact rfl)) | (apply bx_load0; (· exact rfl); (· exact rfl); (· assumption); (· (repeat (first | with_reducible exact At.here | with_reducible apply At.there))); (· (first | exact partInj _ _ _ _ | exact partEv _ _ _ _ _ | exact partFireR _ | exact rfl))) | (apply bx_box; (· exact rfl); (· exact rfl); (· (first | (dsimp only [DV.cells, getD_zero, getD_succ, Sv.cells]; done) | (dsimp only [DV.cells, getD_zero, getD_succ, Sv.cells]; exact rfl) | exact rfl)); (· exact rfl); (· exact rfl); (· assumption); intro b1 H1 hB) | (apply op_at; (· exact rfl)) | (apply dwp_cond_f; (· exact rfl); (· (with_reducible first | assumption | rfl | decide))) | apply dwp_skip | apply dwp_ret | (refine ⟨_, rfl, ?_⟩) | fail)
              exact ⟨congrArg DV.bool (by simp only [refN, h3, c0, c1, c2, c3, c4, if_true, Bool.false_eq_true, if_false, Bool.true_or, Bool.false_or, Bool.true_and, Bool.false_and, Bool.not_true, Bool.not_false, Bool.or_true, Bool.or_false, Bool.and_true, Bool.and_false]), hB.ab⟩
            | false =>
              cases c5 : (yk == 5) with
              | true =>
                refine enter rfl Tryd.func15 rfl Tryd.ntmps15 rfl ?_
                dsimp only [List.cons_append, List.nil_append, List.length_cons, List.length_nil, List.replicate_succ, List.replicate_zero, Nat.reduceAdd, Nat.reduceSub]
                repeat' (first | dsimp only [putD, DV.cells, DH.new_next, DH.set_next, List.length_cons, List.length_nil, Nat.reduceAdd, List.set_cons_zero, List.set_cons_succ, getD_zero, getD_succ, fieldAt_zero, fieldAt_succ, thenD, blockD, retR] | apply dwp_seq | apply dwp_region | apply ops_nil | (apply ops_plain; (· exact rfl)) | (apply ops_on; (· exact rfl); (· exact rfl); (· (with_reducible first | assumption | rfl | decide))) | (apply ops_off0; (· exact rfl); (· exact rfl); (· (with_reducible first | assumption | rfl | decide))) | (apply op_pick_t; (· exact rfl); (· exact rfl); (· (with_reducible first | assumption | rfl | decide)); (· exact rfl)) | (apply op_pick_f; (· exact rfl); (· exact rfl); (· (with_reducible first | assumption | rfl | decide)); (· exact rfl)) | (apply bx_load0; (· exact rfl); (· exact rfl); (· assumption); (· (repeat (first | with_reducible exact At.here | with_reducible apply At.there))); (· (first | exact partInj _ _ _ _ | exact partEv _ _ _ _ _ | exact partFireR _ | exact rfl))) | (apply bx_box; (· exact rfl); (· exact rfl); (· (first | (dsimp only [DV.cells, getD_zero, getD_succ, Sv.cells]; done) | (dsimp only [DV.cells, getD_zero, getD_succ, Sv.cells]; exact rfl) | exact rfl)); (· exact rfl); (· exact rfl); (· assumption); intro b1 H1 hB) | (apply op_at; (· exact rfl)) | (apply dwp_cond_f; (· exact rfl); (· (with_reducible first | assumption | rfl | decide))) | apply dwp_skip | apply dwp_ret | (refine ⟨_, rfl, ?_⟩) | fail)
                exact ⟨congrArg DV.bool (by simp only [refN, h3, c0, c1, c2, c3, c4, c5, if_true, Bool.false_eq_true, if_false, Bool.true_or, Bool.false_or, Bool.true_and, Bool.false_and, Bool.not_true, Bool.not_false, Bool.or_true, Bool.or_false, Bool.and_true, Bool.and_false]), hB.ab⟩
              | false =>
                refine enter rfl Tryd.func15 rfl Tryd.ntmps15 rfl ?_
                dsimp only [List.cons_append, List.nil_append, List.length_cons, List.length_nil, List.replicate_succ, List.replicate_zero, Nat.reduceAdd, Nat.reduceSub]
                repeat' (first | dsimp only [putD, DV.cells, DH.new_next, DH.set_next, List.length_cons, List.length_nil, Nat.reduceAdd, List.set_cons_zero, List.set_cons_succ, getD_zero, getD_succ, fieldAt_zero, fieldAt_succ, thenD, blockD, retR] | apply dwp_seq | apply dwp_region | apply ops_nil | (apply ops_plain; (· exact rfl)) | (apply ops_on; (· exact rfl); (· exact rfl); (· (with_reducible first | assumption | rfl | decide))) | (apply op_pick_f; (· exact rfl); (· exact rfl); (· (with_reducible first | assumption | rfl | decide)); (· exact rfl)) | (apply bx_load0; (· exact rfl); (· exact rfl); (· assumption); (· (repeat (first | with_reducible exact At.here | with_reducible apply At.there))); (· (first | exact partInj _ _ _ _ | exact partEv _ _ _ _ _ | exact partFireR _ | exact rfl))) | (apply bx_box; (· exact rfl); (· exact rfl); (· (first | (dsimp only [DV.cells, getD_zero, getD_succ, Sv.cells]; done) | (dsimp only [DV.cells, getD_zero, getD_succ, Sv.cells]; exact rfl) | exact rfl)); (· exact rfl); (· exact rfl); (· assumption); intro b1 H1 hB) | (apply op_at; (· exact rfl)) | (apply dwp_cond_f; (· exact rfl); (· (with_reducible first | assumption | rfl | decide))) | apply dwp_skip | apply dwp_ret | (refine ⟨_, rfl, ?_⟩) | fail)
                exact ⟨congrArg DV.bool (by simp only [refN, h3, c0, c1, c2, c3, c4, c5, if_true, Bool.false_eq_true, if_false, Bool.true_or, Bool.false_or, Bool.true_and, Bool.false_and, Bool.not_true, Bool.not_false, Bool.or_true, Bool.or_false, Bool.and_true, Bool.and_false]), hB.ab⟩
theorem begins37 (x : Inj) (y : Ev) (H : DH) : CallWp Tryd.prog X3 37 [.agg x.row, .agg y.row] H (fun r H' => r = .bool (decide (y = keyOf x)) ∧ Above H H') := by
  have hB : Bx H H [] [] := Bx.init (fun f hf => by cases hf)
  have hq : eqD Tryd.prog 34 (.agg y.row) (.agg (keyOf x).row) = some (decide (y = keyOf x)) := by
    show (if Tryd.prog.eqGuardType Tryd.prog.depth 34 = true then none else eqT Tryd.prog 20 34 (.agg y.row) (.agg (keyOf x).row)) = _
    rw [if_neg (by decide +kernel), eqEvT]
  obtain ⟨xt, xk, xw, xu⟩ := x
  obtain ⟨yt, yk, yw, ya, yb⟩ := y
  refine enter rfl Tryd.func37 rfl Tryd.ntmps37 rfl ?_
  dsimp only [List.cons_append, List.nil_append, List.length_cons, List.length_nil, List.replicate_succ, List.replicate_zero, Nat.reduceAdd, Nat.reduceSub]
  repeat' (first | dsimp only [putD, DV.cells, DH.new_next, DH.set_next, List.length_cons, List.length_nil, Nat.reduceAdd, List.set_cons_zero, List.set_cons_succ, getD_zero, getD_succ, fieldAt_zero, fieldAt_succ, thenD, blockD, retR] | apply dwp_seq | apply dwp_region | apply ops_nil | (apply ops_plain; (· exact rfl)) | (apply op_at; (· exact opD_eql rfl rfl rfl hq)) | (apply bx_load0; (· exact rfl); (· exact rfl); (· assumption); (· (repeat (first | with_reducible exact At.here | with_reducible apply At.there))); (· (first | exact partInj _ _ _ _ | exact partEv _ _ _ _ _ | exact partFireR _ | exact rfl))) | (apply bx_box; (· exact rfl); (· exact rfl); (· (first | (dsimp only [DV.cells, getD_zero, getD_succ, Sv.cells]; done) | (dsimp only [DV.cells, getD_zero, getD_succ, Sv.cells]; exact rfl) | exact rfl)); (· exact rfl); (· exact rfl); (· assumption); intro b1 H1 hB) | (apply op_at; (· exact rfl)) | apply dwp_ret | (refine ⟨_, rfl, ?_⟩) | fail)
  exact ⟨rfl, hB.ab⟩
theorem may43e {l : List Int} {s : DV} {H : DH} (h : TimesE H l s) : CallWp Tryd.prog X3 43 [s] H (fun r H' => r = .bool (l.all fitB) ∧ H' = H) := by
  have far : ∀ a : Int, fitB a = !(decide (a > 1152921504606846976) || decide (a < -1152921504606846976)) := by
    intro a
    unfold fitB
    by_cases h1 : a ≤ 1152921504606846976 <;> by_cases h2 : -1152921504606846976 ≤ a <;> simp [h1, h2] <;> omega
  cases h with
  | two h =>
    rename_i b x y
    cases px : decide (x > 1152921504606846976) with
    | true =>
      refine enter rfl Tryd.func43 rfl Tryd.ntmps43 rfl ?_
      dsimp only [List.cons_append, List.nil_append, List.length_cons, List.length_nil, List.replicate_succ, List.replicate_zero, Nat.reduceAdd, Nat.reduceSub]
      repeat' (first | dsimp only [putD, DV.cells, DH.new_next, DH.set_next, List.length_cons, List.length_nil, Nat.reduceAdd, List.set_cons_zero, List.set_cons_succ, getD_zero, getD_succ, fieldAt_zero, fieldAt_succ, thenD, blockD, retR] | refine dwp_round ?_ | apply dwp_seq | apply dwp_region | apply ops_nil | (apply ops_plain; (· exact rfl)) | (apply ops_off0; (· exact rfl); (· exact rfl); (· (with_reducible first | assumption | rfl | decide))) | (apply op_pick_t; (· exact rfl); (· exact rfl); (· (with_reducible first | assumption | rfl | decide)); (· exact rfl)) | (apply op_load_at; (· exact rfl); (· exact rfl); (· exact h); (· exact rfl); (· exact rfl)) | (apply op_at; (· exact rfl)) | (apply dwp_cond_t; (· exact rfl); (· (with_reducible first | assumption | rfl | decide))) | apply dwp_block | apply dwp_skip | apply dwp_ret | (refine ⟨_, rfl, ?_⟩) | fail)
      exact ⟨congrArg DV.bool (by simp only [List.all_cons, List.all_nil, far, px]; rfl), rfl⟩
    | false =>
      cases qx : decide (x < -1152921504606846976) with
      | true =>
        refine enter rfl Tryd.func43 rfl Tryd.ntmps43 rfl ?_
        dsimp only [List.cons_append, List.nil_append, List.length_cons, List.length_nil, List.replicate_succ, List.replicate_zero, Nat.reduceAdd, Nat.reduceSub]
        repeat' (first | dsimp only [putD, DV.cells, DH.new_next, DH.set_next, List.length_cons, List.length_nil, Nat.reduceAdd, List.set_cons_zero, List.set_cons_succ, getD_zero, getD_succ, fieldAt_zero, fieldAt_succ, thenD, blockD, retR] | refine dwp_round ?_ | apply dwp_seq | apply dwp_region | apply ops_nil | (apply ops_plain; (· exact rfl)) | (apply ops_on; (· exact rfl); (· exact rfl); (· (with_reducible first | assumption | rfl | decide))) | (apply op_pick_f; (· exact rfl); (· exact rfl); (· (with_reducible first | assumption | rfl | decide)); (· exact rfl)) | (apply op_load_at; (· exact rfl); (· exact rfl); (· exact h); (· exact rfl); (· exact rfl)) | (apply op_at; (· exact rfl)) | (apply dwp_cond_t; (· exact rfl); (· (with_reducible first | assumption | rfl | decide))) | apply dwp_block | apply dwp_skip | apply dwp_ret | (refine ⟨_, rfl, ?_⟩) | fail)
        exact ⟨congrArg DV.bool (by simp only [List.all_cons, List.all_nil, far, px, qx]; rfl), rfl⟩
      | false =>
        cases py : decide (y > 1152921504606846976) with
        | true =>
          refine enter rfl Tryd.func43 rfl Tryd.ntmps43 rfl ?_
          dsimp only [List.cons_append, List.nil_append, List.length_cons, List.length_nil, List.replicate_succ, List.replicate_zero, Nat.reduceAdd, Nat.reduceSub]
          repeat' (first | dsimp only [putD, DV.cells, DH.new_next, DH.set_next, List.length_cons, List.length_nil, Nat.reduceAdd, List.set_cons_zero, List.set_cons_succ, getD_zero, getD_succ, fieldAt_zero, fieldAt_succ, thenD, blockD, retR] | refine dwp_round ?_ | apply dwp_seq | apply dwp_region | apply ops_nil | (apply ops_plain; (· exact rfl)) | (apply ops_on; (· exact rfl); (· exact rfl); (· (with_reducible first | assumption | rfl | decide))) | (apply ops_off0; (· exact rfl); (· exact rfl); (· (with_reducible first | assumption | rfl | decide))) | (apply op_pick_t; (· exact rfl); (· exact rfl); (· (with_reducible first | assumption | rfl | decide)); (· exact rfl)) | (apply op_pick_f; (· exact rfl); (· exact rfl); (· (with_reducible first | assumption | rfl | decide)); (· exact rfl)) | (apply op_load_at; (· exact rfl); (· exact rfl); (· exact h); (· exact rfl); (· exact rfl)) | (apply op_at; (· exact rfl)) | (apply dwp_cond_t; (· exact rfl); (· (with_reducible first | assumption | rfl | decide))) | (apply dwp_cond_f; (· exact rfl); (· (with_reducible first | assumption | rfl | decide))) | apply dwp_block | apply dwp_skip | apply dwp_ret | (refine ⟨_, rfl, ?_⟩) | fail)
          exact ⟨congrArg DV.bool (by simp only [List.all_cons, List.all_nil, far, px, qx, py]; rfl), rfl⟩
        | false =>
          cases qy : decide (y < -1152921504606846976) with
          | true =>
            refine enter rfl Tryd.func43 rfl Tryd.ntmps43 rfl ?_
            dsimp only [List.cons_append, List.nil_append, List.length_cons, List.length_nil, List.replicate_succ, List.replicate_zero, Nat.reduceAdd, Nat.reduceSub]
            repeat' (first | dsimp only [putD, DV.cells, DH.new_next, DH.set_next, List.length_cons, List.length_nil, Nat.reduceAdd, List.set_cons_zero, List.set_cons_succ, getD_zero, getD_succ, fieldAt_zero, fieldAt_succ, thenD, blockD, retR] | refine dwp_round ?_ | apply dwp_seq | apply dwp_region | apply ops_nil | (apply ops_plain; (· exact rfl)) | (apply ops_on; (· exact rfl); (· exact rfl); (· (with_reducible first | assumption | rfl | decide))) | (apply op_pick_f; (· exact rfl); (· exact rfl); (· (with_reducible first | assumption | rfl | decide)); (· exact rfl)) | (apply op_load_at; (· exact rfl); (· exact rfl); (· exact h); (· exact rfl); (· exact rfl)) | (apply op_at; (· exact rfl)) | (apply dwp_cond_t; (· exact rfl); (· (with_reducible first | assumption | rfl | decide))) | (apply dwp_cond_f; (· exact rfl); (· (with_reducible first | assumption | rfl | decide))) | apply dwp_block | apply dwp_skip | apply dwp_ret | (refine ⟨_, rfl, ?_⟩) | fail)
            exact ⟨congrArg DV.bool (by simp only [List.all_cons, List.all_nil, far, px, qx, py, qy]; rfl), rfl⟩
          | false =>
            refine enter rfl Tryd.func43 rfl Tryd.ntmps43 rfl ?_
            dsimp only [List.cons_append, List.nil_append, List.length_cons, List.length_nil, List.replicate_succ, List.replicate_zero, Nat.reduceAdd, Nat.reduceSub]
            repeat' (first | dsimp only [putD, DV.cells, DH.new_next, DH.set_next, List.length_cons, List.length_nil, Nat.reduceAdd, List.set_cons_zero, List.set_cons_succ, getD_zero, getD_succ, fieldAt_zero, fieldAt_succ, thenD, blockD, retR] | refine dwp_round ?_ | apply dwp_seq | apply dwp_region | apply ops_nil | (apply ops_plain; (· exact rfl)) | (apply ops_on; (· exact rfl); (· exact rfl); (· (with_reducible first | assumption | rfl | decide))) | (apply op_pick_f; (· exact rfl); (· exact rfl); (· (with_reducible first | assumption | rfl | decide)); (· exact rfl)) | (apply op_load_at; (· exact rfl); (· exact rfl); (· exact h); (· exact rfl); (· exact rfl)) | (apply op_at; (· exact rfl)) | (apply dwp_cond_t; (· exact rfl); (· (with_reducible first | assumption | rfl | decide))) | (apply dwp_cond_f; (· exact rfl); (· (with_reducible first | assumption | rfl | decide))) | apply dwp_block | apply dwp_skip | apply dwp_ret | apply dwp_exit | (refine ⟨_, rfl, ?_⟩) | fail)
            exact ⟨congrArg DV.bool (by simp only [List.all_cons, List.all_nil, far, px, qx, py, qy]; rfl), rfl⟩
  | one h =>
    rename_i b x
    cases px : decide (x > 1152921504606846976) with
    | true =>
      refine enter rfl Tryd.func43 rfl Tryd.ntmps43 rfl ?_
      dsimp only [List.cons_append, List.nil_append, List.length_cons, List.length_nil, List.replicate_succ, List.replicate_zero, Nat.reduceAdd, Nat.reduceSub]
      repeat' (first | dsimp only [putD, DV.cells, DH.new_next, DH.set_next, List.length_cons, List.length_nil, Nat.reduceAdd, List.set_cons_zero, List.set_cons_succ, getD_zero, getD_succ, fieldAt_zero, fieldAt_succ, thenD, blockD, retR] | refine dwp_round ?_ | apply dwp_seq | apply dwp_region | apply ops_nil | (apply ops_plain; (· exact rfl)) | (apply ops_off0; (· exact rfl); (· exact rfl); (· (with_reducible first | assumption | rfl | decide))) | (apply op_pick_t; (· exact rfl); (· exact rfl); (· (with_reducible first | assumption | rfl | decide)); (· exact rfl)) | (apply op_load_at; (· exact rfl); (· exact rfl); (· exact h); (· exact rfl); (· exact rfl)) | (apply op_at; (· exact rfl)) | (apply dwp_cond_t; (· exact rfl); (· (with_reducible first | assumption | rfl | decide))) | apply dwp_block | apply dwp_skip | apply dwp_ret | (refine ⟨_, rfl, ?_⟩) | fail)
      exact ⟨congrArg DV.bool (by simp only [List.all_cons, List.all_nil, far, px]; rfl), rfl⟩
    | false =>
      cases qx : decide (x < -1152921504606846976) with
      | true =>
        refine enter rfl Tryd.func43 rfl Tryd.ntmps43 rfl ?_
        dsimp only [List.cons_append, List.nil_append, List.length_cons, List.length_nil, List.replicate_succ, List.replicate_zero, Nat.reduceAdd, Nat.reduceSub]
        repeat' (first | dsimp only [putD, DV.cells, DH.new_next, DH.set_next, List.length_cons, List.length_nil, Nat.reduceAdd, List.set_cons_zero, List.set_cons_succ, getD_zero, getD_succ, fieldAt_zero, fieldAt_succ, thenD, blockD, retR] | refine dwp_round ?_ | apply dwp_seq | apply dwp_region | apply ops_nil | (apply ops_plain; (· exact rfl)) | (apply ops_on; (· exact rfl); (· exact rfl); (· (with_reducible first | assumption | rfl | decide))) | (apply op_pick_f; (· exact rfl); (· exact rfl); (· (with_reducible first | assumption | rfl | decide)); (· exact rfl)) | (apply op_load_at; (· exact rfl); (· exact rfl); (· exact h); (· exact rfl); (· exact rfl)) | (apply op_at; (· exact rfl)) | (apply dwp_cond_t; (· exact rfl); (· (with_reducible first | assumption | rfl | decide))) | apply dwp_block | apply dwp_skip | apply dwp_ret | (refine ⟨_, rfl, ?_⟩) | fail)
        exact ⟨congrArg DV.bool (by simp only [List.all_cons, List.all_nil, far, px, qx]; rfl), rfl⟩
      | false =>
        refine enter rfl Tryd.func43 rfl Tryd.ntmps43 rfl ?_
        dsimp only [List.cons_append, List.nil_append, List.length_cons, List.length_nil, List.replicate_succ, List.replicate_zero, Nat.reduceAdd, Nat.reduceSub]
        repeat' (first | dsimp only [putD, DV.cells, DH.new_next, DH.set_next, List.length_cons, List.length_nil, Nat.reduceAdd, List.set_cons_zero, List.set_cons_succ, getD_zero, getD_succ, fieldAt_zero, fieldAt_succ, thenD, blockD, retR] | refine dwp_round ?_ | apply dwp_seq | apply dwp_region | apply ops_nil | (apply ops_plain; (· exact rfl)) | (apply ops_on; (· exact rfl); (· exact rfl); (· (with_reducible first | assumption | rfl | decide))) | (apply op_pick_f; (· exact rfl); (· exact rfl); (· (with_reducible first | assumption | rfl | decide)); (· exact rfl)) | (apply op_load_at; (· exact rfl); (· exact rfl); (· exact h); (· exact rfl); (· exact rfl)) | (apply op_at; (· exact rfl)) | (apply dwp_cond_t; (· exact rfl); (· (with_reducible first | assumption | rfl | decide))) | (apply dwp_cond_f; (· exact rfl); (· (with_reducible first | assumption | rfl | decide))) | apply dwp_block | apply dwp_skip | apply dwp_ret | apply dwp_exit | (refine ⟨_, rfl, ?_⟩) | fail)
        exact ⟨congrArg DV.bool (by simp only [List.all_cons, List.all_nil, far, px, qx]; rfl), rfl⟩
def refLess (x y : Inj) : Bool := if x.t != y.t then decide (x.t < y.t) else if x.k != y.k then decide (x.k < y.k) else if x.w != y.w then decide (x.w < y.w) else decide (x.u < y.u)
theorem refLess_eq (x y : Inj) : refLess x y = decide (compareF x y < 0) := by
  have h : ∀ a b c : Int, cmpF a b = c → (a < b ∧ c = -1) ∨ (b < a ∧ c = 1) ∨ (a = b ∧ c = 0) := by
    intro a b c e
    unfold cmpF at e
    split at e
    · exact .inl ⟨by assumption, e.symm⟩
    · split at e
      · exact .inr (.inl ⟨by assumption, e.symm⟩)
      · exact .inr (.inr ⟨by omega, e.symm⟩)
  unfold refLess compareF
  rcases h x.t y.t _ rfl with ⟨h1, e1⟩ | ⟨h1, e1⟩ | ⟨h1, e1⟩ <;> rw [e1]
  · have n1 : (x.t != y.t) = true := by simp; omega
    rw [if_pos n1]; simp [or4]; omega
  · have n1 : (x.t != y.t) = true := by simp; omega
    rw [if_pos n1]; simp [or4]; omega
  · have n1 : (x.t != y.t) = false := by simp [h1]
    rw [n1]
    rcases h x.k y.k _ rfl with ⟨h2, e2⟩ | ⟨h2, e2⟩ | ⟨h2, e2⟩ <;> rw [e2]
    · have n2 : (x.k != y.k) = true := by simp; omega
      rw [n2]; simp [or4]; omega
    · have n2 : (x.k != y.k) = true := by simp; omega
      rw [n2]; simp [or4]; omega
    · have n2 : (x.k != y.k) = false := by simp [h2]
      rw [n2]
      rcases h x.w y.w _ rfl with ⟨h3, e3⟩ | ⟨h3, e3⟩ | ⟨h3, e3⟩ <;> rw [e3]
      · have n3 : (x.w != y.w) = true := by simp; omega
        rw [n3]; simp [or4]; omega
      · have n3 : (x.w != y.w) = true := by simp; omega
        rw [n3]; simp [or4]; omega
      · have n3 : (x.w != y.w) = false := by simp [h3]
        rw [n3]
        rcases h x.u y.u _ rfl with ⟨h4, e4⟩ | ⟨h4, e4⟩ | ⟨h4, e4⟩ <;> rw [e4] <;> simp [or4] <;> omega
theorem less66 (x y : Inj) (H : DH) : CallWp Tryd.prog X3 66 [.agg x.row, .agg y.row] H (fun r H' => r = .bool (decide (compareF x y < 0)) ∧ Above H H') := by
  rw [← refLess_eq]
  have hB : Bx H H [] [] := Bx.init (fun f hf => by cases hf)
  obtain ⟨xt, xk, xw, xu⟩ := x
  obtain ⟨yt, yk, yw, yu⟩ := y
  cases c0 : (xt != yt) with
  | true =>
    refine enter rfl Tryd.func66 rfl Tryd.ntmps66 rfl ?_
    dsimp only [List.cons_append, List.nil_append, List.length_cons, List.length_nil, List.replicate_succ, List.replicate_zero, Nat.reduceAdd, Nat.reduceSub]
    repeat' (first | dsimp only [putD, DV.cells, DH.new_next, DH.set_next, List.length_cons, List.length_nil, Nat.reduceAdd, List.set_cons_zero, List.set_cons_succ, getD_zero, getD_succ, fieldAt_zero, fieldAt_succ, thenD, blockD, retR] | apply dwp_seq | apply dwp_region | apply ops_nil | (apply ops_plain; (· exact rfl)) | (apply bx_load0; (· exact rfl); (· exact rfl); (· assumption); (· (repeat (first | with_reducible exact At.here | with_reducible apply At.there))); (· (first | exact partInj _ _ _ _ | exact partEv _ _ _ _ _ | exact partFireR _ | exact rfl))) | (apply bx_box; (· exact rfl); (· exact rfl); (· (first | (dsimp only [DV.cells, getD_zero, getD_succ, Sv.cells]; done) | (dsimp only [DV.cells, getD_zero, getD_succ, Sv.cells]; exact rfl) | exact rfl)); (· exact rfl); (· exact rfl); (· assumption); intro b1 H1 hB) | (apply op_at; (· exact rfl)) | (apply dwp_cond_t; (· exact rfl); (· (with_reducible first | assumption | rfl | decide))) | apply dwp_ret | (refine ⟨_, rfl, ?_⟩) | fail)
    exact ⟨congrArg DV.bool (by simp only [refLess, c0, if_true, Bool.false_eq_true, if_false, Bool.true_or, Bool.false_or, Bool.true_and, Bool.false_and, Bool.not_true, Bool.not_false, Bool.or_true, Bool.or_false, Bool.and_true, Bool.and_false]), hB.ab⟩
  | false =>
    cases c1 : (xk != yk) with
    | true =>
      refine enter rfl Tryd.func66 rfl Tryd.ntmps66 rfl ?_
      dsimp only [List.cons_append, List.nil_append, List.length_cons, List.length_nil, List.replicate_succ, List.replicate_zero, Nat.reduceAdd, Nat.reduceSub]
      repeat' (first | dsimp only [putD, DV.cells, DH.new_next, DH.set_next, List.length_cons, List.length_nil, Nat.reduceAdd, List.set_cons_zero, List.set_cons_succ, getD_zero, getD_succ, fieldAt_zero, fieldAt_succ, thenD, blockD, retR] | apply dwp_seq | apply dwp_region | apply ops_nil | (apply ops_plain; (· exact rfl)) | (apply bx_load0; (· exact rfl); (· exact rfl); (· assumption); (· (repeat (first | with_reducible exact At.here | with_reducible apply At.there))); (· (first | exact partInj _ _ _ _ | exact partEv _ _ _ _ _ | exact partFireR _ | exact rfl))) | (apply bx_box; (· exact rfl); (· exact rfl); (· (first | (dsimp only [DV.cells, getD_zero, getD_succ, Sv.cells]; done) | (dsimp only [DV.cells, getD_zero, getD_succ, Sv.cells]; exact rfl) | exact rfl)); (· exact rfl); (· exact rfl); (· assumption); intro b1 H1 hB) | (apply op_at; (· exact rfl)) | (apply dwp_cond_t; (· exact rfl); (· (with_reducible first | assumption | rfl | decide))) | (apply dwp_cond_f; (· exact rfl); (· (with_reducible first | assumption | rfl | decide))) | apply dwp_skip | apply dwp_ret | (refine ⟨_, rfl, ?_⟩) | fail)
      exact ⟨congrArg DV.bool (by simp only [refLess, c0, c1, if_true, Bool.false_eq_true, if_false, Bool.true_or, Bool.false_or, Bool.true_and, Bool.false_and, Bool.not_true, Bool.not_false, Bool.or_true, Bool.or_false, Bool.and_true, Bool.and_false]), hB.ab⟩
    | false =>
      cases c2 : (xw != yw) with
      | true =>
        refine enter rfl Tryd.func66 rfl Tryd.ntmps66 rfl ?_
        dsimp only [List.cons_append, List.nil_append, List.length_cons, List.length_nil, List.replicate_succ, List.replicate_zero, Nat.reduceAdd, Nat.reduceSub]
        repeat' (first | dsimp only [putD, DV.cells, DH.new_next, DH.set_next, List.length_cons, List.length_nil, Nat.reduceAdd, List.set_cons_zero, List.set_cons_succ, getD_zero, getD_succ, fieldAt_zero, fieldAt_succ, thenD, blockD, retR] | apply dwp_seq | apply dwp_region | apply ops_nil | (apply ops_plain; (· exact rfl)) | (apply bx_load0; (· exact rfl); (· exact rfl); (· assumption); (· (repeat (first | with_reducible exact At.here | with_reducible apply At.there))); (· (first | exact partInj _ _ _ _ | exact partEv _ _ _ _ _ | exact partFireR _ | exact rfl))) | (apply bx_box; (· exact rfl); (· exact rfl); (· (first | (dsimp only [DV.cells, getD_zero, getD_succ, Sv.cells]; done) | (dsimp only [DV.cells, getD_zero, getD_succ, Sv.cells]; exact rfl) | exact rfl)); (· exact rfl); (· exact rfl); (· assumption); intro b1 H1 hB) | (apply op_at; (· exact rfl)) | (apply dwp_cond_t; (· exact rfl); (· (with_reducible first | assumption | rfl | decide))) | (apply dwp_cond_f; (· exact rfl); (· (with_reducible first | assumption | rfl | decide))) | apply dwp_skip | apply dwp_ret | (refine ⟨_, rfl, ?_⟩) | fail)
        exact ⟨congrArg DV.bool (by simp only [refLess, c0, c1, c2, if_true, Bool.false_eq_true, if_false, Bool.true_or, Bool.false_or, Bool.true_and, Bool.false_and, Bool.not_true, Bool.not_false, Bool.or_true, Bool.or_false, Bool.and_true, Bool.and_false]), hB.ab⟩
      | false =>
        refine enter rfl Tryd.func66 rfl Tryd.ntmps66 rfl ?_
        dsimp only [List.cons_append, List.nil_append, List.length_cons, List.length_nil, List.replicate_succ, List.replicate_zero, Nat.reduceAdd, Nat.reduceSub]
        repeat' (first | dsimp only [putD, DV.cells, DH.new_next, DH.set_next, List.length_cons, List.length_nil, Nat.reduceAdd, List.set_cons_zero, List.set_cons_succ, getD_zero, getD_succ, fieldAt_zero, fieldAt_succ, thenD, blockD, retR] | apply dwp_seq | apply dwp_region | apply ops_nil | (apply ops_plain; (· exact rfl)) | (apply bx_load0; (· exact rfl); (· exact rfl); (· assumption); (· (repeat (first | with_reducible exact At.here | with_reducible apply At.there))); (· (first | exact partInj _ _ _ _ | exact partEv _ _ _ _ _ | exact partFireR _ | exact rfl))) | (apply bx_box; (· exact rfl); (· exact rfl); (· (first | (dsimp only [DV.cells, getD_zero, getD_succ, Sv.cells]; done) | (dsimp only [DV.cells, getD_zero, getD_succ, Sv.cells]; exact rfl) | exact rfl)); (· exact rfl); (· exact rfl); (· assumption); intro b1 H1 hB) | (apply op_at; (· exact rfl)) | (apply dwp_cond_f; (· exact rfl); (· (with_reducible first | assumption | rfl | decide))) | apply dwp_skip | apply dwp_ret | (refine ⟨_, rfl, ?_⟩) | fail)
        exact ⟨congrArg DV.bool (by simp only [refLess, c0, c1, c2, if_true, Bool.false_eq_true, if_false, Bool.true_or, Bool.false_or, Bool.true_and, Bool.false_and, Bool.not_true, Bool.not_false, Bool.or_true, Bool.or_false, Bool.and_true, Bool.and_false]), hB.ab⟩
def refOne (y : Ev) : Bool := [y.t].all fitB && (decide (y.t ≥ 0) && (decide (y.k ≥ 1) && (decide (y.k ≤ 14) && (decide (y.w ≥ 0) && decide (y.w ≤ 255)))))
theorem refOne_eq (y : Ev) : refOne y = !offE y := by
  unfold refOne offE
  cases hf : [y.t].all fitB <;> by_cases h1 : y.t < 0 <;> by_cases h2 : y.k < 1 <;> by_cases h3 : y.k > 14 <;> by_cases h4 : y.w < 0 <;> by_cases h5 : y.w > 255 <;> simp [h1, h2, h3, h4, h5] <;> omega
theorem one67 (y : Ev) (H : DH) : CallWp Tryd.prog X3 67 [.agg y.row] H (fun r H' => r = .bool (!offE y) ∧ Above H H') := by
  rw [← refOne_eq]
  have hB : Bx H H [] [] := Bx.init (fun f hf => by cases hf)
  obtain ⟨yt, yk, yw, ya, yb⟩ := y
  cases c0 : ([yt].all fitB) with
  | false =>
    refine enter rfl Tryd.func67 rfl Tryd.ntmps67 rfl ?_
    dsimp only [List.cons_append, List.nil_append, List.length_cons, List.length_nil, List.replicate_succ, List.replicate_zero, Nat.reduceAdd, Nat.reduceSub]
    repeat' (first | dsimp only [putD, DV.cells, DH.new_next, DH.set_next, List.length_cons, List.length_nil, Nat.reduceAdd, List.set_cons_zero, List.set_cons_succ, getD_zero, getD_succ, fieldAt_zero, fieldAt_succ, thenD, blockD, retR] | apply dwp_seq | apply dwp_region | apply ops_nil | (apply ops_plain; (· exact rfl)) | (apply ops_off1; (· exact rfl); (· exact rfl); (· (with_reducible first | assumption | rfl | decide))) | (apply op_call; (· exact rfl); (· exact rfl); (· exact rfl); (refine (may43e (.one (Bx.get (by assumption) At.here))).mono ?_; rintro r H' ⟨rfl, rfl⟩)) | (apply op_pick_f; (· exact rfl); (· exact rfl); (· (with_reducible first | assumption | rfl | decide)); (· exact rfl)) | (apply bx_buildL et112'; (· exact rfl); (· exact rfl); (· exact rfl); (· decide); (· assumption); intro bn H1 hB) | (apply bx_load0; (· exact rfl); (· exact rfl); (· assumption); (· (repeat (first | with_reducible exact At.here | with_reducible apply At.there))); (· (first | exact partInj _ _ _ _ | exact partEv _ _ _ _ _ | exact partFireR _ | exact rfl))) | (apply bx_box; (· exact rfl); (· exact rfl); (· (first | (dsimp only [DV.cells, getD_zero, getD_succ, Sv.cells]; done) | (dsimp only [DV.cells, getD_zero, getD_succ, Sv.cells]; exact rfl) | exact rfl)); (· exact rfl); (· exact rfl); (· assumption); intro b1 H1 hB) | (apply op_at; (· exact rfl)) | apply dwp_ret | (refine ⟨_, rfl, ?_⟩) | fail)
    exact ⟨congrArg DV.bool (by simp only [refOne, c0, if_true, Bool.false_eq_true, if_false, Bool.true_or, Bool.false_or, Bool.true_and, Bool.false_and, Bool.not_true, Bool.not_false, Bool.or_true, Bool.or_false, Bool.and_true, Bool.and_false]), hB.ab⟩
  | true =>
    cases c1 : decide (yt ≥ 0) with
    | false =>
      refine enter rfl Tryd.func67 rfl Tryd.ntmps67 rfl ?_
      dsimp only [List.cons_append, List.nil_append, List.length_cons, List.length_nil, List.replicate_succ, List.replicate_zero, Nat.reduceAdd, Nat.reduceSub]
      repeat' (first | dsimp only [putD, DV.cells, DH.new_next, DH.set_next, List.length_cons, List.length_nil, Nat.reduceAdd, List.set_cons_zero, List.set_cons_succ, getD_zero, getD_succ, fieldAt_zero, fieldAt_succ, thenD, blockD, retR] | apply dwp_seq | apply dwp_region | apply ops_nil | (apply ops_plain; (· exact rfl)) | (apply ops_on; (· exact rfl); (· exact rfl); (· (with_reducible first | assumption | rfl | decide))) | (apply ops_off1; (· exact rfl); (· exact rfl); (· (with_reducible first | assumption | rfl | decide))) | (apply op_call; (· exact rfl); (· exact rfl); (· exact rfl); (refine (may43e (.one (Bx.get (by assumption) At.here))).mono ?_; rintro r H' ⟨rfl, rfl⟩)) | (apply op_pick_t; (· exact rfl); (· exact rfl); (· (with_reducible first | assumption | rfl | decide)); (· exact rfl)) | (apply op_pick_f; (· exact rfl); (· exact rfl); (· (with_reducible first | assumption | rfl | decide)); (· exact rfl)) | (apply bx_buildL et112'; (· exact rfl); (· exact rfl); (· exact rfl); (· decide); (· assumption); intro bn H1 hB) | (apply bx_load0; (· exact rfl); (· exact rfl); (· assumption); (· (repeat (first | with_reducible exact At.here | with_reducible apply At.there))); (· (first | exact partInj _ _ _ _ | exact partEv _ _ _ _ _ | exact partFireR _ | exact rfl))) | (apply bx_box; (· exact rfl); (· exact rfl); (· (first | (dsimp only [DV.cells, getD_zero, getD_succ, Sv.cells]; done) | (dsimp only [DV.cells, getD_zero, getD_succ, Sv.cells]; exact rfl) | exact rfl)); (· exact rfl); (· exact rfl); (· assumption); intro b1 H1 hB) | (apply op_at; (· exact rfl)) | apply dwp_ret | (refine ⟨_, rfl, ?_⟩) | fail)
      exact ⟨congrArg DV.bool (by simp only [refOne, c0, c1, if_true, Bool.false_eq_true, if_false, Bool.true_or, Bool.false_or, Bool.true_and, Bool.false_and, Bool.not_true, Bool.not_false, Bool.or_true, Bool.or_false, Bool.and_true, Bool.and_false]), hB.ab⟩
    | true =>
      cases c2 : decide (yk ≥ 1) with
      | false =>
        refine enter rfl Tryd.func67 rfl Tryd.ntmps67 rfl ?_
        dsimp only [List.cons_append, List.nil_append, List.length_cons, List.length_nil, List.replicate_succ, List.replicate_zero, Nat.reduceAdd, Nat.reduceSub]
        repeat' (first | dsimp only [putD, DV.cells, DH.new_next, DH.set_next, List.length_cons, List.length_nil, Nat.reduceAdd, List.set_cons_zero, List.set_cons_succ, getD_zero, getD_succ, fieldAt_zero, fieldAt_succ, thenD, blockD, retR] | apply dwp_seq | apply dwp_region | apply ops_nil | (apply ops_plain; (· exact rfl)) | (apply ops_on; (· exact rfl); (· exact rfl); (· (with_reducible first | assumption | rfl | decide))) | (apply ops_off1; (· exact rfl); (· exact rfl); (· (with_reducible first | assumption | rfl | decide))) | (apply op_call; (· exact rfl); (· exact rfl); (· exact rfl); (refine (may43e (.one (Bx.get (by assumption) At.here))).mono ?_; rintro r H' ⟨rfl, rfl⟩)) | (apply op_pick_t; (· exact rfl); (· exact rfl); (· (with_reducible first | assumption | rfl | decide)); (· exact rfl)) | (apply op_pick_f; (· exact rfl); (· exact rfl); (· (with_reducible first | assumption | rfl | decide)); (· exact rfl)) | (apply bx_buildL et112'; (· exact rfl); (· exact rfl); (· exact rfl); (· decide); (· assumption); intro bn H1 hB) | (apply bx_load0; (· exact rfl); (· exact rfl); (· assumption); (· (repeat (first | with_reducible exact At.here | with_reducible apply At.there))); (· (first | exact partInj _ _ _ _ | exact partEv _ _ _ _ _ | exact partFireR _ | exact rfl))) | (apply bx_box; (· exact rfl); (· exact rfl); (· (first | (dsimp only [DV.cells, getD_zero, getD_succ, Sv.cells]; done) | (dsimp only [DV.cells, getD_zero, getD_succ, Sv.cells]; exact rfl) | exact rfl)); (· exact rfl); (· exact rfl); (· assumption); intro b1 H1 hB) | (apply op_at; (· exact rfl)) | apply dwp_ret | (refine ⟨_, rfl, ?_⟩) | fail)
        exact ⟨congrArg DV.bool (by simp only [refOne, c0, c1, c2, if_true, Bool.false_eq_true, if_false, Bool.true_or, Bool.false_or, Bool.true_and, Bool.false_and, Bool.not_true, Bool.not_false, Bool.or_true, Bool.or_false, Bool.and_true, Bool.and_false]), hB.ab⟩
      | true =>
        cases c3 : decide (yk ≤ 14) with
        | false =>
          refine enter rfl Tryd.func67 rfl Tryd.ntmps67 rfl ?_
          dsimp only [List.cons_append, List.nil_append, List.length_cons, List.length_nil, List.replicate_succ, List.replicate_zero, Nat.reduceAdd, Nat.reduceSub]
          repeat' (first | dsimp only [putD, DV.cells, DH.new_next, DH.set_next, List.length_cons, List.length_nil, Nat.reduceAdd, List.set_cons_zero, List.set_cons_succ, getD_zero, getD_succ, fieldAt_zero, fieldAt_succ, thenD, blockD, retR] | apply dwp_seq | apply dwp_region | apply ops_nil | (apply ops_plain; (· exact rfl)) | (apply ops_on; (· exact rfl); (· exact rfl); (· (with_reducible first | assumption | rfl | decide))) | (apply ops_off1; (· exact rfl); (· exact rfl); (· (with_reducible first | assumption | rfl | decide))) | (apply op_call; (· exact rfl); (· exact rfl); (· exact rfl); (refine (may43e (.one (Bx.get (by assumption) At.here))).mono ?_; rintro r H' ⟨rfl, rfl⟩)) | (apply op_pick_t; (· exact rfl); (· exact rfl); (· (with_reducible first | assumption | rfl | decide)); (· exact rfl)) | (apply op_pick_f; (· exact rfl); (· exact rfl); (· (with_reducible first | assumption | rfl | decide)); (· exact rfl)) | (apply bx_buildL et112'; (· exact rfl); (· exact rfl); (· exact rfl); (· decide); (· assumption); intro bn H1 hB) | (apply bx_load0; (· exact rfl); (· exact rfl); (· assumption); (· (repeat (first | with_reducible exact At.here | with_reducible apply At.there))); (· (first | exact partInj _ _ _ _ | exact partEv _ _ _ _ _ | exact partFireR _ | exact rfl))) | (apply bx_box; (· exact rfl); (· exact rfl); (· (first | (dsimp only [DV.cells, getD_zero, getD_succ, Sv.cells]; done) | (dsimp only [DV.cells, getD_zero, getD_succ, Sv.cells]; exact rfl) | exact rfl)); (· exact rfl); (· exact rfl); (· assumption); intro b1 H1 hB) | (apply op_at; (· exact rfl)) | apply dwp_ret | (refine ⟨_, rfl, ?_⟩) | fail)
          exact ⟨congrArg DV.bool (by simp only [refOne, c0, c1, c2, c3, if_true, Bool.false_eq_true, if_false, Bool.true_or, Bool.false_or, Bool.true_and, Bool.false_and, Bool.not_true, Bool.not_false, Bool.or_true, Bool.or_false, Bool.and_true, Bool.and_false]), hB.ab⟩
        | true =>
          cases c4 : decide (yw ≥ 0) with
          | false =>
            refine enter rfl Tryd.func67 rfl Tryd.ntmps67 rfl ?_
            dsimp only [List.cons_append, List.nil_append, List.length_cons, List.length_nil, List.replicate_succ, List.replicate_zero, Nat.reduceAdd, Nat.reduceSub]
            repeat' (first | dsimp only [putD, DV.cells, DH.new_next, DH.set_next, List.length_cons, List.length_nil, Nat.reduceAdd, List.set_cons_zero, List.set_cons_succ, getD_zero, getD_succ, fieldAt_zero, fieldAt_succ, thenD, blockD, retR] | apply dwp_seq | apply dwp_region | apply ops_nil | (apply ops_plain; (· exact rfl)) | (apply ops_on; (· exact rfl); (· exact rfl); (· (with_reducible first | assumption | rfl | decide))) | (apply ops_off1; (· exact rfl); (· exact rfl); (· (with_reducible first | assumption | rfl | decide))) | (apply op_call; (· exact rfl); (· exact rfl); (· exact rfl); (refine (may43e (.one (Bx.get (by assumption) At.here))).mono ?_; rintro r H' ⟨rfl, rfl⟩)) | (apply op_pick_t; (· exact rfl); (· exact rfl); (· (with_reducible first | assumption | rfl | decide)); (· exact rfl)) | (apply op_pick_f; (· exact rfl); (· exact rfl); (· (with_reducible first | assumption | rfl | decide)); (· exact rfl)) | (apply bx_buildL et112'; (· exact rfl); (· exact rfl); (· exact rfl); (· decide); (· assumption); intro bn H1 hB) | (apply bx_load0; (· exact rfl); (· exact rfl); (· assumption); (· (repeat (first | with_reducible exact At.here | with_reducible apply At.there))); (· (first | exact partInj _ _ _ _ | exact partEv _ _ _ _ _ | exact partFireR _ | exact rfl))) | (apply bx_box; (· exact rfl); (· exact rfl); (· (first | (dsimp only [DV.cells, getD_zero, getD_succ, Sv.cells]; done) | (dsimp only [DV.cells, getD_zero, getD_succ, Sv.cells]; exact rfl) | exact rfl)); (· exact rfl); (· exact rfl); (· assumption); intro b1 H1 hB) | (apply op_at; (· exact rfl)) | apply dwp_ret | (refine ⟨_, rfl, ?_⟩) | fail)
            exact ⟨congrArg DV.bool (by simp only [refOne, c0, c1, c2, c3, c4, if_true, Bool.false_eq_true, if_false, Bool.true_or, Bool.false_or, Bool.true_and, Bool.false_and, Bool.not_true, Bool.not_false, Bool.or_true, Bool.or_false, Bool.and_true, Bool.and_false]), hB.ab⟩
          | true =>
            refine enter rfl Tryd.func67 rfl Tryd.ntmps67 rfl ?_
            dsimp only [List.cons_append, List.nil_append, List.length_cons, List.length_nil, List.replicate_succ, List.replicate_zero, Nat.reduceAdd, Nat.reduceSub]
            repeat' (first | dsimp only [putD, DV.cells, DH.new_next, DH.set_next, List.length_cons, List.length_nil, Nat.reduceAdd, List.set_cons_zero, List.set_cons_succ, getD_zero, getD_succ, fieldAt_zero, fieldAt_succ, thenD, blockD, retR] | apply dwp_seq | apply dwp_region | apply ops_nil | (apply ops_plain; (· exact rfl)) | (apply ops_on; (· exact rfl); (· exact rfl); (· (with_reducible first | assumption | rfl | decide))) | (apply op_call; (· exact rfl); (· exact rfl); (· exact rfl); (refine (may43e (.one (Bx.get (by assumption) At.here))).mono ?_; rintro r H' ⟨rfl, rfl⟩)) | (apply op_pick_t; (· exact rfl); (· exact rfl); (· (with_reducible first | assumption | rfl | decide)); (· exact rfl)) | (apply bx_buildL et112'; (· exact rfl); (· exact rfl); (· exact rfl); (· decide); (· assumption); intro bn H1 hB) | (apply bx_load0; (· exact rfl); (· exact rfl); (· assumption); (· (repeat (first | with_reducible exact At.here | with_reducible apply At.there))); (· (first | exact partInj _ _ _ _ | exact partEv _ _ _ _ _ | exact partFireR _ | exact rfl))) | (apply bx_box; (· exact rfl); (· exact rfl); (· (first | (dsimp only [DV.cells, getD_zero, getD_succ, Sv.cells]; done) | (dsimp only [DV.cells, getD_zero, getD_succ, Sv.cells]; exact rfl) | exact rfl)); (· exact rfl); (· exact rfl); (· assumption); intro b1 H1 hB) | (apply op_at; (· exact rfl)) | apply dwp_ret | (refine ⟨_, rfl, ?_⟩) | fail)
            exact ⟨congrArg DV.bool (by simp only [refOne, c0, c1, c2, c3, c4, if_true, Bool.false_eq_true, if_false, Bool.true_or, Bool.false_or, Bool.true_and, Bool.false_and, Bool.not_true, Bool.not_false, Bool.or_true, Bool.or_false, Bool.and_true, Bool.and_false]), hB.ab⟩
end Go.Det.C

/- Cover: the reference's Count and Checks. -/
namespace Go.Det.C
open Go Go.Det Go.Proofs
set_option maxRecDepth 4000
set_option maxHeartbeats 4000000
set_option linter.unusedVariables false
set_option linter.unusedSimpArgs false
section
variable {P : Program} {X : Ext} {all : Array Oper} {bef : Array Nat} {rs ms : List Nat} {i : Nat} {Φ : DH → Prop} {o : Oper} {r : List Oper} {st : DSt} {K : DSt → Prop}
theorem drawr_pick_t' (hw : Region.wanted o (dyield all st.env) = true) {c x y : Operand} (ho : o.op = .pick c x y) {t : Bool} (hc : evalO st.env c = some (.bool t)) (hb : t = true) {v : DV} (hv : evalO st.env x = some v)
    (h : DrawR P X all bef rs ms Φ (i + 1) r ⟨putD st.env o.dst v, st.H⟩ K) : DrawR P X all bef rs ms Φ i (o :: r) st K :=
  drawr_pure hw (by rw [ho]; rfl) (by rw [ho]; rfl) (v := v) (by
    subst hb
    simp only [opD, ho, mover, reader, pureD, hc, hv]
    rfl) h
theorem drawr_pick_f' (hw : Region.wanted o (dyield all st.env) = true) {c x y : Operand} (ho : o.op = .pick c x y) {t : Bool} (hc : evalO st.env c = some (.bool t)) (hb : t = false) {v : DV} (hv : evalO st.env y = some v)
    (h : DrawR P X all bef rs ms Φ (i + 1) r ⟨putD st.env o.dst v, st.H⟩ K) : DrawR P X all bef rs ms Φ i (o :: r) st K :=
  drawr_pure hw (by rw [ho]; rfl) (by rw [ho]; rfl) (v := v) (by
    subst hb
    simp only [opD, ho, mover, reader, pureD, hc, hv]
    rfl) h
theorem opD_told' {cf : CallF} {env : List DV} {H : DH} {v w : DV} (h : opD P cf o env H = some (v, H)) (e : v = w) : opD P cf o env H = some (w, H) := by rw [h, e]
end
theorem count17 {l : List Fire} {p : Option (Nat × Nat × Nat)} {c : Nat} {ex : Bool} {H : DH} (hll : l.length ≤ 1000000000) (hs : Sl H 7 (l.map Fire.row) p) : CallWp Tryd.prog X3 17 [.sl p l.length c ex] H (fun r H' => r = .tuple [.int .i64 ((l.countP (·.fired) : Nat) : Int), .int .i64 ((l.countP (·.det) : Nat) : Int)] ∧ Above H H') := by
  refine enter rfl Tryd.func17 rfl Tryd.ntmps17 rfl ?_
  dsimp only [List.cons_append, List.nil_append, List.length_cons, List.length_nil, List.replicate_succ, List.replicate_zero, Nat.reduceAdd, Nat.reduceSub]
  repeat' (first | dsimp only [putD, DV.cells, DH.new_next, DH.set_next, List.length_cons, List.length_nil, Nat.reduceAdd, List.set_cons_zero, List.set_cons_succ, getD_zero, getD_succ, fieldAt_zero, fieldAt_succ, thenD, blockD, retR] | apply dwp_seq | apply dwp_region | apply ops_nil | (apply ops_plain; (· exact rfl)) | (apply op_at; (· exact rfl)) | apply dwp_block | fail)
  refine dwp_loop (fun st => ∃ (H1 : DH) (k : Nat), ∃ J : Nat → DV, (Above H H1 ∧ k ≤ l.length) ∧ st = ⟨[.sl p l.length c ex, J 1, J 2, J 3, .int .i64 (((l.take k).countP (·.fired) : Nat) : Int), .int .i64 (((l.take k).countP (·.det) : Nat) : Int), J 6, J 7, .sl p l.length c ex, .int .i64 (l.length : Int), .int .i64 (k : Int), J 11, J 12, J 13, J 14, J 15, J 16, J 17, J 18, J 19, J 20, J 21, J 22, J 23, J 24], H1⟩) (fun st => l.length - kOf st 10) (⟨_, 0, junk_facts (⟨Above.refl _, Nat.zero_le _⟩) rfl rfl⟩) ?_
  rintro st ⟨H1, k, J, ⟨hab, hk⟩, rfl⟩
  by_cases hlt : k < l.length
  · obtain ⟨x, hx⟩ : ∃ x, l[k]? = some x := ⟨l[k], List.getElem?_eq_getElem hlt⟩
    obtain ⟨loc, i0, ro, rs, rfl, hloc, ho, hrx⟩ := (hs.mono hab).rd (k := k) (r := x.row) (by rw [List.getElem?_map, hx]; rfl)
    have hr1 : rs[i0 + ((k : Int)).toNat]? = some x.row := by rw [Int.toNat_natCast]; exact hrx
    have hc : decide ((k : Int) < (l.length : Int)) = true := by simp [hlt]
    have hin1 : 0 ≤ (k : Int) ∧ (k : Int) < (l.length : Int) := by omega
    have hw : IntKind.i64.wrap ((k : Int) + 1) = ((k + 1 : Nat) : Int) := by rw [wrapI (by omega)]; rfl
    have htk : l.take (k + 1) = l.take k ++ [x] := by rw [List.take_add_one, hx]; rfl
    have hcF : (l.take k).countP (·.fired) ≤ k := Nat.le_trans List.countP_le_length (by rw [List.length_take]; omega)
    have hcD : (l.take k).countP (·.det) ≤ k := Nat.le_trans List.countP_le_length (by rw [List.length_take]; omega)
    have hB : Bx H1 H1 [] [] := Bx.init (fun f hf => by cases hf)
    obtain ⟨a, ha⟩ : ∃ a, (l.take k).countP (·.fired) = a := ⟨_, rfl⟩
    obtain ⟨b, hb⟩ : ∃ b, (l.take k).countP (·.det) = b := ⟨_, rfl⟩
    rw [ha] at hcF ⊢
    rw [hb] at hcD ⊢
    have hw1 : IntKind.i64.wrap ((a : Int) + 1) = ((a + 1 : Nat) : Int) := by rw [wrapI (by omega)]; rfl
    have hw2 : IntKind.i64.wrap ((b : Int) + 1) = ((b + 1 : Nat) : Int) := by rw [wrapI (by omega)]; rfl
    obtain ⟨⟨xt, xk, xw, xu⟩, xf, xd, xa⟩ := x
    cases xf with
    | true =>
      cases xd with
      | true =>
        repeat' (first | dsimp only [putD, DV.cells, DH.new_next, DH.set_next, List.length_cons, List.length_nil, Nat.reduceAdd, List.set_cons_zero, List.set_cons_succ, getD_zero, getD_succ, fieldAt_zero, fieldAt_succ, thenD, blockD, retR] | apply dwp_seq | apply dwp_region | apply ops_nil | (apply ops_plain; (· exact rfl)) | (apply op_index_at; (· exact rfl); (· exact rfl); (· exact rfl); (· with_reducible exact hin1); (· exact rfl); (· exact rfl)) | (apply op_load_at; (· exact rfl); (· exact rfl); (· exact ho); (· exact hr1); (· exact partFireR _)) | (apply op_told; (· exact rfl); (· exact congrArg (DV.int _) hw)) | (apply op_told; (· exact rfl); (· exact congrArg (DV.int _) hw1)) | (apply op_told; (· exact rfl); (· exact congrArg (DV.int _) hw2)) | (apply bx_load0; (· exact rfl); (· exact rfl); (· assumption); (· (repeat (first | with_reducible exact At.here | with_reducible apply At.there))); (· (first | exact partInjR _ | exact partEvR _ | exact partFireR _ | exact rfl))) | (apply bx_store0; (· exact rfl); (· exact rfl); (· exact rfl); (· assumption); (· (first | (dsimp only [DV.cells, getD_zero, getD_succ, Sv.cells]; done) | (dsimp only [DV.cells, getD_zero, getD_succ, Sv.cells]; exact rfl) | exact rfl)); (· (repeat (first | with_reducible exact Upd.here | with_reducible apply Upd.there))); (· exact rfl); (· exact rfl); (· exact rfl); (· exact rfl); intro H1 hB) | (apply bx_alloc; (· exact rfl); (· exact zero32); (· (first | (dsimp only [DV.cells, getD_zero, getD_succ, Sv.cells]; done) | (dsimp only [DV.cells, getD_zero, getD_succ, Sv.cells]; exact rfl) | exact rfl)); (· exact rfl); (· exact rfl); (· exact rfl); (· assumption); intro b1 H1 hB) | (apply op_at; (· exact rfl)) | (apply dwp_cond_t; (· exact rfl); (· (with_reducible first | assumption | rfl | decide))) | apply dwp_block | apply dwp_skip | fail)
        refine ⟨⟨_, k + 1, junk_facts ⟨hab.trans hB.ab, by omega⟩ (by rw [htk, List.countP_append, List.countP_append, ha, hb]; rfl) rfl⟩, ?_⟩
        show l.length - ((k + 1 : Nat) : Int).toNat < l.length - (k : Int).toNat
        omega
      | false =>
        repeat' (first | dsimp only [putD, DV.cells, DH.new_next, DH.set_next, List.length_cons, List.length_nil, Nat.reduceAdd, List.set_cons_zero, List.set_cons_succ, getD_zero, getD_succ, fieldAt_zero, fieldAt_succ, thenD, blockD, retR] | apply dwp_seq | apply dwp_region | apply ops_nil | (apply ops_plain; (· exact rfl)) | (apply op_index_at; (· exact rfl); (· exact rfl); (· exact rfl); (· with_reducible exact hin1); (· exact rfl); (· exact rfl)) | (apply op_load_at; (· exact rfl); (· exact rfl); (· exact ho); (· exact hr1); (· exact partFireR _)) | (apply op_told; (· exact rfl); (· exact congrArg (DV.int _) hw)) | (apply op_told; (· exact rfl); (· exact congrArg (DV.int _) hw1)) | (apply bx_load0; (· exact rfl); (· exact rfl); (· assumption); (· (repeat (first | with_reducible exact At.here | with_reducible apply At.there))); (· (first | exact partInjR _ | exact partEvR _ | exact partFireR _ | exact rfl))) | (apply bx_store0; (· exact rfl); (· exact rfl); (· exact rfl); (· assumption); (· (first | (dsimp only [DV.cells, getD_zero, getD_succ, Sv.cells]; done) | (dsimp only [DV.cells, getD_zero, getD_succ, Sv.cells]; exact rfl) | exact rfl)); (· (repeat (first | with_reducible exact Upd.here | with_reducible apply Upd.there))); (· exact rfl); (· exact rfl); (· exact rfl); (· exact rfl); intro H1 hB) | (apply bx_alloc; (· exact rfl); (· exact zero32); (· (first | (dsimp only [DV.cells, getD_zero, getD_succ, Sv.cells]; done) | (dsimp only [DV.cells, getD_zero, getD_succ, Sv.cells]; exact rfl) | exact rfl)); (· exact rfl); (· exact rfl); (· exact rfl); (· assumption); intro b1 H1 hB) | (apply op_at; (· exact rfl)) | (apply dwp_cond_t; (· exact rfl); (· (with_reducible first | assumption | rfl | decide))) | (apply dwp_cond_f; (· exact rfl); (· (with_reducible first | assumption | rfl | decide))) | apply dwp_block | apply dwp_skip | fail)
        refine ⟨⟨_, k + 1, junk_facts ⟨hab.trans hB.ab, by omega⟩ (by rw [htk, List.countP_append, List.countP_append, ha, hb]; rfl) rfl⟩, ?_⟩
        show l.length - ((k + 1 : Nat) : Int).toNat < l.length - (k : Int).toNat
        omega
    | false =>
      cases xd with
      | true =>
        repeat' (first | dsimp only [putD, DV.cells, DH.new_next, DH.set_next, List.length_cons, List.length_nil, Nat.reduceAdd, List.set_cons_zero, List.set_cons_succ, getD_zero, getD_succ, fieldAt_zero, fieldAt_succ, thenD, blockD, retR] | apply dwp_seq | apply dwp_region | apply ops_nil | (apply ops_plain; (· exact rfl)) | (apply op_index_at; (· exact rfl); (· exact rfl); (· exact rfl); (· with_reducible exact hin1); (· exact rfl); (· exact rfl)) | (apply op_load_at; (· exact rfl); (· exact rfl); (· exact ho); (· exact hr1); (· exact partFireR _)) | (apply op_told; (· exact rfl); (· exact congrArg (DV.int _) hw)) | (apply op_told; (· exact rfl); (· exact congrArg (DV.int _) hw2)) | (apply bx_load0; (· exact rfl); (· exact rfl); (· assumption); (· (repeat (first | with_reducible exact At.here | with_reducible apply At.there))); (· (first | exact partInjR _ | exact partEvR _ | exact partFireR _ | exact rfl))) | (apply bx_store0; (· exact rfl); (· exact rfl); (· exact rfl); (· assumption); (· (first | (dsimp only [DV.cells, getD_zero, getD_succ, Sv.cells]; done) | (dsimp only [DV.cells, getD_zero, getD_succ, Sv.cells]; exact rfl) | exact rfl)); (· (repeat (first | with_reducible exact Upd.here | with_reducible apply Upd.there))); (· exact rfl); (· exact rfl); (· exact rfl); (· exact rfl); intro H1 hB) | (apply bx_alloc; (· exact rfl); (· exact zero32); (· (first | (dsimp only [DV.cells, getD_zero, getD_succ, Sv.cells]; done) | (dsimp only [DV.cells, getD_zero, getD_succ, Sv.cells]; exact rfl) | exact rfl)); (· exact rfl); (· exact rfl); (· exact rfl); (· assumption); intro b1 H1 hB) | (apply op_at; (· exact rfl)) | (apply dwp_cond_t; (· exact rfl); (· (with_reducible first | assumption | rfl | decide))) | (apply dwp_cond_f; (· exact rfl); (· (with_reducible first | assumption | rfl | decide))) | apply dwp_block | apply dwp_skip | fail)
        refine ⟨⟨_, k + 1, junk_facts ⟨hab.trans hB.ab, by omega⟩ (by rw [htk, List.countP_append, List.countP_append, ha, hb]; rfl) rfl⟩, ?_⟩
        show l.length - ((k + 1 : Nat) : Int).toNat < l.length - (k : Int).toNat
        omega
      | false =>
        repeat' (first | dsimp only [putD, DV.cells, DH.new_next, DH.set_next, List.length_cons, List.length_nil, Nat.reduceAdd, List.set_cons_zero, List.set_cons_succ, getD_zero, getD_succ, fieldAt_zero, fieldAt_succ, thenD, blockD, retR] | apply dwp_seq | apply dwp_region | apply ops_nil | (apply ops_plain; (· exact rfl)) | (apply op_index_at; (· exact rfl); (· exact rfl); (· exact rfl); (· with_reducible exact hin1); (· exact rfl); (· exact rfl)) | (apply op_load_at; (· exact rfl); (· exact rfl); (· exact ho); (· exact hr1); (· exact partFireR _)) | (apply op_told; (· exact rfl); (· exact congrArg (DV.int _) hw)) | (apply bx_load0; (· exact rfl); (· exact rfl); (· assumption); (· (repeat (first | with_reducible exact At.here | with_reducible apply At.there))); (· (first | exact partInjR _ | exact partEvR _ | exact partFireR _ | exact rfl))) | (apply bx_store0; (· exact rfl); (· exact rfl); (· exact rfl); (· assumption); (· (first | (dsimp only [DV.cells, getD_zero, getD_succ, Sv.cells]; done) | (dsimp only [DV.cells, getD_zero, getD_succ, Sv.cells]; exact rfl) | exact rfl)); (· (repeat (first | with_reducible exact Upd.here | with_reducible apply Upd.there))); (· exact rfl); (· exact rfl); (· exact rfl); (· exact rfl); intro H1 hB) | (apply bx_alloc; (· exact rfl); (· exact zero32); (· (first | (dsimp only [DV.cells, getD_zero, getD_succ, Sv.cells]; done) | (dsimp only [DV.cells, getD_zero, getD_succ, Sv.cells]; exact rfl) | exact rfl)); (· exact rfl); (· exact rfl); (· exact rfl); (· assumption); intro b1 H1 hB) | (apply op_at; (· exact rfl)) | (apply dwp_cond_t; (· exact rfl); (· (with_reducible first | assumption | rfl | decide))) | (apply dwp_cond_f; (· exact rfl); (· (with_reducible first | assumption | rfl | decide))) | apply dwp_block | apply dwp_skip | fail)
        refine ⟨⟨_, k + 1, junk_facts ⟨hab.trans hB.ab, by omega⟩ (by rw [htk, List.countP_append, List.countP_append, ha, hb]; rfl) rfl⟩, ?_⟩
        show l.length - ((k + 1 : Nat) : Int).toNat < l.length - (k : Int).toNat
        omega
  · have hc : decide ((k : Int) < (l.length : Int)) = false := by simp; omega
    have e : l.take k = l := List.take_of_length_le (by omega)
    rw [e]
    repeat' (first | dsimp only [putD, DV.cells, DH.new_next, DH.set_next, List.length_cons, List.length_nil, Nat.reduceAdd, List.set_cons_zero, List.set_cons_succ, getD_zero, getD_succ, fieldAt_zero, fieldAt_succ, thenD, blockD, retR] | apply dwp_seq | apply dwp_region | apply ops_nil | (apply ops_plain; (· exact rfl)) | (apply op_at; (· exact rfl)) | (apply dwp_cond_f; (· exact rfl); (· (with_reducible first | assumption | rfl | decide))) | apply dwp_ret | apply dwp_exit | (refine ⟨_, rfl, ?_⟩) | fail)
    exact ⟨rfl, hab⟩
/-! ### events -/
theorem evOk_bad {l : List Ev} {i : Nat} {y : Ev} (hy : l[i]? = some y) (h : offE y = true) : evOk l = false := by
  unfold evOk
  have : l.any offE = true := List.any_eq_true.mpr ⟨y, List.mem_of_getElem? hy, h⟩
  rw [this]; simp
theorem evOk_unord {l : List Ev} {i : Nat} {x y : Ev} (hx : l[i]? = some x) (hy : l[i + 1]? = some y) (h : y.t < x.t) : evOk l = false := by
  unfold evOk
  have : ¬ ordP l := fun ho => ho i x y hx hy h
  simp [this]
theorem evOk_all {l : List Ev} (hl : l.length ≤ 20000) (h1 : ∀ (j : Nat) (y : Ev), l[j]? = some y → offE y = false) (h2 : ∀ (j : Nat) (x y : Ev), l[j]? = some x → l[j + 1]? = some y → ¬ y.t < x.t) : evOk l = true := by
  unfold evOk
  have e1 : l.any offE = false := by
    rw [List.any_eq_false]
    intro y hy
    obtain ⟨j, hj⟩ := List.getElem?_of_mem hy
    rw [h1 j y hj]; simp
  have e2 : ordP l := fun i x y hx hy => h2 i x y hx hy
  have e3 : decide (l.length > 20000) = false := by simp; omega
  rw [e1, e3]
  simp [e2]
theorem check36 {l : List Ev} {p : Option (Nat × Nat × Nat)} {c : Nat} {ex : Bool} {H : DH} (hll : l.length ≤ 9223372036854775807) (hs : Sl H 5 (l.map Ev.row) p) : CallWp Tryd.prog X3 36 [.sl p l.length c ex] H (fun r H' => r = .int .i64 (if evOk l then 0 else 1) ∧ Above H H') := by
  cases h1 : decide ((l.length : Int) > 20000) with
  | true =>
    have e : evOk l = false := by unfold evOk; rw [show decide (l.length > 20000) = true by simp at h1 ⊢; omega]; rfl
    rw [e]
    refine enter rfl Tryd.func36 rfl Tryd.ntmps36 rfl ?_
    dsimp only [List.cons_append, List.nil_append, List.length_cons, List.length_nil, List.replicate_succ, List.replicate_zero, Nat.reduceAdd, Nat.reduceSub]
    repeat' (first | dsimp only [putD, DV.cells, DH.new_next, DH.set_next, List.length_cons, List.length_nil, Nat.reduceAdd, List.set_cons_zero, List.set_cons_succ, getD_zero, getD_succ, fieldAt_zero, fieldAt_succ, thenD, blockD, retR] | apply dwp_seq | apply dwp_region | apply ops_nil | (apply ops_plain; (· exact rfl)) | (apply op_at; (· exact rfl)) | (apply dwp_cond_t; (· exact rfl); (· (with_reducible first | assumption | rfl | decide))) | apply dwp_ret | (refine ⟨_, rfl, ?_⟩) | fail)
    exact ⟨rfl, Above.refl _⟩
  | false =>
    have hl2 : l.length ≤ 20000 := by simp at h1; omega
    refine enter rfl Tryd.func36 rfl Tryd.ntmps36 rfl ?_
    dsimp only [List.cons_append, List.nil_append, List.length_cons, List.length_nil, List.replicate_succ, List.replicate_zero, Nat.reduceAdd, Nat.reduceSub]
    repeat' (first | dsimp only [putD, DV.cells, DH.new_next, DH.set_next, List.length_cons, List.length_nil, Nat.reduceAdd, List.set_cons_zero, List.set_cons_succ, getD_zero, getD_succ, fieldAt_zero, fieldAt_succ, thenD, blockD, retR] | apply dwp_seq | apply dwp_region | apply ops_nil | (apply ops_plain; (· exact rfl)) | (apply op_at; (· exact rfl)) | (apply dwp_cond_f; (· exact rfl); (· (with_reducible first | assumption | rfl | decide))) | apply dwp_block | apply dwp_skip | fail)
    refine dwp_loop (fun st => ∃ (H1 : DH) (i : Nat), ∃ J : Nat → DV, (Bx H H1 [] [] ∧ i ≤ l.length ∧ (∀ (j : Nat) (y : Ev), j < i → l[j]? = some y → offE y = false) ∧ (∀ (j : Nat) (x y : Ev), j + 1 < i → l[j]? = some x → l[j + 1]? = some y → ¬ y.t < x.t)) ∧ st = ⟨(.sl p l.length c ex :: J 1 :: J 2 :: J 3 :: J 4 :: J 5 :: J 6 :: J 7 :: .sl p l.length c ex :: .int .i64 (l.length : Int) :: .int .i64 (i : Int) :: J 11 :: J 12 :: J 13 :: J 14 :: J 15 :: J 16 :: J 17 :: J 18 :: J 19 :: J 20 :: J 21 :: J 22 :: J 23 :: J 24 :: J 25 :: J 26 :: J 27 :: J 28 :: J 29 :: J 30 :: J 31 :: J 32 :: J 33 :: []), H1⟩) (fun st => l.length - kOf st 10) (⟨_, 0, junk_facts (⟨Bx.init (fun f hf => by cases hf), Nat.zero_le _, fun _ _ h => absurd h (Nat.not_lt_zero _), fun _ _ _ h => absurd h (Nat.not_lt_zero _)⟩) rfl rfl⟩) ?_
    rintro st ⟨H1, i, J, ⟨hB, hi, hq1, hq2⟩, rfl⟩
    by_cases hlt : i < l.length
    · obtain ⟨y, hy⟩ : ∃ y, l[i]? = some y := ⟨l[i], List.getElem?_eq_getElem hlt⟩
      obtain ⟨loc, i0, ro, rs, rfl, hloc, ho, hall⟩ := sl_all hs (fun e => by rw [List.map_eq_nil_iff] at e; subst e; simp at hlt)
      have hr0 := hall i y.row (by rw [List.getElem?_map, hy]; rfl)
      have hr1 : rs[i0 + ((i : Int)).toNat]? = some y.row := by rw [Int.toNat_natCast]; exact hr0
      have hc : decide ((i : Int) < (l.length : Int)) = true := by simp [hlt]
      have hin1 : 0 ≤ (i : Int) ∧ (i : Int) < (l.length : Int) := by omega
      have hw : IntKind.i64.wrap ((i : Int) + 1) = ((i + 1 : Nat) : Int) := by rw [wrapI (by omega)]; rfl
      cases hof : offE y with
      | true =>
        have hev := evOk_bad hy hof
        repeat' (first | dsimp only [putD, DV.cells, DH.new_next, DH.set_next, List.length_cons, List.length_nil, Nat.reduceAdd, List.set_cons_zero, List.set_cons_succ, getD_zero, getD_succ, fieldAt_zero, fieldAt_succ, thenD, blockD, retR] | refine dwp_drawr _ rfl (fun H' => Above H H' ∧ H'.obj b4 = some (.rows false 5 [y.row])) ⟨hB.ab, (show Bx H _ [(b4, .rows false 5 [y.row])] [] from hB).get At.here⟩ ?_ | apply drawr_nil | (apply drawr_read; (· (first | exact wanted_plain rfl | (apply wanted_on; (· exact rfl); (· exact rfl); (· (with_reducible first | assumption | rfl | decide))))); (· exact rfl); (· exact rfl); (· intro H' h; exact opD_load rfl rfl h.2 rfl (by first | exact partEvR y | exact rfl))) | (apply drawr_pick_t'; (· (first | exact wanted_plain rfl | (apply wanted_on; (· exact rfl); (· exact rfl); (· (with_reducible first | assumption | rfl | decide))))); (· exact rfl); (· exact rfl); (· (with_reducible first | assumption | rfl | decide)); (· exact rfl)) | (apply drawr_pure; (· (first | exact wanted_plain rfl | (apply wanted_on; (· exact rfl); (· exact rfl); (· (with_reducible first | assumption | rfl | decide))))); (· exact rfl); (· exact rfl); (· exact rfl)) | (apply drawr_move; (· (first | exact wanted_plain rfl | (apply wanted_on; (· exact rfl); (· exact rfl); (· (with_reducible first | assumption | rfl | decide))))); (· exact rfl)) | (apply drawr_off; (· (first | (apply wanted_off1; (· exact rfl); (· exact rfl); (· (with_reducible first | assumption | rfl | decide))) | (apply wanted_off0; (· exact rfl); (· exact rfl); (· (with_reducible first | assumption | rfl | decide))) | (apply wanted_none; (· exact rfl); (· exact rfl))))) | apply dwp_seq | apply dwp_region | apply ops_nil | (apply ops_plain; (· exact rfl)) | (apply op_call; (· exact rfl); (· exact rfl); (· exact rfl); (refine (one67 y _).mono ?_; rintro r H' ⟨rfl, hab⟩; replace hB := hB.grow hab; rw [hof]; refine ⟨⟨hB.ab, (show Bx H _ [(b4, .rows false 5 [y.row])] [] from hB).get At.here⟩, ?_⟩)) | (apply op_index_at; (· exact rfl); (· exact rfl); (· exact rfl); (· with_reducible exact hin1); (· exact rfl); (· exact rfl)) | (apply op_load_at; (· exact rfl); (· exact rfl); (· exact hB.ab.obj hloc ho); (· exact hr1); (· exact partEvR y)) | (apply bx_store0; (· exact rfl); (· exact rfl); (· exact rfl); (· assumption); (· (first | (dsimp only [DV.cells, getD_zero, getD_succ, Sv.cells]; done) | (dsimp only [DV.cells, getD_zero, getD_succ, Sv.cells]; exact rfl) | exact rfl)); (· (repeat (first | with_reducible exact Upd.here | with_reducible apply Upd.there))); (· exact rfl); (· exact rfl); (· exact rfl); (· exact rfl); intro H1 hB) | (apply bx_alloc; (· exact rfl); (· exact zero34); (· (first | (dsimp only [DV.cells, getD_zero, getD_succ, Sv.cells]; done) | (dsimp only [DV.cells, getD_zero, getD_succ, Sv.cells]; exact rfl) | exact rfl)); (· exact rfl); (· exact rfl); (· exact rfl); (· assumption); intro b4 H1 hB) | (apply op_at; (· exact rfl)) | (apply dwp_cond_t; (· exact rfl); (· (with_reducible first | assumption | rfl | decide))) | apply dwp_block | apply dwp_skip | apply dwp_ret | (refine ⟨_, rfl, ?_⟩) | fail)
        exact ⟨by rw [hev]; rfl, hB.ab⟩
      | false =>
        by_cases h0 : i = 0
        · have hp0 : decide ((i : Int) > 0) = false := by subst h0; rfl
          repeat' (first | dsimp only [putD, DV.cells, DH.new_next, DH.set_next, List.length_cons, List.length_nil, Nat.reduceAdd, List.set_cons_zero, List.set_cons_succ, getD_zero, getD_succ, fieldAt_zero, fieldAt_succ, thenD, blockD, retR] | refine dwp_drawr _ rfl (fun H' => Above H H' ∧ H'.obj b4 = some (.rows false 5 [y.row])) ⟨hB.ab, (show Bx H _ [(b4, .rows false 5 [y.row])] [] from hB).get At.here⟩ ?_ | apply drawr_nil | (apply drawr_read; (· (first | exact wanted_plain rfl | (apply wanted_on; (· exact rfl); (· exact rfl); (· (with_reducible first | assumption | rfl | decide))))); (· exact rfl); (· exact rfl); (· intro H' h; exact opD_load rfl rfl h.2 rfl (by first | exact partEvR y | exact rfl))) | (apply drawr_pick_f'; (· (first | exact wanted_plain rfl | (apply wanted_on; (· exact rfl); (· exact rfl); (· (with_reducible first | assumption | rfl | decide))))); (· exact rfl); (· exact rfl); (· (with_reducible first | assumption | rfl | decide)); (· exact rfl)) | (apply drawr_pure; (· (first | exact wanted_plain rfl | (apply wanted_on; (· exact rfl); (· exact rfl); (· (with_reducible first | assumption | rfl | decide))))); (· exact rfl); (· exact rfl); (· exact rfl)) | (apply drawr_move; (· (first | exact wanted_plain rfl | (apply wanted_on; (· exact rfl); (· exact rfl); (· (with_reducible first | assumption | rfl | decide))))); (· exact rfl)) | (apply drawr_off; (· (first | (apply wanted_off1; (· exact rfl); (· exact rfl); (· (with_reducible first | assumption | rfl | decide))) | (apply wanted_off0; (· exact rfl); (· exact rfl); (· (with_reducible first | assumption | rfl | decide))) | (apply wanted_none; (· exact rfl); (· exact rfl))))) | apply dwp_seq | apply dwp_region | apply ops_nil | (apply ops_plain; (· exact rfl)) | (apply op_call; (· exact rfl); (· exact rfl); (· exact rfl); (refine (one67 y _).mono ?_; rintro r H' ⟨rfl, hab⟩; replace hB := hB.grow hab; rw [hof]; refine ⟨⟨hB.ab, (show Bx H _ [(b4, .rows false 5 [y.row])] [] from hB).get At.here⟩, ?_⟩)) | (apply op_index_at; (· exact rfl); (· exact rfl); (· exact rfl); (· with_reducible exact hin1); (· exact rfl); (· exact rfl)) | (apply op_load_at; (· exact rfl); (· exact rfl); (· exact hB.ab.obj hloc ho); (· exact hr1); (· exact partEvR y)) | (apply op_told; (· exact rfl); (· exact congrArg (DV.int _) hw)) | (apply bx_store0; (· exact rfl); (· exact rfl); (· exact rfl); (· assumption); (· (first | (dsimp only [DV.cells, getD_zero, getD_succ, Sv.cells]; done) | (dsimp only [DV.cells, getD_zero, getD_succ, Sv.cells]; exact rfl) | exact rfl)); (· (repeat (first | with_reducible exact Upd.here | with_reducible apply Upd.there))); (· exact rfl); (· exact rfl); (· exact rfl); (· exact rfl); intro H1 hB) | (apply bx_alloc; (· exact rfl); (· exact zero34); (· (first | (dsimp only [DV.cells, getD_zero, getD_succ, Sv.cells]; done) | (dsimp only [DV.cells, getD_zero, getD_succ, Sv.cells]; exact rfl) | exact rfl)); (· exact rfl); (· exact rfl); (· exact rfl); (· assumption); intro b4 H1 hB) | (apply op_at; (· exact rfl)) | (apply dwp_cond_t; (· exact rfl); (· (with_reducible first | assumption | rfl | decide))) | (apply dwp_cond_f; (· exact rfl); (· (with_reducible first | assumption | rfl | decide))) | apply dwp_block | apply dwp_skip | fail)
          refine ⟨⟨_, i + 1, junk_facts ⟨hB.drop1, by omega, fun j u hj hu => ?_, fun j u v hj hu hv => ?_⟩ rfl rfl⟩, ?_⟩
          · rcases Nat.lt_succ_iff_lt_or_eq.mp hj with h | rfl
            · exact hq1 j u h hu
            · rw [hy] at hu; cases hu; exact hof
          · rcases Nat.lt_succ_iff_lt_or_eq.mp hj with h | h
            · exact hq2 j u v h hu hv
            · omega
          · show l.length - ((i + 1 : Nat) : Int).toNat < l.length - (i : Int).toNat
            omega
        · obtain ⟨z, hz⟩ : ∃ z, l[i - 1]? = some z := ⟨_, List.getElem?_eq_getElem (by omega)⟩
          have hp0 : decide ((i : Int) > 0) = true := by simp; omega
          have hwz : IntKind.i64.wrap ((i : Int) - 1) = ((i - 1 : Nat) : Int) := by rw [wrapI (by omega)]; omega
          have hinz : 0 ≤ ((i - 1 : Nat) : Int) ∧ ((i - 1 : Nat) : Int) < (l.length : Int) := by omega
          have hrz0 := hall (i - 1) z.row (by rw [List.getElem?_map, hz]; rfl)
          have hrz : rs[i0 + (((i - 1 : Nat) : Int)).toNat]? = some z.row := by rw [Int.toNat_natCast]; exact hrz0
          have hi1 : i - 1 + 1 = i := by omega
          cases hlt2 : decide (y.t < z.t) with
          | true =>
            have hev := evOk_unord hz (by rw [hi1]; exact hy) (by simpa using hlt2)
            repeat' (first | dsimp only [putD, DV.cells, DH.new_next, DH.set_next, List.length_cons, List.length_nil, Nat.reduceAdd, List.set_cons_zero, List.set_cons_succ, getD_zero, getD_succ, fieldAt_zero, fieldAt_succ, thenD, blockD, retR] | refine dwp_drawr _ rfl (fun H' => Above H H' ∧ H'.obj b4 = some (.rows false 5 [y.row])) ⟨hB.ab, (show Bx H _ [(b4, .rows false 5 [y.row])] [] from hB).get At.here⟩ ?_ | apply drawr_nil | (apply drawr_read; (· (first | exact wanted_plain rfl | (apply wanted_on; (· exact rfl); (· exact rfl); (· (with_reducible first | assumption | rfl | decide))))); (· exact rfl); (· exact rfl); (· intro H' h; exact opD_load rfl rfl h.2 rfl (by first | exact partEvR y | exact rfl))) | (apply drawr_read; (· (first | exact wanted_plain rfl | (apply wanted_on; (· exact rfl); (· exact rfl); (· (with_reducible first | assumption | rfl | decide))))); (· exact rfl); (· exact rfl); (· intro H' h; exact opD_load rfl rfl (h.1.obj hloc ho) hrz rfl)) | (apply drawr_pure; (· (first | exact wanted_plain rfl | (apply wanted_on; (· exact rfl); (· exact rfl); (· (with_reducible first | assumption | rfl | decide))))); (· exact rfl); (· exact rfl); (· exact opD_index rfl rfl rfl rfl rfl hinz)) | (apply drawr_pure; (· (first | exact wanted_plain rfl | (apply wanted_on; (· exact rfl); (· exact rfl); (· (with_reducible first | assumption | rfl | decide))))); (· exact rfl); (· exact rfl); (· exact opD_told' rfl (congrArg (DV.int _) hwz))) | (apply drawr_pick_t'; (· (first | exact wanted_plain rfl | (apply wanted_on; (· exact rfl); (· exact rfl); (· (with_reducible first | assumption | rfl | decide))))); (· exact rfl); (· exact rfl); (· (with_reducible first | assumption | rfl | decide)); (· exact rfl)) | (apply drawr_pick_f'; (· (first | exact wanted_plain rfl | (apply wanted_on; (· exact rfl); (· exact rfl); (· (with_reducible first | assumption | rfl | decide))))); (· exact rfl); (· exact rfl); (· (with_reducible first | assumption | rfl | decide)); (· exact rfl)) | (apply drawr_pure; (· (first | exact wanted_plain rfl | (apply wanted_on; (· exact rfl); (· exact rfl); (· (with_reducible first | assumption | rfl | decide))))); (· exact rfl); (· exact rfl); (· exact rfl)) | (apply drawr_move; (· (first | exact wanted_plain rfl | (apply wanted_on; (· exact rfl); (· exact rfl); (· (with_reducible first | assumption | rfl | decide))))); (· exact rfl)) | apply dwp_seq | apply dwp_region | apply ops_nil | (apply ops_plain; (· exact rfl)) | (apply op_call; (· exact rfl); (· exact rfl); (· exact rfl); (refine (one67 y _).mono ?_; rintro r H' ⟨rfl, hab⟩; replace hB := hB.grow hab; rw [hof]; refine ⟨⟨hB.ab, (show Bx H _ [(b4, .rows false 5 [y.row])] [] from hB).get At.here⟩, ?_⟩)) | (apply op_index_at; (· exact rfl); (· exact rfl); (· exact rfl); (· with_reducible exact hin1); (· exact rfl); (· exact rfl)) | (apply op_load_at; (· exact rfl); (· exact rfl); (· exact hB.ab.obj hloc ho); (· exact hr1); (· exact partEvR y)) | (apply bx_store0; (· exact rfl); (· exact rfl); (· exact rfl); (· assumption); (· (first | (dsimp only [DV.cells, getD_zero, getD_succ, Sv.cells]; done) | (dsimp only [DV.cells, getD_zero, getD_succ, Sv.cells]; exact rfl) | exact rfl)); (· (repeat (first | with_reducible exact Upd.here | with_reducible apply Upd.there))); (· exact rfl); (· exact rfl); (· exact rfl); (· exact rfl); intro H1 hB) | (apply bx_alloc; (· exact rfl); (· exact zero34); (· (first | (dsimp only [DV.cells, getD_zero, getD_succ, Sv.cells]; done) | (dsimp only [DV.cells, getD_zero, getD_succ, Sv.cells]; exact rfl) | exact rfl)); (· exact rfl); (· exact rfl); (· exact rfl); (· assumption); intro b4 H1 hB) | (apply op_at; (· exact rfl)) | (apply dwp_cond_t; (· exact rfl); (· (with_reducible first | assumption | rfl | decide))) | apply dwp_block | apply dwp_skip | apply dwp_ret | (refine ⟨_, rfl, ?_⟩) | fail)
            exact ⟨by rw [hev]; rfl, hB.ab⟩
          | false =>
            repeat' (first | dsimp only [putD, DV.cells, DH.new_next, DH.set_next, List.length_cons, List.length_nil, Nat.reduceAdd, List.set_cons_zero, List.set_cons_succ, getD_zero, getD_succ, fieldAt_zero, fieldAt_succ, thenD, blockD, retR] | refine dwp_drawr _ rfl (fun H' => Above H H' ∧ H'.obj b4 = some (.rows false 5 [y.row])) ⟨hB.ab, (show Bx H _ [(b4, .rows false 5 [y.row])] [] from hB).get At.here⟩ ?_ | apply drawr_nil | (apply drawr_read; (· (first | exact wanted_plain rfl | (apply wanted_on; (· exact rfl); (· exact rfl); (· (with_reducible first | assumption | rfl | decide))))); (· exact rfl); (· exact rfl); (· intro H' h; exact opD_load rfl rfl h.2 rfl (by first | exact partEvR y | exact rfl))) | (apply drawr_read; (· (first | exact wanted_plain rfl | (apply wanted_on; (· exact rfl); (· exact rfl); (· (with_reducible first | assumption | rfl | decide))))); (· exact rfl); (· exact rfl); (· intro H' h; exact opD_load rfl rfl (h.1.obj hloc ho) hrz rfl)) | (apply drawr_pure; (· (first | exact wanted_plain rfl | (apply wanted_on; (· exact rfl); (· exact rfl); (· (with_reducible first | assumption | rfl | decide))))); (· exact rfl); (· exact rfl); (· exact opD_index rfl rfl rfl rfl rfl hinz)) | (apply drawr_pure; (· (first | exact wanted_plain rfl | (apply wanted_on; (· exact rfl); (· exact rfl); (· (with_reducible first | assumption | rfl | decide))))); (· exact rfl); (· exact rfl); (· exact opD_told' rfl (congrArg (DV.int _) hwz))) | (apply drawr_pick_t'; (· (first | exact wanted_plain rfl | (apply wanted_on; (· exact rfl); (· exact rfl); (· (with_reducible first | assumption | rfl | decide))))); (· exact rfl); (· exact rfl); (· (with_reducible first | assumption | rfl | decide)); (· exact rfl)) | (apply drawr_pick_f'; (· (first | exact wanted_plain rfl | (apply wanted_on; (· exact rfl); (· exact rfl); (· (with_reducible first | assumption | rfl | decide))))); (· exact rfl); (· exact rfl); (· (with_reducible first | assumption | rfl | decide)); (· exact rfl)) | (apply drawr_pure; (· (first | exact wanted_plain rfl | (apply wanted_on; (· exact rfl); (· exact rfl); (· (with_reducible first | assumption | rfl | decide))))); (· exact rfl); (· exact rfl); (· exact rfl)) | (apply drawr_move; (· (first | exact wanted_plain rfl | (apply wanted_on; (· exact rfl); (· exact rfl); (· (with_reducible first | assumption | rfl | decide))))); (· exact rfl)) | apply dwp_seq | apply dwp_region | apply ops_nil | (apply ops_plain; (· exact rfl)) | (apply op_call; (· exact rfl); (· exact rfl); (· exact rfl); (refine (one67 y _).mono ?_; rintro r H' ⟨rfl, hab⟩; replace hB := hB.grow hab; rw [hof]; refine ⟨⟨hB.ab, (show Bx H _ [(b4, .rows false 5 [y.row])] [] from hB).get At.here⟩, ?_⟩)) | (apply op_index_at; (· exact rfl); (· exact rfl); (· exact rfl); (· with_reducible exact hin1); (· exact rfl); (· exact rfl)) | (apply op_load_at; (· exact rfl); (· exact rfl); (· exact hB.ab.obj hloc ho); (· exact hr1); (· exact partEvR y)) | (apply op_told; (· exact rfl); (· exact congrArg (DV.int _) hw)) | (apply bx_store0; (· exact rfl); (· exact rfl); (· exact rfl); (· assumption); (· (first | (dsimp only [DV.cells, getD_zero, getD_succ, Sv.cells]; done) | (dsimp only [DV.cells, getD_zero, getD_succ, Sv.cells]; exact rfl) | exact rfl)); (· (repeat (first | with_reducible exact Upd.here | with_reducible apply Upd.there))); (· exact rfl); (· exact rfl); (· exact rfl); (· exact rfl); intro H1 hB) | (apply bx_alloc; (· exact rfl); (· exact zero34); (· (first | (dsimp only [DV.cells, getD_zero, getD_succ, Sv.cells]; done) | (dsimp only [DV.cells, getD_zero, getD_succ, Sv.cells]; exact rfl) | exact rfl)); (· exact rfl); (· exact rfl); (· exact rfl); (· assumption); intro b4 H1 hB) | (apply op_at; (· exact rfl)) | (apply dwp_cond_t; (· exact rfl); (· (with_reducible first | assumption | rfl | decide))) | (apply dwp_cond_f; (· exact rfl); (· (with_reducible first | assumption | rfl | decide))) | apply dwp_block | apply dwp_skip | fail)
            refine ⟨⟨_, i + 1, junk_facts ⟨hB.drop1, by omega, fun j u hj hu => ?_, fun j u v hj hu hv => ?_⟩ rfl rfl⟩, ?_⟩
            · rcases Nat.lt_succ_iff_lt_or_eq.mp hj with h | rfl
              · exact hq1 j u h hu
              · rw [hy] at hu; cases hu; exact hof
            · rcases Nat.lt_succ_iff_lt_or_eq.mp hj with h | h
              · exact hq2 j u v h hu hv
              · have hj' : j = i - 1 := by omega
                subst hj'
                rw [hz] at hu; cases hu
                rw [hi1, hy] at hv; cases hv
                simpa using hlt2
            · show l.length - ((i + 1 : Nat) : Int).toNat < l.length - (i : Int).toNat
              omega
    · have hie : i = l.length := by omega
      subst hie
      have hc : decide ((l.length : Int) < (l.length : Int)) = false := by simp
      have hev := evOk_all hl2 (fun j y hy => hq1 j y (List.getElem?_eq_some_iff.mp hy).1 hy) (fun j x y hx hy => hq2 j x y (List.getElem?_eq_some_iff.mp hy).1 hx hy)
      repeat' (first | dsimp only [putD, DV.cells, DH.new_next, DH.set_next, List.length_cons, List.length_nil, Nat.reduceAdd, List.set_cons_zero, List.set_cons_succ, getD_zero, getD_succ, fieldAt_zero, fieldAt_succ, thenD, blockD, retR] | apply dwp_seq | apply dwp_region | apply ops_nil | (apply ops_plain; (· exact rfl)) | (apply op_at; (· exact rfl)) | (apply dwp_cond_f; (· exact rfl); (· (with_reducible first | assumption | rfl | decide))) | apply dwp_ret | apply dwp_exit | (refine ⟨_, rfl, ?_⟩) | fail)
      exact ⟨by rw [hev]; rfl, hB.ab⟩
end Go.Det.C
