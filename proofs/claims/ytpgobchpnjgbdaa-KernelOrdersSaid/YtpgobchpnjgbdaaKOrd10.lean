/- slices.SortFunc at items: the kit's contract, told in my reading's terms. -/
import Derived.Shelf.SlSortCmp.WholeK
import Derived.Test.YtpgobchpnjgbdaaKOrd9
namespace Go.Proofs
open Go.Shelf Go.RowKit Go.Lib Go.Sort
-- what the kit's command 'shelf_lay_g SlLaysF0.n6 Slsf 6 at Try 59' lays, in plain words
def Try.sortItem_ren : Go.Shelf.Ren := ⟨fun | 6 => 59 | 15 => 70 | 14 => 69 | 28 => 85 | 29 => 86 | 20 => 77 | 21 => 78 | 22 => 79 | 23 => 80 | 24 => 81 | 25 => 82 | 26 => 83 | 27 => 84 | 46 => 91 | 47 => 92 | 48 => 93 | 49 => 94 | 50 => 95 | 57 => 96 | n => n, fun | 22 => 23 | 24 => 26 | 25 => 80 | 3 => 3 | 39 => 88 | 0 => 0 | 53 => 104 | 55 => 24 | 4 => 4 | 46 => 98 | 45 => 97 | 50 => 44 | 5 => 5 | 9 => 9 | 66 => 110 | 70 => 114 | 76 => 116 | 77 => 117 | n => n, fun | n => n⟩
theorem Try.sortItem : Go.Proofs.SlLaysF0.n6 Try.prog Try.sortItem_ren where
  mixed := by kernel_rfl
  f6 := ⟨"slices.SortFunc[[]pallet/api.Item,pallet/api.Item]", by decide, Try.func59.trans (congrArg some (by kernel_rfl))⟩
  f14 := ⟨"slices.pdqsortCmpFunc[pallet/api.Item]", by decide, Try.func69.trans (congrArg some (by kernel_rfl))⟩
  f15 := Try.func70.trans (congrArg some (by kernel_rfl))
  f20 := ⟨"slices.insertionSortCmpFunc[pallet/api.Item]", by decide, Try.func77.trans (congrArg some (by kernel_rfl))⟩
  f21 := ⟨"slices.heapSortCmpFunc[pallet/api.Item]", by decide, Try.func78.trans (congrArg some (by kernel_rfl))⟩
  f22 := ⟨"slices.breakPatternsCmpFunc[pallet/api.Item]", by decide, Try.func79.trans (congrArg some (by kernel_rfl))⟩
  f23 := ⟨"slices.choosePivotCmpFunc[pallet/api.Item]", by decide, Try.func80.trans (congrArg some (by kernel_rfl))⟩
  f24 := ⟨"slices.reverseRangeCmpFunc[pallet/api.Item]", by decide, Try.func81.trans (congrArg some (by kernel_rfl))⟩
  f25 := ⟨"slices.partialInsertionSortCmpFunc[pallet/api.Item]", by decide, Try.func82.trans (congrArg some (by kernel_rfl))⟩
  f26 := ⟨"slices.partitionEqualCmpFunc[pallet/api.Item]", by decide, Try.func83.trans (congrArg some (by kernel_rfl))⟩
  f27 := ⟨"slices.partitionCmpFunc[pallet/api.Item]", by decide, Try.func84.trans (congrArg some (by kernel_rfl))⟩
  f28 := Try.func85.trans (congrArg some (by kernel_rfl))
  f29 := Try.func86.trans (congrArg some (by kernel_rfl))
  f46 := ⟨"slices.siftDownCmpFunc[pallet/api.Item]", by decide, Try.func91.trans (congrArg some (by kernel_rfl))⟩
  f47 := Try.func92.trans (congrArg some (by kernel_rfl))
  f48 := Try.func93.trans (congrArg some (by kernel_rfl))
  f49 := ⟨"slices.medianAdjacentCmpFunc[pallet/api.Item]", by decide, Try.func94.trans (congrArg some (by kernel_rfl))⟩
  f50 := ⟨"slices.medianCmpFunc[pallet/api.Item]", by decide, Try.func95.trans (congrArg some (by kernel_rfl))⟩
  f57 := ⟨"slices.order2CmpFunc[pallet/api.Item]", by decide, Try.func96.trans (congrArg some (by kernel_rfl))⟩
  t0 := Try.underlying0
  a0 := Try.isAgg0
  z0 := Try.sizeOf0
  v0 := Try.zeroValue0
  t3 := Try.underlying3
  a3 := Try.isAgg3
  z3 := Try.sizeOf3
  v3 := Try.zeroValue3
  t4 := Try.underlying4
  a4 := Try.isAgg4
  z4 := Try.sizeOf4
  v4 := Try.zeroValue4
  t5 := Try.underlying5
  a5 := Try.isAgg5
  z5 := Try.sizeOf5
  v5 := Try.zeroValue5
  t9 := Try.underlying9
  a9 := Try.isAgg9
  z9 := Try.sizeOf9
  v9 := Try.zeroValue9
  t22 := Try.underlying23
  a22 := Try.isAgg23
  z22 := Try.sizeOf23
  v22 := Try.zeroValue23
  t25 := Try.underlying80
  a25 := Try.isAgg80
  z25 := Try.sizeOf80
  v25 := Try.zeroValue80
  t39 := Try.underlying88
  a39 := Try.isAgg88
  z39 := Try.sizeOf88
  v39 := Try.zeroValue88
  t45 := Try.underlying97
  a45 := Try.isAgg97
  z45 := Try.sizeOf97
  v45 := Try.zeroValue97
  t46 := Try.underlying98
  a46 := Try.isAgg98
  z46 := Try.sizeOf98
  v46 := Try.zeroValue98
  t50 := Try.underlying44
  a50 := Try.isAgg44
  z50 := Try.sizeOf44
  v50 := Try.zeroValue44
  t53 := Try.underlying104
  a53 := Try.isAgg104
  z53 := Try.sizeOf104
  v53 := Try.zeroValue104
  t55 := Try.underlying24
  a55 := Try.isAgg24
  z55 := Try.sizeOf24
  v55 := Try.zeroValue24
  t66 := Try.underlying110
  a66 := Try.isAgg110
  z66 := Try.sizeOf110
  v66 := Try.zeroValue110
  t70 := Try.underlying114
  a70 := Try.isAgg114
  z70 := Try.sizeOf114
  v70 := Try.zeroValue114
  t76 := Try.underlying116
  a76 := Try.isAgg116
  z76 := Try.sizeOf116
  v76 := Try.zeroValue116
  t77 := Try.underlying117
  a77 := Try.isAgg117
  z77 := Try.sizeOf117
  v77 := Try.zeroValue117
end Go.Proofs
namespace Go.Det.Q
open Go Go.Det Go.Proofs Go.RowKit Go.Sort
set_option maxRecDepth 4000
set_option maxHeartbeats 4000000
set_option linter.unusedVariables false
set_option linter.unusedSimpArgs false
instance : Inhabited Item := ⟨⟨0, 0, 0, 0, 0, 0⟩⟩
def encI (x : Item) : List Value := [.int .i64 x.a, .int .i64 x.c, .int .u64 x.s, .int .i64 x.w, .int .i64 x.h, .int .u64 x.n]
theorem encI_rel (ρ : Rho) (x : Item) : VRs ρ x.cells (encI x) := by
  simp [Item.cells, encI, VRs, VR]
theorem enc_at (x : Item) {r : Nat} (hr : r < 6) : ∃ d, x.cells[r]? = some d ∧ d.one = true ∧ ∀ ρ c, VR ρ d c ↔ c = (encI x)[r]! := by
  match r, hr with
  | 0, _ => exact ⟨_, rfl, rfl, fun ρ c => by simp [VR, encI]⟩
  | 1, _ => exact ⟨_, rfl, rfl, fun ρ c => by simp [VR, encI]⟩
  | 2, _ => exact ⟨_, rfl, rfl, fun ρ c => by simp [VR, encI]⟩
  | 3, _ => exact ⟨_, rfl, rfl, fun ρ c => by simp [VR, encI]⟩
  | 4, _ => exact ⟨_, rfl, rfl, fun ρ c => by simp [VR, encI]⟩
  | 5, _ => exact ⟨_, rfl, rfl, fun ρ c => by simp [VR, encI]⟩
/-- Nothing of what there was has changed: the world has grown, and has drawn. -/
theorem grow_of {ρ ρ' : Rho} {H' : DH} {W w' : World} (m : Moves ρ H0 W ρ' H' w') : ∃ q os', w' = grow (W.drewN q) os' := by
  refine ⟨w'.drawn - W.drawn, w'.heap.extract W.heap.size w'.heap.size, ?_⟩
  have h1 := m.os
  have h2 := m.tape
  have h3 := m.output
  have h4 := m.drawn
  have h5 := m.size
  have h6 : ∀ b, b < W.heap.size → w'.heap[b]? = W.heap[b]? := fun b hb => m.same b hb fun ⟨l, o, pl, ho, _⟩ => by cases ho
  cases w' with
  | mk heap tape drawn os output =>
    cases W with
    | mk heap0 tape0 drawn0 os0 output0 =>
      simp only at h1 h2 h3 h4 h5 h6
      subst h1 h2 h3
      simp only [grow, World.drewN, World.mk.injEq, and_true, true_and]
      refine ⟨?_, by omega⟩
      apply Array.ext_getElem?
      intro k
      rw [Array.getElem?_append]
      split
      · rename_i hk; exact h6 k hk
      · rename_i hk
        rw [Array.getElem?_extract]
        split
        · congr 1; omega
        · rename_i h; rw [Array.getElem?_eq_none]; omega
theorem cmp_lays (x y : Item) (W : World) : Calls Try.prog 60 #[.agg (encI x).toArray, .agg (encI y).toArray] W fun e w' => e = .returned (.int .i64 (icmp x y)) ∧ ∃ q os', w' = grow (W.drewN q) os' := by
  obtain ⟨k, r, H1, hk, rfl⟩ := (cmp60 x y).ex
  refine (calls_sound okX1 Try.func60 rfl rfl hk (empty_agree (W := W)) (vs := #[.agg (encI x).toArray, .agg (encI y).toArray]) ?_).mono fun e w' he => ?_
  · refine .cons ?_ (.one ?_)
    · simp only [VR]; exact ⟨rfl, _, rfl, encI_rel _ x⟩
    · simp only [VR]; exact ⟨rfl, _, rfl, encI_rel _ y⟩
  · cases e with
    | returned v =>
      obtain ⟨ρ', h1, h2⟩ := he
      simp only [VR] at h1
      subst h1
      exact ⟨rfl, grow_of h2⟩
    | panicked ch => exact he.elim
    | outgrown => exact he.elim
theorem swo_icmp : Go.Sort.SWO (Go.Proofs.ltOf icmp) where
  irrefl := ilt_irrefl
  trans := fun x y z h k => ilt_trans (x := x) (y := y) (z := z) h k
  ntrans := fun x y z h k => by
    have h' : ilt x y = false := h
    have k' : ilt y z = false := k
    show ilt x z = false
    cases e : ilt x z with
    | false => rfl
    | true =>
      exfalso
      cases e2 : ilt y x with
      | false => rw [ilt_total h' e2] at e; rw [e] at k'; cases k'
      | true => rw [ilt_trans e2 e] at k'; cases k'
theorem moves_grow {ρ : Rho} {H : DH} {w : World} (ha : Agree ρ H w) (m : Nat) (os : Array Obj) : Moves ρ H w ρ H (grow (Go.Sort.ahead w m) os) where
  le := Rho.le_refl _
  agree := ⟨ha.low, fun l pl h => Nat.lt_of_lt_of_le (ha.lies l pl h) (by simp [grow, Go.Sort.ahead]), fun l o h => by
    obtain ⟨pl, hp, ho⟩ := ha.obj l o h
    refine ⟨pl, hp, ?_⟩
    have : (grow (Go.Sort.ahead w m) os).heap[pl.block]? = w.heap[pl.block]? := by
      show (w.heap ++ os)[pl.block]? = _
      rw [Array.getElem?_append_left (ha.lies l pl hp)]
    rw [this]; exact ho, ha.apart⟩
  os := rfl
  tape := rfl
  output := rfl
  drawn := Nat.le_add_right _ _
  size := by simp [grow, Go.Sort.ahead]
  same := fun b hb _ => by
    show (w.heap ++ os)[b]? = _
    rw [Array.getElem?_append_left hb]
  own := fun b hb => .inl hb
  fresh := fun _ _ h => .inl h
/-- What is there, as the kit tells it. -/
theorem holds_items {ρ : Rho} {pl : Pl} {w : World} {rs : List (List DV)} {l : List Item} {i : Nat} (hb : pl.block < w.heap.size) (ho : ObjR ρ pl w.heap[pl.block]? (.rows false 6 rs)) (hl : (rs.drop i).take l.length = l.map Item.cells) (hi : i + l.length ≤ pl.tot) :
    HoldsK encI 6 w pl.block (pl.off + i * 6) l.toArray := by
  obtain ⟨hz, hlen, hrows, hloose⟩ := ho
  obtain ⟨cs, t, lo, hi', hbk, hsz, hfr⟩ := hloose rfl
  intro j hj
  rw [size_flatK, List.size_toArray] at hj
  have hq : j / 6 < l.length := by omega
  have hr : j % 6 < 6 := Nat.mod_lt _ (by omega)
  have hrow : rs[i + j / 6]? = some (l[j / 6]).cells := by
    have h := congrArg (fun z => z[j / 6]?) hl
    simp only [List.getElem?_take, List.getElem?_drop, List.getElem?_map] at h
    rw [if_pos hq, List.getElem?_eq_getElem hq] at h
    exact h
  obtain ⟨d, hd, _, hv⟩ := enc_at (l[j / 6]) hr
  obtain ⟨_, c, hc, hvr⟩ := (hrows _ _ hrow).2 _ _ hd
  have e : pl.off + (i + j / 6) * 6 + j % 6 = pl.off + i * 6 + j := by omega
  rw [e] at hc
  refine ⟨?_, ?_⟩
  · rw [cell?_eq, hc, get_flatK _ _ _ _ (by rw [List.size_toArray]; exact hj), (hv ρ c).mp hvr]
    simp only [id, Option.some.injEq]
    rw [getElem!_pos l.toArray (j / 6) (by rw [List.size_toArray]; exact hq)]
    rfl
  · simp only [World.frozen?, hbk]
    have := hfr (pl.off + i * 6 + j) (by rw [hz] at *; omega)
    simp only [Bool.and_eq_false_iff, decide_eq_false_iff_not]
    omega
theorem put_items {ρ : Rho} {pl : Pl} {w : World} {rs : List (List DV)} {l m : List Item} {i : Nat} (hb : pl.block < w.heap.size) (ho : ObjR ρ pl w.heap[pl.block]? (.rows false 6 rs)) (hl : (rs.drop i).take l.length = l.map Item.cells) (hi : i + l.length ≤ pl.tot) (hm : m.length = l.length) (h0 : 0 < l.length) :
    ObjR ρ pl (putRowK encI 6 w pl.block (pl.off + i * 6) m.toArray).heap[pl.block]? (.rows false 6 (rs.take i ++ m.map Item.cells ++ rs.drop (i + l.length))) := by
  have hH := holds_items hb ho hl hi
  obtain ⟨hz, hlen, hrows, hloose⟩ := ho
  have hil : i + l.length ≤ rs.length := by
    have h := congrArg List.length hl
    simp only [List.length_take, List.length_drop, List.length_map] at h
    omega
  have hml : (rs.take i ++ m.map Item.cells).length = i + l.length := by simp; omega
  refine ⟨hz, by simp; omega, fun q r hr => ?_, fun _ => ?_⟩
  · have cellEq : ∀ o, cellAt (putRowK encI 6 w pl.block (pl.off + i * 6) m.toArray).heap[pl.block]? o = (putRowK encI 6 w pl.block (pl.off + i * 6) m.toArray).cell? ⟨pl.block, o, none⟩ := fun o => (cell?_eq _ _ _).symm
    have cellEq0 : ∀ o, cellAt w.heap[pl.block]? o = w.cell? ⟨pl.block, o, none⟩ := fun o => (cell?_eq _ _ _).symm
    by_cases h1 : q < i
    · rw [List.append_assoc, List.getElem?_append_left (by simp; omega), List.getElem?_take, if_pos h1] at hr
      refine ⟨(hrows _ _ hr).1, fun j d hd => ?_⟩
      obtain ⟨hone, c, hc, hvr⟩ := (hrows _ _ hr).2 _ _ hd
      have hj : j < 6 := by have := (List.getElem?_eq_some_iff.mp hd).1; rw [(hrows _ _ hr).1] at this; exact this
      refine ⟨hone, c, ?_, hvr⟩
      rw [cellEq, putRowK, cell?_putRow_other _ _ _ _ _ _ (.inr (.inl (by simp only; omega))), ← cellEq0]
      exact hc
    · by_cases h2 : q < i + l.length
      · rw [List.getElem?_append_left (by rw [hml]; omega), List.getElem?_append_right (by simp; omega)] at hr
        have hq2 : q - (rs.take i).length = q - i := by rw [List.length_take]; omega
        rw [hq2, List.getElem?_map, List.getElem?_eq_getElem (by omega)] at hr
        cases hr
        refine ⟨rfl, fun j d hd => ?_⟩
        have hj : j < 6 := (List.getElem?_eq_some_iff.mp hd).1
        obtain ⟨d', hd', hone, hv⟩ := enc_at (m[q - i]'(by omega)) hj
        rw [hd] at hd'; cases hd'
        refine ⟨hone, _, ?_, (hv ρ _).mpr rfl⟩
        have hjj : (q - i) * 6 + j < m.toArray.size * 6 := by rw [List.size_toArray]; omega
        have e1 : pl.off + q * 6 + j = pl.off + i * 6 + ((q - i) * 6 + j) := by omega
        rw [cellEq, e1, putRowK, cell?_putRow id w _ _ (flatK encI 6 l.toArray) _ hH (by simp [hm]) _ (by rw [size_flatK]; exact hjj), get_flatK _ _ _ _ hjj]
        have e2 : ((q - i) * 6 + j) / 6 = q - i := by omega
        have e3 : ((q - i) * 6 + j) % 6 = j := by omega
        rw [e2, e3, getElem!_pos m.toArray (q - i) (by rw [List.size_toArray]; omega)]
        rfl
      · rw [List.getElem?_append_right (by rw [hml]; omega), hml, List.getElem?_drop] at hr
        have e : i + l.length + (q - (i + l.length)) = q := by omega
        rw [e] at hr
        refine ⟨(hrows _ _ hr).1, fun j d hd => ?_⟩
        obtain ⟨hone, c, hc, hvr⟩ := (hrows _ _ hr).2 _ _ hd
        refine ⟨hone, c, ?_, hvr⟩
        rw [cellEq, putRowK, cell?_putRow_other _ _ _ _ _ _ (.inr (.inr (by simp only [size_flatK, List.size_toArray]; omega))), ← cellEq0]
        exact hc
  · obtain ⟨cs, t, lo, hi', hbk, hsz, hfr⟩ := hloose rfl
    refine ⟨putCells id (pl.off + i * 6) (flatK encI 6 m.toArray) cs, t, lo, hi', ?_, by simpa [putCells] using hsz, hfr⟩
    simp only [putRowK, putRow, mapBlock, Array.getElem?_modify, if_pos, hbk, Option.map_some]
    rfl
theorem one_put {w : World} {b o : Nat} {d : Array Item} : OneBlock w (putRowK encI 6 w b o d) b where
  os := rfl
  tape := rfl
  output := rfl
  drawn := rfl
  size := by simp [putRowK]
  same := fun k hk => by simp only [putRowK, putRow, mapBlock, Array.getElem?_modify, if_neg (fun e => hk (Eq.symm e))]
theorem pairwise_of {l : List Item} (h : ∀ i j, i < j → j < l.length → ilt l[j]! l[i]! = false) : Sorted l := by
  unfold Sorted
  rw [List.pairwise_iff_getElem]
  intro i j hi hj hij
  have := h i j hij hj
  rw [getElem!_pos l j hj, getElem!_pos l i hi] at this
  exact this
theorem sort_some {H : DH} {loc i n c : Nat} {ex : Bool} {rs : List (List DV)} {l : List Item} (ho : H.obj loc = some (.rows false 6 rs)) (hl : (rs.drop i).take l.length = l.map Item.cells) (hn : l.length = n) (h0 : 0 < n) (hm : n ≤ 1000000)
    {ρ : Rho} {w : World} (ha : Agree ρ H w) {v : Value} (hv : VR ρ (.sl (some (loc, i, 6)) n c ex) v) :
    Calls Try.prog 59 #[v, .func (.func 60) #[] #[]] w fun e w' => e = .returned (.tuple #[]) ∧ Moves ρ H w ρ (H.set loc (some (.rows false 6 (rs.take i ++ (sortL l).map Item.cells ++ rs.drop (i + n))))) w' := by
  simp only [VR] at hv
  obtain ⟨pl, a, c', hp, hz, rfl, h1, h2, h3, h4, h5⟩ := hv
  obtain ⟨pl', hp', ho'⟩ := ha.obj loc _ ho
  rw [hp] at hp'; cases hp'
  have hb := ha.lies _ _ hp
  obtain rfl := h5.resolve_left (by omega)
  have e : pl.addr i 0 = ⟨pl.block, pl.off + i * 6, none⟩ := by unfold Pl.addr; rw [hz]; rfl
  rw [e]
  subst hn
  have hH := holds_items hb ho' hl (by omega)
  have eg : ∀ args w, (callFunc 60 args).run Try.prog w = .ok (.enter 60 args) w := enters_of Try.func60 (by kernel_rfl) rfl
  have hcmp : CmpLays Try.prog 60 #[] encI 6 icmp pl.block (pl.off + i * 6) l.toArray.size w := fun _ _ _ _ x y => cmp_lays x y _
  have hcon := AnyQ.slices_SortFunc Try.sortItem 6 Try.isAgg26 Try.sizeOf26 encI (fun _ => rfl) (fun x v hv => by simp [encI] at hv; rcases hv with rfl | rfl | rfl | rfl | rfl | rfl <;> rfl) icmp swo_icmp 60 #[] pl.block (pl.off + i * 6) c' l.toArray w eg hcmp hH hb (by rw [List.size_toArray]; omega)
  change Calls Try.prog 59 _ _ _ at hcon
  refine hcon.mono ?_
  rintro e w' ⟨rfl, d', m, os, hpm, hst, rfl⟩
  refine ⟨rfl, ?_⟩
  obtain ⟨hsz, _, hperm⟩ := hpm
  have hd : d'.toList = sortL l := by
    symm
    refine sortL_of_perm ?_ (pairwise_of fun i j hij hj => ?_)
    · rw [Array.extract_eq_self_of_le (by omega), Array.extract_eq_self_of_le (by omega)] at hperm
      exact hperm.symm
    · have hj' : j < d'.size := by simpa using hj
      have := hst i j (Nat.zero_le _) hij (by omega)
      rw [getElem!_pos d'.toList j hj, getElem!_pos d'.toList i (by omega), Array.getElem_toList, Array.getElem_toList, ← getElem!_pos d' j hj', ← getElem!_pos d' i (by omega)]
      exact this
  have hd' : d' = (sortL l).toArray := by rw [← hd]
  rw [hd']
  have hput := put_items (m := sortL l) hb ho' hl (by omega) ((sortL_perm l).length_eq) h0
  have hm1 := moves_set ha ho rfl rfl hp (one_put (d := (sortL l).toArray) (o := pl.off + i * 6)) hput
  exact hm1.trans (moves_grow hm1.agree m os)
end Go.Det.Q

/- What pushes, pops and takes come to, in one form. -/
namespace Go.Det.Q
open Go Go.Det Go.Proofs
set_option maxRecDepth 4000
set_option maxHeartbeats 4000000
set_option linter.unusedVariables false
set_option linter.unusedSimpArgs false
def zeroI : Item := ⟨0, 0, 0, 0, 0, 0⟩
theorem nilF (A H : DH) : ItsF A H (.sl none 0 0 true) [] := ⟨none, 0, true, rfl, .nil0 H, fun _ _ _ h => (by cases h)⟩
def pushE (l : List Item) : Int := if checkB l = true then (if l.length = 4096 then 7 else 0) else 1
def pushV (l : List Item) (x : Item) : List Item := if pushE l = 0 then upL (l ++ [x]) l.length else []
def popE (l : List Item) : Int := if checkB l = true then (if l = [] then 8 else 0) else 1
def popX (l : List Item) : Item := if popE l = 0 then g l 0 else zeroI
def popV (l : List Item) : List Item := if popE l = 0 then withoutL l 0 else []
def takeE (l : List Item) (q : Int) : Int := if checkB l = true then (if takeF l q l.length < 0 then 8 else 0) else 1
def takeX (l : List Item) (q : Int) : Item := if takeE l q = 0 then g l (takeF l q l.length).toNat else zeroI
def takeV (l : List Item) (q : Int) : List Item := if takeE l q = 0 then withoutL l (takeF l q l.length).toNat else []
def rtakeV (l : List Item) (q : Int) : List Item := if takeE l q = 0 then sortL (withoutL l (takeF l q l.length).toNat) else []
theorem pushE_bad {l : List Item} (h : checkB l = false) : pushE l = 1 := by simp [pushE, h]
theorem pushE_full {l : List Item} (h : checkB l = true) (k : l.length = 4096) : pushE l = 7 := by simp [pushE, h, k]
theorem pushE_ok {l : List Item} (h : checkB l = true) (k : l.length ≠ 4096) : pushE l = 0 := by simp [pushE, h, k]
theorem popE_bad {l : List Item} (h : checkB l = false) : popE l = 1 := by simp [popE, h]
theorem popE_none {l : List Item} (h : checkB l = true) (k : l = []) : popE l = 8 := by unfold popE; rw [if_pos h, if_pos k]
theorem popE_ok {l : List Item} (h : checkB l = true) (k : l ≠ []) : popE l = 0 := by simp [popE, h, k]
theorem takeE_bad {l : List Item} {q : Int} (h : checkB l = false) : takeE l q = 1 := by simp [takeE, h]
theorem takeE_none {l : List Item} {q : Int} (h : checkB l = true) (k : takeF l q l.length < 0) : takeE l q = 8 := by simp [takeE, h, k]
theorem takeE_ok {l : List Item} {q : Int} (h : checkB l = true) (k : ¬ takeF l q l.length < 0) : takeE l q = 0 := by simp [takeE, h, k]
theorem checkB_heap {l : List Item} : checkB l = true ↔ Heap l ∧ l.length ≤ 4096 := by
  unfold checkB
  rw [Bool.and_eq_true, heapB_heap, decide_eq_true_eq]
section
variable {H : DH} {s : DV} {l : List Item}
theorem push_c (x : Item) (h : Its H s l) (hn : l.length ≤ 1000000) : CallWp Try.prog X4 16 [s, .agg x.cells] H (fun r H' => Above H H' ∧ ∃ s', r = .tuple [s', .int .i64 (pushE l)] ∧ ItsF H H' s' (pushV l x)) := by
  obtain ⟨p, c, ex, rfl, hl⟩ := h
  refine (push16 H p c ex l x hl hn).mono ?_
  rintro r H' ⟨hab, ⟨h1, rfl⟩ | ⟨h1, h2, rfl⟩ | ⟨h1, h2, s', rfl, h3⟩⟩
  · exact ⟨hab, _, by rw [pushE_bad h1], by unfold pushV; rw [pushE_bad h1]; exact nilF _ _⟩
  · exact ⟨hab, _, by rw [pushE_full h1 h2], by unfold pushV; rw [pushE_full h1 h2]; exact nilF _ _⟩
  · exact ⟨hab, s', by rw [pushE_ok h1 h2], by unfold pushV; rw [pushE_ok h1 h2]; exact h3⟩
theorem pop_c (h : Its H s l) (hn : l.length ≤ 1000000) : CallWp Try.prog X4 19 [s] H (fun r H' => Above H H' ∧ ∃ s', r = .tuple [.agg (popX l).cells, s', .int .i64 (popE l)] ∧ ItsF H H' s' (popV l)) := by
  obtain ⟨p, c, ex, rfl, hl⟩ := h
  refine (pop19 H p c ex l hl hn).mono ?_
  rintro r H' ⟨hab, ⟨h1, rfl⟩ | ⟨h1, h2, rfl⟩ | ⟨h1, x, s', h2, rfl, h3⟩⟩
  · exact ⟨hab, _, by unfold popX; rw [popE_bad h1]; rfl, by unfold popV; rw [popE_bad h1]; exact nilF _ _⟩
  · exact ⟨hab, _, by unfold popX; rw [popE_none h1 h2]; rfl, by unfold popV; rw [popE_none h1 h2]; exact nilF _ _⟩
  · have hne : l ≠ [] := fun e => by subst e; simp at h2
    exact ⟨hab, s', by unfold popX; rw [popE_ok h1 hne, if_pos rfl, g_of h2], by unfold popV; rw [popE_ok h1 hne]; exact h3⟩
theorem take_c (q : Int) (h : Its H s l) (hn : l.length ≤ 1000000) : CallWp Try.prog X4 28 [s, .int .u64 q] H (fun r H' => Above H H' ∧ ∃ s', r = .tuple [.agg (takeX l q).cells, s', .int .i64 (takeE l q)] ∧ ItsF H H' s' (takeV l q)) := by
  obtain ⟨p, c, ex, rfl, hl⟩ := h
  refine (take28 H p c ex l q hl hn).mono ?_
  rintro r H' ⟨hab, ⟨h1, rfl⟩ | ⟨h1, h2, rfl⟩ | ⟨h1, k, x, s', h2, h3, rfl, h4⟩⟩
  · exact ⟨hab, _, by unfold takeX; rw [takeE_bad h1]; rfl, by unfold takeV; rw [takeE_bad h1]; exact nilF _ _⟩
  · exact ⟨hab, _, by unfold takeX; rw [takeE_none h1 h2]; rfl, by unfold takeV; rw [takeE_none h1 h2]; exact nilF _ _⟩
  · have hne : ¬ takeF l q l.length < 0 := by omega
    have e : (takeF l q l.length).toNat = k := by rw [h2]; simp
    exact ⟨hab, s', by unfold takeX; rw [takeE_ok h1 hne, if_pos rfl, e, g_of h3], by unfold takeV; rw [takeE_ok h1 hne, e]; exact h4⟩
theorem sorted_c (h : Its H s l) (hn : l.length ≤ 1000000) : CallWp Try.prog X4 22 [s] H (fun r H' => Above H H' ∧ ItsF H H' r (sortL l)) := by
  obtain ⟨p, c, ex, rfl, hl⟩ := h
  exact sorted22 H p c ex l hl hn
theorem check_t (h : Its H s l) : gCheck [s] H = some (.bool (checkB l), H) := by
  obtain ⟨p, c, ex, rfl, hl⟩ := h
  exact hl.check
theorem same_t {t : DV} {m : List Item} (h : Its H s l) (k : Its H t m) : gSame [s, t] H = some (.bool (decide (l = m)), H) := by
  obtain ⟨p, c, ex, rfl, hl⟩ := h
  obtain ⟨p', c', ex', rfl, hm⟩ := k
  exact hl.same hm
theorem len_t (h : Its H s l) : lenD Try.prog 23 s = some (.int .i64 l.length) := by
  obtain ⟨p, c, ex, rfl, hl⟩ := h
  unfold lenD
  rw [Try.underlying23]
end
/-! ### what the laws ask -/
theorem pushV_len {l : List Item} {x : Item} (h : pushE l = 0) : (pushV l x).length = l.length + 1 := by unfold pushV; rw [if_pos h, upL_length]; simp
theorem pushE_zero {l : List Item} (h : pushE l = 0) : Heap l ∧ l.length < 4096 := by
  unfold pushE at h
  split at h
  · rename_i hc
    split at h
    · simp at h
    · have := checkB_heap.mp hc
      exact ⟨this.1, by omega⟩
  · simp at h
theorem pushV_heap {l : List Item} {x : Item} (h : pushE l = 0) : Heap (pushV l x) := by unfold pushV; rw [if_pos h]; exact pushL_heap (pushE_zero h).1
theorem pushV_perm {l : List Item} {x : Item} (h : pushE l = 0) : List.Perm (pushV l x) (x :: l) := by unfold pushV; rw [if_pos h]; exact (upL_perm _ _).trans (List.perm_append_singleton _ _)
theorem popE_zero {l : List Item} (h : popE l = 0) : Heap l ∧ l.length ≤ 4096 ∧ 0 < l.length := by
  unfold popE at h
  split at h
  · rename_i hc
    split at h
    · simp at h
    · rename_i hne
      have := checkB_heap.mp hc
      exact ⟨this.1, this.2, List.length_pos_iff.mpr hne⟩
  · simp at h
theorem popV_heap {l : List Item} (h : popE l = 0) : Heap (popV l) := by unfold popV; rw [if_pos h]; exact withoutL_heap (popE_zero h).1 (popE_zero h).2.2
theorem popV_len {l : List Item} (h : popE l = 0) : (popV l).length = l.length - 1 := by unfold popV; rw [if_pos h]; exact withoutL_length (popE_zero h).2.2
theorem popV_perm {l : List Item} (h : popE l = 0) : List.Perm l (popX l :: popV l) := by
  unfold popV popX
  rw [if_pos h, if_pos h]
  exact (erase_perm (g_at (popE_zero h).2.2)).trans ((withoutL_perm (popE_zero h).2.2).symm.cons _)
theorem pop_first {l : List Item} (h : popE l = 0) : ∀ z ∈ l, ilt z (popX l) = false := by
  intro z hz
  unfold popX
  rw [if_pos h]
  obtain ⟨i, hi, rfl⟩ := List.getElem_of_mem hz
  have := heap_first (popE_zero h).1 i hi
  rw [g_of (List.getElem?_eq_getElem hi)] at this
  exact this
theorem takeE_zero {l : List Item} {q : Int} (h : takeE l q = 0) : Heap l ∧ l.length ≤ 4096 ∧ ∃ a : Nat, takeF l q l.length = (a : Int) ∧ a < l.length ∧ (g l a).s = q := by
  unfold takeE at h
  split at h
  · rename_i hc
    split at h
    · simp at h
    · rename_i hne
      have := checkB_heap.mp hc
      refine ⟨this.1, this.2, ?_⟩
      rcases takeF_spec l q l.length (Nat.le_refl _) with ⟨h, _⟩ | ⟨a, h5, h6, h7, h8⟩
      · exact absurd h hne
      · exact ⟨a, h5, h6, h7⟩
  · simp at h
end Go.Det.Q

/- More tables: what is told by fewer is told by more. -/
namespace Go.Det
section
variable {P : Program}
/-- One set of tables tells no less than another. -/
def ExtLe (X X' : Ext) : Prop := ∀ f, (X f = none → X' f = none) ∧ ∀ g, X f = some g → (∀ a H, g a H = none) ∨ ∃ g', X' f = some g' ∧ ∀ a H r, g a H = some r → g' a H = some r
theorem callD_ext {X X' : Ext} (hx : ExtLe X X') : ∀ (k : Nat), CFle (callD P X k) (callD P X' k) := by
  intro k
  induction k with
  | zero => intro f a H r e; simp [callD] at e
  | succ k ih =>
    intro f a H r e
    simp only [callD] at e ⊢
    cases hg : X f with
    | some g =>
      rw [hg] at e
      rcases (hx f).2 g hg with hn | ⟨g', hg', hle⟩
      · simp only [hn] at e; cases e
      · rw [hg']
        exact hle _ _ _ e
    | none =>
      rw [hg] at e
      rw [(hx f).1 hg]
      simp only at e ⊢
      split
      · rename_i fn hf
        rw [hf] at e
        simp only at e
        split
        · rename_i c hc
          rw [hc] at e
          simp only at e
          split at e
          · rename_i st he
            rw [execD_mono ih _ _ (Nat.le_refl _) _ _ _ he]
            exact e
          · rename_i st he
            rw [execD_mono ih _ _ (Nat.le_refl _) _ _ _ he]
            exact e
          · cases e
        · rename_i hc; rw [hc] at e; cases e
      · rename_i hf; rw [hf] at e; cases e
theorem CallWp.up {X X' : Ext} (hx : ExtLe X X') {f : FuncId} {a : List DV} {H : DH} {K : DV → DH → Prop} (h : CallWp P X f a H K) : CallWp P X' f a H K := by
  obtain ⟨k, r, H', hk, hr⟩ := h.ex
  exact ⟨k, r, H', callD_ext hx k _ _ _ _ hk, hr⟩
/-- Tables more, and texts more, for functions that had neither. -/
theorem extLe_more {L M : List FuncId} {E T : List (FuncId × (List DV → DH → Option (DV × DH)))} (h : ((M ++ T.map (·.1)).all fun f => !L.contains f && !(E.map (·.1)).contains f) = true) : ExtLe (Xof L E) (Xof (M ++ L) (T ++ E)) := by
  have look0 : ∀ (E : List (FuncId × (List DV → DH → Option (DV × DH)))) (f : FuncId), f ∉ E.map (·.1) → E.lookup f = none := by
    intro E f
    induction E with
    | nil => intro _; rfl
    | cons x E ih =>
      obtain ⟨a, b⟩ := x
      intro hf
      simp only [List.map_cons, List.mem_cons, not_or] at hf
      have : (f == a) = false := by simpa using hf.1
      simp only [List.lookup, this]
      exact ih hf.2
  have lookA : ∀ (T : List (FuncId × (List DV → DH → Option (DV × DH)))) (f : FuncId), f ∉ T.map (·.1) → (T ++ E).lookup f = E.lookup f := by
    intro T f
    induction T with
    | nil => intro _; rfl
    | cons x T ih =>
      obtain ⟨a, b⟩ := x
      intro hf
      simp only [List.map_cons, List.mem_cons, not_or] at hf
      have : (f == a) = false := by simpa using hf.1
      simp only [List.cons_append, List.lookup, this]
      exact ih hf.2
  intro f
  by_cases hf : f ∈ M ++ T.map (·.1)
  · have hb := List.all_eq_true.mp h f hf
    simp only [Bool.and_eq_true, Bool.not_eq_true', List.contains_eq_mem, decide_eq_false_iff_not] at hb
    have e0 : Xof L E f = some fun _ _ => none := by
      unfold Xof
      rw [look0 E f hb.2]
      simp [hb.1]
    rw [e0]
    exact ⟨fun h => by (cases h), fun g h => by (cases h; exact .inl fun _ _ => rfl)⟩
  · have hf' : f ∉ M ∧ f ∉ T.map (·.1) := ⟨fun h => hf (List.mem_append_left _ h), fun h => hf (List.mem_append_right _ h)⟩
    have e2 : Xof (M ++ L) (T ++ E) f = Xof L E f := by
      unfold Xof
      rw [lookA T f hf'.2]
      have : (M ++ L).contains f = L.contains f := by simp [hf'.1]
      rw [this]
    rw [e2]
    exact ⟨id, fun g h => .inr ⟨g, h, fun _ _ _ k => k⟩⟩
end
end Go.Det

/- slices.SortFunc at items as a table; heap.Sorted. -/
namespace Go.Det.Q
open Go Go.Det Go.Proofs
set_option maxRecDepth 4000
set_option maxHeartbeats 4000000
set_option linter.unusedVariables false
set_option linter.unusedSimpArgs false
def gSort : G := fun args H => match args with
  | [.sl p n c ex, .func (.func 60) [] []] => if n = 0 then some (.tuple [], H) else match p with
    | some (loc, i, z) => match H.obj loc with
      | some (.rows false sz rs) => if sz = 6 ∧ z = 6 ∧ n ≤ 1000000 ∧ i + n ≤ rs.length then (match itemsL ((rs.drop i).take n) with
          | some l => some (.tuple [], H.set loc (some (.rows false 6 (rs.take i ++ (sortL l).map Item.cells ++ rs.drop (i + n)))))
          | none => none) else none
      | _ => none
    | none => none
  | _ => none
theorem sort_none (p : Option (Nat × Nat × Nat)) (c : Nat) (ex : Bool) (H : DH) : callD Try.prog XF 100 59 [.sl p 0 c ex, .func (.func 60) [] []] H = some (.tuple [], H) := by kernel_rfl
theorem ok59 : ExtSound Try.prog gSort 59 := by
  intro args H r H' h ρ w vs ha hv
  unfold gSort at h
  split at h
  · rename_i p n c ex
    have hv' := hv
    simp only [VRs] at hv
    obtain ⟨v, r1, e1, h1, u, r2, e2, h2, e3⟩ := hv
    subst e2 e3
    have hvs : vs = #[v, u] := by rw [← Array.toArray_toList (xs := vs), e1]
    simp only [VR, VRs] at h2
    obtain ⟨a, b, rfl, ha', hb'⟩ := h2
    obtain rfl : a = #[] := by cases a; simp at ha'; rw [ha']
    obtain rfl : b = #[] := by cases b; simp at hb'; rw [hb']
    subst hvs
    split at h
    · rename_i h0
      subst h0
      cases h
      refine callOk_of_calls Try.func59 (by kernel_rfl) rfl ((calls_sound okXF Try.func59 rfl rfl (sort_none p c ex H) ha hv').mono fun e w' he => ?_)
      cases e <;> exact he
    · rename_i h0
      split at h
      · rename_i loc i z
        split at h
        · rename_i sz rs ho
          split at h
          · rename_i hc
            obtain ⟨rfl, rfl, hm, hlen⟩ := hc
            split at h
            · rename_i l hl
              cases h
              have hl' := map_itemsL hl
              have hn : l.length = n := by
                have := congrArg List.length hl'
                simp only [List.length_take, List.length_drop, List.length_map] at this
                omega
              refine callOk_of_calls Try.func59 (by kernel_rfl) rfl ((sort_some (H := H) ho (by rw [hn]; exact hl') hn (by omega) hm ha h1).mono fun e w' he => ?_)
              obtain ⟨rfl, hmv⟩ := he
              exact ⟨ρ, by simp [VR, VRs], hmv⟩
            · cases h
          · cases h
        · cases h
      · cases h
  · cases h
end Go.Det.Q

/- May a number be? -/
namespace Go.Det.Q
open Go Go.Det Go.Proofs
set_option maxRecDepth 4000
set_option maxHeartbeats 4000000
set_option linter.unusedVariables false
set_option linter.unusedSimpArgs false
def K1 : Ext := Xof ([63, 65, 49, 52, 44, 45, 46, 47, 35, 48, 39] ++ L) ([(59, gSort)] ++ E4)
theorem okM {M : List FuncId} (h : M.all (fun f => LF.contains f) = true) : (M ++ L).all (fun f => okB Try.prog f || [16].contains f) = true := by
  refine List.all_eq_true.mpr fun f hf => List.all_eq_true.mp okLF f ?_
  rcases List.mem_append.mp hf with h1 | h1
  · have := List.all_eq_true.mp h f h1
    simpa using this
  · exact List.mem_append_right _ h1
theorem okK1 : ProgOk Try.prog K1 := progOk_of2 mixed (okM (by decide +kernel)) push_code (by
  intro f g h
  rw [List.mem_append] at h
  rcases h with h | h
  · rw [List.mem_singleton] at h; cases h; exact ok59
  · exact okE4 f g h)
def mayB (x : Int) : Bool := !(decide (x > 1152921504606846976) || decide (x < -1152921504606846976))
theorem may76 (x : Int) (H : DH) : CallWp Try.prog K1 76 [.int .i64 x] H (fun r H' => r = .bool (!mayB x) ∧ H' = H) := by
  refine enter rfl Try.func76 rfl Try.ntmps76 rfl ?_
  dsimp only [List.cons_append, List.nil_append, List.length_cons, List.length_nil, List.replicate_succ, List.replicate_zero, Nat.reduceAdd, Nat.reduceSub]
  repeat' (first
    | dsimp only [putD, DV.cells, DH.new_next, DH.set_next, List.length_cons, List.length_nil, Nat.reduceAdd, List.set_cons_zero, List.set_cons_succ, getD_zero, getD_succ, fieldAt_zero, fieldAt_succ, thenD, blockD, retR]
    | apply dwp_seq
    | apply dwp_region
    | apply ops_nil
    | (apply ops_plain; (· exact rfl))
    | (apply ops_on; (· exact rfl); (· exact rfl); (· (first | with_reducible assumption | with_reducible rfl | decide)))
    | (apply ops_off0; (· exact rfl); (· exact rfl); (· (first | with_reducible assumption | with_reducible rfl | decide)))
    | (apply ops_split0; (· exact rfl); (· exact rfl); all_goals intro hb)
    | (apply op_pick_t; (· exact rfl); (· exact rfl); (· (first | with_reducible assumption | with_reducible rfl | decide)); (· exact rfl))
    | (apply op_pick_f; (· exact rfl); (· exact rfl); (· (first | with_reducible assumption | with_reducible rfl | decide)); (· exact rfl))
    | (apply op_at; (· exact rfl))
    | apply dwp_ret
    | (refine ⟨_, rfl, ?_⟩)
    | fail)
  all_goals (refine ⟨?_, rfl⟩; unfold mayB; simp only [hb, Bool.not_not, Bool.true_or, Bool.false_or])
theorem idx90 (x : Int) (H : DH) (loc c : Nat) (ex : Bool) (ro : Bool) (ho : H.obj loc = some (.rows ro 1 [[.int .i64 x]])) :
    CallWp Try.prog K1 90 [.sl (some (loc, 0, 1)) 1 c ex, .func (.func 76) [] []] H (fun r H' => r = .int .i64 (if mayB x then -1 else 0) ∧ H' = H) := by
  refine enter rfl Try.func90 rfl Try.ntmps90 rfl ?_
  dsimp only [List.cons_append, List.nil_append, List.length_cons, List.length_nil, List.replicate_succ, List.replicate_zero, Nat.reduceAdd, Nat.reduceSub]
  repeat' (first
    | dsimp only [putD, DV.cells, DH.new_next, DH.set_next, List.length_cons, List.length_nil, Nat.reduceAdd, List.set_cons_zero, List.set_cons_succ, getD_zero, getD_succ, fieldAt_zero, fieldAt_succ, thenD, blockD, retR]
    | apply dwp_round
    | apply dwp_seq
    | apply dwp_region
    | apply ops_nil
    | (apply ops_plain; (· exact rfl))
    | (apply op_call; (· exact rfl); (· exact rfl); (· exact rfl); refine (may76 x _).mono ?_; rintro r H1 ⟨rfl, rfl⟩; cases hm : mayB x)
    | (apply op_load_at; (· exact rfl); (· exact rfl); (· with_reducible exact ho); (· exact rfl); (· exact rfl))
    | (apply op_at; (· exact rfl))
    | (apply dwp_cond_t; (· exact rfl); (· (first | with_reducible assumption | with_reducible rfl | decide)))
    | (apply dwp_cond_f; (· exact rfl); (· (first | with_reducible assumption | with_reducible rfl | decide)))
    | apply dwp_block
    | apply dwp_skip
    | apply dwp_ret
    | apply dwp_exit
    | (refine ⟨_, rfl, ?_⟩)
    | fail)
  all_goals exact ⟨rfl, rfl⟩
theorem con75 (x : Int) (H : DH) (loc c : Nat) (ex : Bool) (ro : Bool) (ho : H.obj loc = some (.rows ro 1 [[.int .i64 x]])) :
    CallWp Try.prog K1 75 [.sl (some (loc, 0, 1)) 1 c ex, .func (.func 76) [] []] H (fun r H' => r = .bool (!mayB x) ∧ H' = H) := by
  refine enter rfl Try.func75 rfl Try.ntmps75 rfl ?_
  dsimp only [List.cons_append, List.nil_append, List.length_cons, List.length_nil, List.replicate_succ, List.replicate_zero, Nat.reduceAdd, Nat.reduceSub]
  repeat' (first
    | dsimp only [putD, DV.cells, DH.new_next, DH.set_next, List.length_cons, List.length_nil, Nat.reduceAdd, List.set_cons_zero, List.set_cons_succ, getD_zero, getD_succ, fieldAt_zero, fieldAt_succ, thenD, blockD, retR]
    | apply dwp_seq
    | apply dwp_region
    | apply ops_nil
    | (apply ops_plain; (· exact rfl))
    | (apply op_call; (· exact rfl); (· exact rfl); (· exact rfl); refine (idx90 x _ _ _ _ _ ho).mono ?_; rintro r H1 ⟨rfl, rfl⟩; cases hm : mayB x)
    | (apply op_at; (· exact rfl))
    | apply dwp_ret
    | (refine ⟨_, rfl, ?_⟩)
    | fail)
  all_goals exact ⟨rfl, rfl⟩
theorem may63 (x : Int) (H : DH) (loc c : Nat) (ex : Bool) (ro : Bool) (ho : H.obj loc = some (.rows ro 1 [[.int .i64 x]])) :
    CallWp Try.prog K1 63 [.sl (some (loc, 0, 1)) 1 c ex] H (fun r H' => r = .bool (mayB x) ∧ H' = H) := by
  refine enter rfl Try.func63 rfl Try.ntmps63 rfl ?_
  dsimp only [List.cons_append, List.nil_append, List.length_cons, List.length_nil, List.replicate_succ, List.replicate_zero, Nat.reduceAdd, Nat.reduceSub]
  repeat' (first
    | dsimp only [putD, DV.cells, DH.new_next, DH.set_next, List.length_cons, List.length_nil, Nat.reduceAdd, List.set_cons_zero, List.set_cons_succ, getD_zero, getD_succ, fieldAt_zero, fieldAt_succ, thenD, blockD, retR]
    | apply dwp_seq
    | apply dwp_region
    | apply ops_nil
    | (apply ops_plain; (· exact rfl))
    | (apply op_call; (· exact rfl); (· exact rfl); (· exact rfl); refine (con75 x _ _ _ _ _ ho).mono ?_; rintro r H1 ⟨rfl, rfl⟩; cases hm : mayB x)
    | (apply op_at; (· exact rfl))
    | apply dwp_ret
    | (refine ⟨_, rfl, ?_⟩)
    | fail)
  all_goals exact ⟨rfl, rfl⟩
theorem may65 (x : Int) (H : DH) (loc c : Nat) (ex : Bool) (ro : Bool) (ho : H.obj loc = some (.rows ro 1 [[.int .i64 x]])) :
    CallWp Try.prog K1 65 [.sl (some (loc, 0, 1)) 1 c ex] H (fun r H' => r = .bool (mayB x) ∧ H' = H) := by
  refine enter rfl Try.func65 rfl Try.ntmps65 rfl ?_
  dsimp only [List.cons_append, List.nil_append, List.length_cons, List.length_nil, List.replicate_succ, List.replicate_zero, Nat.reduceAdd, Nat.reduceSub]
  repeat' (first
    | dsimp only [putD, DV.cells, DH.new_next, DH.set_next, List.length_cons, List.length_nil, Nat.reduceAdd, List.set_cons_zero, List.set_cons_succ, getD_zero, getD_succ, fieldAt_zero, fieldAt_succ, thenD, blockD, retR]
    | apply dwp_round
    | apply dwp_seq
    | apply dwp_region
    | apply ops_nil
    | (apply ops_plain; (· exact rfl))
    | (apply ops_on; (· exact rfl); (· exact rfl); (· (first | with_reducible assumption | with_reducible rfl | decide)))
    | (apply ops_off0; (· exact rfl); (· exact rfl); (· (first | with_reducible assumption | with_reducible rfl | decide)))
    | (apply ops_split0; (· exact rfl); (· exact rfl); all_goals intro hb)
    | (apply op_pick_t; (· exact rfl); (· exact rfl); (· (first | with_reducible assumption | with_reducible rfl | decide)); (· exact rfl))
    | (apply op_pick_f; (· exact rfl); (· exact rfl); (· (first | with_reducible assumption | with_reducible rfl | decide)); (· exact rfl))
    | (apply op_load_at; (· exact rfl); (· exact rfl); (· with_reducible exact ho); (· exact rfl); (· exact rfl))
    | (apply op_at; (· exact rfl))
    | (apply dwp_cond_t; (· exact rfl); (· (first | with_reducible assumption | with_reducible rfl | decide)))
    | (apply dwp_cond_f; (· exact rfl); (· (first | with_reducible assumption | with_reducible rfl | decide)))
    | (refine dwp_cond rfl ?_ ?_ <;> intro hb)
    | apply dwp_block
    | apply dwp_skip
    | apply dwp_ret
    | apply dwp_exit
    | (refine ⟨_, rfl, ?_⟩)
    | fail)
  all_goals (refine ⟨?_, rfl⟩; unfold mayB; simp only [*, Bool.not_true, Bool.not_false, Bool.true_or, Bool.false_or, Bool.or_true, Bool.or_false])
theorem may65b (x y : Int) (H : DH) (loc c : Nat) (ex : Bool) (ro : Bool) (ho : H.obj loc = some (.rows ro 1 [[.int .i64 x], [.int .i64 y]])) :
    CallWp Try.prog K1 65 [.sl (some (loc, 0, 1)) 2 c ex] H (fun r H' => r = .bool (mayB x && mayB y) ∧ H' = H) := by
  refine enter rfl Try.func65 rfl Try.ntmps65 rfl ?_
  dsimp only [List.cons_append, List.nil_append, List.length_cons, List.length_nil, List.replicate_succ, List.replicate_zero, Nat.reduceAdd, Nat.reduceSub]
  repeat' (first
    | dsimp only [putD, DV.cells, DH.new_next, DH.set_next, List.length_cons, List.length_nil, Nat.reduceAdd, List.set_cons_zero, List.set_cons_succ, getD_zero, getD_succ, fieldAt_zero, fieldAt_succ, thenD, blockD, retR]
    | apply dwp_round
    | apply dwp_seq
    | apply dwp_region
    | apply ops_nil
    | (apply ops_plain; (· exact rfl))
    | (apply ops_on; (· exact rfl); (· exact rfl); (· (first | with_reducible assumption | with_reducible rfl | decide)))
    | (apply ops_off0; (· exact rfl); (· exact rfl); (· (first | with_reducible assumption | with_reducible rfl | decide)))
    | (apply ops_split0; (· exact rfl); (· exact rfl); all_goals intro hb)
    | (apply op_pick_t; (· exact rfl); (· exact rfl); (· (first | with_reducible assumption | with_reducible rfl | decide)); (· exact rfl))
    | (apply op_pick_f; (· exact rfl); (· exact rfl); (· (first | with_reducible assumption | with_reducible rfl | decide)); (· exact rfl))
    | (apply op_load_at; (· exact rfl); (· exact rfl); (· with_reducible exact ho); (· exact rfl); (· exact rfl))
    | (apply op_at; (· exact rfl))
    | (apply dwp_cond_t; (· exact rfl); (· (first | with_reducible assumption | with_reducible rfl | decide)))
    | (apply dwp_cond_f; (· exact rfl); (· (first | with_reducible assumption | with_reducible rfl | decide)))
    | (refine dwp_cond rfl ?_ ?_ <;> intro hb)
    | apply dwp_block
    | apply dwp_skip
    | apply dwp_ret
    | apply dwp_exit
    | (refine ⟨_, rfl, ?_⟩)
    | fail)
  all_goals (refine ⟨?_, rfl⟩; unfold mayB; simp only [*, Bool.not_true, Bool.not_false, Bool.true_or, Bool.false_or, Bool.or_true, Bool.or_false, Bool.and_true, Bool.true_and, Bool.and_false, Bool.false_and])
def gMay1 : G := fun args H => match args with
  | [.sl (some (loc, 0, 1)) 1 c ex] => match H.obj loc with
    | some (.rows ro 1 [[.int .i64 x]]) => some (.bool (mayB x), H)
    | _ => none
  | _ => none
def gMay2 : G := fun args H => match args with
  | [.sl (some (loc, 0, 1)) 1 c ex] => match H.obj loc with
    | some (.rows ro 1 [[.int .i64 x]]) => some (.bool (mayB x), H)
    | _ => none
  | [.sl (some (loc, 0, 1)) 2 c ex] => match H.obj loc with
    | some (.rows ro 1 [[.int .i64 x], [.int .i64 y]]) => some (.bool (mayB x && mayB y), H)
    | _ => none
  | _ => none
theorem ok63 : ExtSound Try.prog gMay1 63 := ext_read okK1 Try.func63 rfl rfl (by
  intro args H r H' hw h
  unfold gMay1 at h
  split at h
  · split at h
    · rename_i ho
      cases h
      exact ⟨rfl, rfl, (may63 _ _ _ _ _ _ ho).mono fun r H1 h => ⟨h.1, by rw [h.2]; exact Above.refl _⟩⟩
    · cases h
  · cases h)
theorem ok65 : ExtSound Try.prog gMay2 65 := ext_read okK1 Try.func65 rfl rfl (by
  intro args H r H' hw h
  unfold gMay2 at h
  split at h
  · split at h
    · rename_i ho
      cases h
      exact ⟨rfl, rfl, (may65 _ _ _ _ _ _ ho).mono fun r H1 h => ⟨h.1, by rw [h.2]; exact Above.refl _⟩⟩
    · cases h
  · split at h
    · rename_i ho
      cases h
      exact ⟨rfl, rfl, (may65b _ _ _ _ _ _ _ ho).mono fun r H1 h => ⟨h.1, by rw [h.2]; exact Above.refl _⟩⟩
    · cases h
  · cases h)
/-- May told by a table. -/
def T2 : List (FuncId × G) := [(63, gMay1), (65, gMay2), (59, gSort)]
theorem okT2 : ∀ f g, (f, g) ∈ T2 ++ E4 → ExtSound Try.prog g f := by
  intro f g h
  rw [List.mem_append] at h
  rcases h with h | h
  · simp only [T2, List.mem_cons, List.not_mem_nil, or_false] at h
    rcases h with h | h | h <;> cases h
    · exact ok63
    · exact ok65
    · exact ok59
  · exact okE4 f g h
def K2 : Ext := Xof ([49, 52, 44, 45, 46, 47, 35, 48, 39] ++ L) (T2 ++ E4)
theorem okK2 : ProgOk Try.prog K2 := progOk_of2 mixed (okM (by decide +kernel)) push_code okT2
end Go.Det.Q

/- Is a kernel well made? Both texts. -/
namespace Go.Det.Q
open Go Go.Det Go.Proofs
set_option maxRecDepth 4000
set_option maxHeartbeats 4000000
set_option linter.unusedVariables false
set_option linter.unusedSimpArgs false
def itemOk (nx now : Int) (x : Item) : Bool := !(!mayB x.a || decide (x.a < now) || decide (x.c < 0) || decide (x.c > 15) || decide (x.s ≥ nx))
def badI (l : List Item) (nx now : Int) (k : Nat) : Bool := match l[k]? with
  | some x => !itemOk nx now x || (l.take k).any fun y => y.s == x.s
  | none => false
def preOk (l : List Item) (now hor : Int) : Bool := !(!checkB l || !(mayB now && mayB hor) || decide (now < 0) || decide (now > hor))
def kOk (l : List Item) (nx now hor : Int) : Bool := preOk l now hor && !((List.range l.length).any (badI l nx now))
theorem may1_t {H : DH} {loc c : Nat} {ex ro : Bool} {x : Int} (ho : H.obj loc = some (.rows ro 1 [[.int .i64 x]])) : gMay1 [.sl (some (loc, 0, 1)) 1 c ex] H = some (.bool (mayB x), H) := by simp only [gMay1, ho]
theorem may2_t {H : DH} {loc c : Nat} {ex ro : Bool} {x : Int} (ho : H.obj loc = some (.rows ro 1 [[.int .i64 x]])) : gMay2 [.sl (some (loc, 0, 1)) 1 c ex] H = some (.bool (mayB x), H) := by simp only [gMay2, ho]
theorem may2b_t {H : DH} {loc c : Nat} {ex ro : Bool} {x y : Int} (ho : H.obj loc = some (.rows ro 1 [[.int .i64 x], [.int .i64 y]])) : gMay2 [.sl (some (loc, 0, 1)) 2 c ex] H = some (.bool (mayB x && mayB y), H) := by simp only [gMay2, ho]
theorem kOk_pre {l : List Item} {nx now hor : Int} (h : preOk l now hor = false) : kOk l nx now hor = false := by unfold kOk; rw [h]; rfl
theorem kOk_bad {l : List Item} {nx now hor : Int} {k : Nat} (hk : k < l.length) (h : badI l nx now k = true) : kOk l nx now hor = false := by
  unfold kOk
  have : ((List.range l.length).any (badI l nx now)) = true := List.any_eq_true.mpr ⟨k, List.mem_range.mpr hk, h⟩
  rw [this]; simp
theorem kOk_good {l : List Item} {nx now hor : Int} (h : preOk l now hor = true) (hk : ∀ k, k < l.length → badI l nx now k = false) : kOk l nx now hor = true := by
  unfold kOk
  have : ((List.range l.length).any (badI l nx now)) = false := by
    rw [List.any_eq_false]
    intro k hm
    rw [hk k (List.mem_range.mp hm)]; simp
  rw [h, this]; rfl
theorem check52 (H : DH) (p : Option (Nat × Nat × Nat)) (c : Nat) (ex : Bool) (l : List Item) (nx now hor : Int) (hl : It H p c ex l) :
    CallWp Try.prog K2 52 [.agg [.sl p l.length c ex, .int .u64 nx, .int .i64 now, .int .i64 hor]] H (fun r H' => r = .int .i64 (if kOk l nx now hor then 0 else 1) ∧ Above H H') := by
  have hab0 : ∀ {a : DObj}, Above H (H.new a) := fun {a} => (Above.refl H).new _
  have hab1 : ∀ {a b : DObj}, Above H ((H.new a).new b) := fun {a b} => hab0.new _
  refine enter rfl Try.func52 rfl Try.ntmps52 rfl ?_
  dsimp only [List.cons_append, List.nil_append, List.length_cons, List.length_nil, List.replicate_succ, List.replicate_zero, Nat.reduceAdd, Nat.reduceSub]
  repeat' (first
    | dsimp only [putD, DV.cells, DH.new_next, DH.set_next, List.length_cons, List.length_nil, Nat.reduceAdd, List.set_cons_zero, List.set_cons_succ, getD_zero, getD_succ, fieldAt_zero, fieldAt_succ, thenD, blockD, retR]
    | apply dwp_seq
    | apply dwp_region
    | apply ops_nil
    | (apply ops_plain; (· exact rfl))
    | (apply ops_on; (· exact rfl); (· exact rfl); (· (first | with_reducible assumption | with_reducible rfl | decide)))
    | (apply ops_off0; (· exact rfl); (· exact rfl); (· (first | with_reducible assumption | with_reducible rfl | decide)))
    | (apply ops_split0; (· exact rfl); (· exact rfl); all_goals intro hb)
    | (apply op_call; (· exact rfl); (· exact rfl); (· exact rfl); refine call_table (g := gCheck) rfl (check_t (⟨_, _, _, rfl, hl.mono hab0⟩ : Its _ (.sl p l.length c ex) l)) ?_)
    | (apply op_call; (· exact rfl); (· exact rfl); (· exact rfl); refine call_table (g := gMay2) rfl (may2b_t (obj_here rfl)) ?_)
    | (apply op_pick_t; (· exact rfl); (· exact rfl); (· (first | with_reducible assumption | with_reducible rfl | decide)); (· exact rfl))
    | (apply op_pick_f; (· exact rfl); (· exact rfl); (· (first | with_reducible assumption | with_reducible rfl | decide)); (· exact rfl))
    | (apply op_load_at; (· exact rfl); (· exact rfl); (· repeat (first | with_reducible assumption | (with_reducible apply obj_here; with_reducible rfl) | with_reducible apply obj_set | (with_reducible apply obj_skip_lo; (· ((repeat (first | with_reducible assumption | with_reducible apply Lo.self | with_reducible apply Lo.new | with_reducible apply Lo.set | with_reducible apply Lo.self1 | with_reducible apply Lo.self2)); done))) | (with_reducible apply obj_past; (· ((first | with_reducible assumption | with_reducible apply ne_add1 | with_reducible apply ne_add1' | with_reducible apply ne_add2 | with_reducible apply ne_add2' | with_reducible apply ne_add12 | with_reducible apply ne_add21 | (with_reducible apply Lo.ne; (repeat (first | with_reducible assumption | with_reducible apply Lo.self | with_reducible apply Lo.new | with_reducible apply Lo.set | with_reducible apply Lo.self1 | with_reducible apply Lo.self2)); done) | (with_reducible apply Lo.ne1; (repeat (first | with_reducible assumption | with_reducible apply Lo.self | with_reducible apply Lo.new | with_reducible apply Lo.set | with_reducible apply Lo.self1 | with_reducible apply Lo.self2)); done) | (with_reducible apply Lo.ne'; (repeat (first | with_reducible assumption | with_reducible apply Lo.self | with_reducible apply Lo.new | with_reducible apply Lo.set | with_reducible apply Lo.self1 | with_reducible apply Lo.self2)); done) | (with_reducible apply Lo.ne1'; (repeat (first | with_reducible assumption | with_reducible apply Lo.self | with_reducible apply Lo.new | with_reducible apply Lo.set | with_reducible apply Lo.self1 | with_reducible apply Lo.self2)); done)); done))) | exact obj_here rfl)); (· exact rfl); (· exact rfl))
    | (apply op_at; (· exact rfl))
    | (apply dwp_cond_t; (· exact rfl); (· (first | with_reducible assumption | with_reducible rfl | decide)))
    | (refine dwp_cond rfl ?_ ?_ <;> intro hb)
    | apply dwp_block
    | apply dwp_skip
    | apply dwp_ret
    | (refine ⟨_, rfl, ?_⟩)
    | fail)
  any_goals first | (refine ⟨?_, hab1⟩; rw [kOk_pre (by unfold preOk; simp only [*, Bool.true_or, Bool.or_true, Bool.false_or, Bool.or_false, Bool.not_true, Bool.not_false])]; rfl) | (refine ⟨?_, hab0⟩; rw [kOk_pre (by unfold preOk; simp only [*, Bool.true_or, Bool.or_true, Bool.false_or, Bool.or_false, Bool.not_true, Bool.not_false])]; rfl) | skip
  have hpre : preOk l now hor = true := by unfold preOk; simp only [*, Bool.true_or, Bool.or_true, Bool.false_or, Bool.or_false, Bool.not_true, Bool.not_false]
  refine dwp_loop (fun st => ∃ (Hk : DH) (k : Nat), ∃ J : Nat → DV, (k ≤ l.length ∧ Above H Hk ∧ Hk.obj H.next = some (.rows false 4 [[.sl p l.length c ex, .int .u64 nx, .int .i64 now, .int .i64 hor]]) ∧ Lo Hk H.next ∧ ∀ j, j < k → badI l nx now j = false) ∧ st = ⟨(J 0 :: .ptr (some (H.next, 0, 0)) :: J 2 :: J 3 :: J 4 :: J 5 :: J 6 :: J 7 :: J 8 :: J 9 :: J 10 :: J 11 :: J 12 :: J 13 :: J 14 :: J 15 :: J 16 :: J 17 :: J 18 :: J 19 :: J 20 :: J 21 :: J 22 :: J 23 :: J 24 :: J 25 :: J 26 :: J 27 :: J 28 :: J 29 :: J 30 :: J 31 :: J 32 :: .sl p l.length c ex :: .int .i64 l.length :: .int .i64 (k : Int) :: J 36 :: J 37 :: J 38 :: J 39 :: J 40 :: J 41 :: J 42 :: J 43 :: J 44 :: J 45 :: J 46 :: J 47 :: J 48 :: J 49 :: J 50 :: J 51 :: J 52 :: J 53 :: J 54 :: J 55 :: J 56 :: J 57 :: J 58 :: J 59 :: J 60 :: J 61 :: J 62 :: J 63 :: J 64 :: J 65 :: J 66 :: J 67 :: J 68 :: J 69 :: J 70 :: J 71 :: J 72 :: J 73 :: J 74 :: J 75 :: J 76 :: J 77 :: J 78 :: J 79 :: J 80 :: J 81 :: J 82 :: J 83 :: J 84 :: []), Hk⟩) (fun st => l.length - kOf st 35) (⟨_, 0, junk_facts (⟨Nat.zero_le _, hab1, obj_skip (Nat.ne_of_lt (Nat.lt_succ_self _)) (obj_here rfl), lo (Nat.lt_succ_of_lt (Nat.lt_succ_self _)), fun j h => absurd h (Nat.not_lt_zero _)⟩) rfl rfl⟩) ?_
  rintro st ⟨Hk, k, J, ⟨hk, hab, hbx, hlx, hbad⟩, rfl⟩
  by_cases hlt : k < l.length
  · obtain ⟨x, hx⟩ : ∃ x, l[k]? = some x := ⟨l[k], List.getElem?_eq_getElem hlt⟩
    obtain ⟨loc, i0, ro, rs, rfl, hloc, ho, hrx⟩ := hl.rd hx
    have ho0 := hab.obj hloc ho
    have hr1 : rs[i0 + ((k : Int)).toNat]? = some x.cells := by rw [Int.toNat_natCast]; exact hrx
    have hc : decide ((k : Int) < (l.length : Int)) = true := by simp [hlt]
    have hin1 : 0 ≤ (k : Int) ∧ (k : Int) < (l.length : Int) := by omega
    have hlc := hl.cap
    have hinh : 0 ≤ (k : Int) ∧ (k : Int) ≤ (c : Int) := by omega
    have hw := wrapNat (k := k) (by have := hl.len; unfold maxLen at this; omega)
    have hup0 : ∀ {a o : DObj}, Above H ((Hk.new a).set Hk.next (some o)) := fun {a o} => (hab.new _).set hab.le _
    have hup : ∀ {a o b : DObj}, Above H (((Hk.new a).set Hk.next (some o)).new b) := fun {a o b} => hup0.new _
    have hsl : DV.sl (some (loc, i0, 6)) ((k : Int)).toNat c ex = .sl (some (loc, i0, 6)) k c ex := by rw [Int.toNat_natCast]
    repeat' (first
      | dsimp only [putD, DV.cells, DH.new_next, DH.set_next, List.length_cons, List.length_nil, Nat.reduceAdd, List.set_cons_zero, List.set_cons_succ, getD_zero, getD_succ, fieldAt_zero, fieldAt_succ, thenD, blockD, retR]
      | apply dwp_seq
      | apply dwp_region
      | apply ops_nil
      | (apply ops_plain; (· exact rfl))
      | (apply ops_on; (· exact rfl); (· exact rfl); (· (first | with_reducible assumption | with_reducible rfl | decide)))
      | (apply ops_off0; (· exact rfl); (· exact rfl); (· (first | with_reducible assumption | with_reducible rfl | decide)))
      | (apply ops_split0; (· exact rfl); (· exact rfl); all_goals intro hb)
      | (apply op_call; (· exact rfl); (· exact rfl); (· exact rfl); refine call_table (g := gMay2) rfl (may2_t (obj_here rfl)) ?_)
      | (apply op_pick_t; (· exact rfl); (· exact rfl); (· (first | with_reducible assumption | with_reducible rfl | decide)); (· exact rfl))
      | (apply op_pick_f; (· exact rfl); (· exact rfl); (· (first | with_reducible assumption | with_reducible rfl | decide)); (· exact rfl))
      | (apply op_told; (· exact opD_slice_hi rfl rfl rfl rfl rfl hinh); (· exact hsl))
      | (apply op_index_at; (· exact rfl); (· exact rfl); (· exact rfl); (· with_reducible exact hin1); (· exact rfl); (· exact rfl))
      | (apply op_load_at; (· exact rfl); (· exact rfl); (· with_reducible exact ho0); (· with_reducible exact hr1); (· exact (item_part x)))
      | (apply op_load_at; (· exact rfl); (· exact rfl); (· repeat (first | with_reducible assumption | (with_reducible apply obj_here; with_reducible rfl) | with_reducible apply obj_set | (with_reducible apply obj_skip_lo; (· ((repeat (first | with_reducible assumption | with_reducible apply Lo.self | with_reducible apply Lo.new | with_reducible apply Lo.set | with_reducible apply Lo.self1 | with_reducible apply Lo.self2)); done))) | (with_reducible apply obj_past; (· ((first | with_reducible assumption | with_reducible apply ne_add1 | with_reducible apply ne_add1' | with_reducible apply ne_add2 | with_reducible apply ne_add2' | with_reducible apply ne_add12 | with_reducible apply ne_add21 | (with_reducible apply Lo.ne; (repeat (first | with_reducible assumption | with_reducible apply Lo.self | with_reducible apply Lo.new | with_reducible apply Lo.set | with_reducible apply Lo.self1 | with_reducible apply Lo.self2)); done) | (with_reducible apply Lo.ne1; (repeat (first | with_reducible assumption | with_reducible apply Lo.self | with_reducible apply Lo.new | with_reducible apply Lo.set | with_reducible apply Lo.self1 | with_reducible apply Lo.self2)); done) | (with_reducible apply Lo.ne'; (repeat (first | with_reducible assumption | with_reducible apply Lo.self | with_reducible apply Lo.new | with_reducible apply Lo.set | with_reducible apply Lo.self1 | with_reducible apply Lo.self2)); done) | (with_reducible apply Lo.ne1'; (repeat (first | with_reducible assumption | with_reducible apply Lo.self | with_reducible apply Lo.new | with_reducible apply Lo.set | with_reducible apply Lo.self1 | with_reducible apply Lo.self2)); done)); done))) | exact obj_here rfl)); (· exact rfl); (· exact rfl))
      | (apply op_store_at; (· exact rfl); (· exact rfl); (· exact rfl); (· repeat (first | with_reducible assumption | (with_reducible apply obj_here; with_reducible rfl) | with_reducible apply obj_set | (with_reducible apply obj_skip_lo; (· ((repeat (first | with_reducible assumption | with_reducible apply Lo.self | with_reducible apply Lo.new | with_reducible apply Lo.set | with_reducible apply Lo.self1 | with_reducible apply Lo.self2)); done))) | (with_reducible apply obj_past; (· ((first | with_reducible assumption | with_reducible apply ne_add1 | with_reducible apply ne_add1' | with_reducible apply ne_add2 | with_reducible apply ne_add2' | with_reducible apply ne_add12 | with_reducible apply ne_add21 | (with_reducible apply Lo.ne; (repeat (first | with_reducible assumption | with_reducible apply Lo.self | with_reducible apply Lo.new | with_reducible apply Lo.set | with_reducible apply Lo.self1 | with_reducible apply Lo.self2)); done) | (with_reducible apply Lo.ne1; (repeat (first | with_reducible assumption | with_reducible apply Lo.self | with_reducible apply Lo.new | with_reducible apply Lo.set | with_reducible apply Lo.self1 | with_reducible apply Lo.self2)); done) | (with_reducible apply Lo.ne'; (repeat (first | with_reducible assumption | with_reducible apply Lo.self | with_reducible apply Lo.new | with_reducible apply Lo.set | with_reducible apply Lo.self1 | with_reducible apply Lo.self2)); done) | (with_reducible apply Lo.ne1'; (repeat (first | with_reducible assumption | with_reducible apply Lo.self | with_reducible apply Lo.new | with_reducible apply Lo.set | with_reducible apply Lo.self1 | with_reducible apply Lo.self2)); done)); done))) | exact obj_here rfl)); (· exact rfl); (· exact rfl); (· exact rfl))
      | (apply op_at; (· exact rfl))
      | (apply dwp_cond_t; (· exact rfl); (· (first | with_reducible assumption | with_reducible rfl | decide)))
      | (refine dwp_cond rfl ?_ ?_ <;> intro hb)
      | apply dwp_block
      | apply dwp_skip
      | apply dwp_ret
      | (refine ⟨_, rfl, ?_⟩)
      | fail)
    any_goals first | (refine ⟨?_, hup⟩; (rw [kOk_bad hlt (by unfold badI; rw [hx]; simp only []; unfold itemOk; simp only [*, Bool.true_or, Bool.or_true, Bool.false_or, Bool.or_false, Bool.not_true, Bool.not_false])]; rfl)) | skip
    have hiok : itemOk nx now x = true := by unfold itemOk; simp only [*, Bool.true_or, Bool.or_true, Bool.false_or, Bool.or_false, Bool.not_true, Bool.not_false]
    refine dwp_loop (fun st => ∃ (Hj : DH) (j : Nat), ∃ J : Nat → DV, (j ≤ k ∧ Above H Hj ∧ Hj.obj H.next = some (.rows false 4 [[.sl (some (loc, i0, 6)) l.length c ex, .int .u64 nx, .int .i64 now, .int .i64 hor]]) ∧ Lo Hj H.next ∧ Hj.obj Hk.next = some (.rows false 6 [x.cells]) ∧ Lo Hj Hk.next ∧ ∀ i y, i < j → l[i]? = some y → (x.s == y.s) = false) ∧ st = ⟨(J 0 :: .ptr (some (H.next, 0, 0)) :: J 2 :: J 3 :: .ptr (some (Hk.next, 0, 0)) :: J 5 :: J 6 :: J 7 :: J 8 :: J 9 :: J 10 :: J 11 :: J 12 :: J 13 :: J 14 :: J 15 :: J 16 :: J 17 :: J 18 :: J 19 :: J 20 :: J 21 :: J 22 :: J 23 :: J 24 :: J 25 :: J 26 :: J 27 :: J 28 :: J 29 :: J 30 :: J 31 :: J 32 :: .sl (some (loc, i0, 6)) l.length c ex :: .int .i64 l.length :: .int .i64 (k : Int) :: J 36 :: J 37 :: J 38 :: J 39 :: J 40 :: J 41 :: J 42 :: J 43 :: J 44 :: J 45 :: J 46 :: J 47 :: J 48 :: J 49 :: J 50 :: J 51 :: J 52 :: J 53 :: J 54 :: J 55 :: J 56 :: J 57 :: J 58 :: J 59 :: J 60 :: J 61 :: J 62 :: J 63 :: J 64 :: J 65 :: J 66 :: J 67 :: J 68 :: J 69 :: J 70 :: J 71 :: .sl (some (loc, i0, 6)) k c ex :: .int .i64 (k : Int) :: .int .i64 (j : Int) :: J 75 :: J 76 :: J 77 :: J 78 :: J 79 :: J 80 :: J 81 :: J 82 :: J 83 :: J 84 :: []), Hj⟩) (fun st => k - kOf st 74) (⟨_, 0, junk_facts (⟨Nat.zero_le _, hup, obj_skip (Nat.ne_of_lt (Nat.lt_succ_of_lt hlx.h)) (obj_past hlx.ne (obj_skip hlx.ne hbx)), hlx.new.set.new, obj_skip (Nat.ne_of_lt (Nat.lt_succ_self _)) obj_set, lo (Nat.lt_succ_of_lt (Nat.lt_succ_self _)), fun i y h => absurd h (Nat.not_lt_zero _)⟩) rfl rfl⟩) ?_
    rintro st ⟨Hj, j, J, ⟨hj, habj, hbj, hlj, hxj, hlxj, hne⟩, rfl⟩
    by_cases hjk : j < k
    · obtain ⟨y, hy⟩ : ∃ y, l[j]? = some y := ⟨l[j]'(by omega), List.getElem?_eq_getElem _⟩
      obtain ⟨loc2, i2, ro2, rs2, hpe, hloc2, ho2, hry⟩ := hl.rd hy
      cases hpe
      have ho2' := habj.obj hloc2 ho2
      have hr2 : rs2[i0 + ((j : Int)).toNat]? = some y.cells := by rw [Int.toNat_natCast]; exact hry
      have hcj : decide ((j : Int) < (k : Int)) = true := by simp [hjk]
      have hin2 : 0 ≤ (j : Int) ∧ (j : Int) < (k : Int) := by omega
      have hwj := wrapNat (k := j) (by have := hl.len; unfold maxLen at this; omega)
      repeat' (first
        | dsimp only [putD, DV.cells, DH.new_next, DH.set_next, List.length_cons, List.length_nil, Nat.reduceAdd, List.set_cons_zero, List.set_cons_succ, getD_zero, getD_succ, fieldAt_zero, fieldAt_succ, thenD, blockD, retR]
        | apply dwp_seq
        | apply dwp_region
        | apply ops_nil
        | (apply ops_plain; (· exact rfl))
        | (apply op_index_at; (· exact rfl); (· exact rfl); (· exact rfl); (· with_reducible exact hin2); (· exact rfl); (· exact rfl))
        | (apply op_load_at; (· exact rfl); (· exact rfl); (· with_reducible exact ho2'); (· with_reducible exact hr2); (· exact (item_part y)))
        | (apply op_load_at; (· exact rfl); (· exact rfl); (· repeat (first | with_reducible assumption | (with_reducible apply obj_here; with_reducible rfl) | with_reducible apply obj_set | (with_reducible apply obj_skip_lo; (· ((repeat (first | with_reducible assumption | with_reducible apply Lo.self | with_reducible apply Lo.new | with_reducible apply Lo.set | with_reducible apply Lo.self1 | with_reducible apply Lo.self2)); done))) | (with_reducible apply obj_past; (· ((first | with_reducible assumption | with_reducible apply ne_add1 | with_reducible apply ne_add1' | with_reducible apply ne_add2 | with_reducible apply ne_add2' | with_reducible apply ne_add12 | with_reducible apply ne_add21 | (with_reducible apply Lo.ne; (repeat (first | with_reducible assumption | with_reducible apply Lo.self | with_reducible apply Lo.new | with_reducible apply Lo.set | with_reducible apply Lo.self1 | with_reducible apply Lo.self2)); done) | (with_reducible apply Lo.ne1; (repeat (first | with_reducible assumption | with_reducible apply Lo.self | with_reducible apply Lo.new | with_reducible apply Lo.set | with_reducible apply Lo.self1 | with_reducible apply Lo.self2)); done) | (with_reducible apply Lo.ne'; (repeat (first | with_reducible assumption | with_reducible apply Lo.self | with_reducible apply Lo.new | with_reducible apply Lo.set | with_reducible apply Lo.self1 | with_reducible apply Lo.self2)); done) | (with_reducible apply Lo.ne1'; (repeat (first | with_reducible assumption | with_reducible apply Lo.self | with_reducible apply Lo.new | with_reducible apply Lo.set | with_reducible apply Lo.self1 | with_reducible apply Lo.self2)); done)); done))) | exact obj_here rfl)); (· exact rfl); (· exact rfl))
        | (apply op_store_at; (· exact rfl); (· exact rfl); (· exact rfl); (· repeat (first | with_reducible assumption | (with_reducible apply obj_here; with_reducible rfl) | with_reducible apply obj_set | (with_reducible apply obj_skip_lo; (· ((repeat (first | with_reducible assumption | with_reducible apply Lo.self | with_reducible apply Lo.new | with_reducible apply Lo.set | with_reducible apply Lo.self1 | with_reducible apply Lo.self2)); done))) | (with_reducible apply obj_past; (· ((first | with_reducible assumption | with_reducible apply ne_add1 | with_reducible apply ne_add1' | with_reducible apply ne_add2 | with_reducible apply ne_add2' | with_reducible apply ne_add12 | with_reducible apply ne_add21 | (with_reducible apply Lo.ne; (repeat (first | with_reducible assumption | with_reducible apply Lo.self | with_reducible apply Lo.new | with_reducible apply Lo.set | with_reducible apply Lo.self1 | with_reducible apply Lo.self2)); done) | (with_reducible apply Lo.ne1; (repeat (first | with_reducible assumption | with_reducible apply Lo.self | with_reducible apply Lo.new | with_reducible apply Lo.set | with_reducible apply Lo.self1 | with_reducible apply Lo.self2)); done) | (with_reducible apply Lo.ne'; (repeat (first | with_reducible assumption | with_reducible apply Lo.self | with_reducible apply Lo.new | with_reducible apply Lo.set | with_reducible apply Lo.self1 | with_reducible apply Lo.self2)); done) | (with_reducible apply Lo.ne1'; (repeat (first | with_reducible assumption | with_reducible apply Lo.self | with_reducible apply Lo.new | with_reducible apply Lo.set | with_reducible apply Lo.self1 | with_reducible apply Lo.self2)); done)); done))) | exact obj_here rfl)); (· exact rfl); (· exact rfl); (· exact rfl))
        | (apply op_at; (· exact rfl))
        | (apply dwp_cond_t; (· exact rfl); (· (first | with_reducible assumption | with_reducible rfl | decide)))
        | (refine dwp_cond rfl ?_ ?_ <;> intro hb)
        | apply dwp_block
        | apply dwp_skip
        | apply dwp_ret
        | (refine ⟨_, rfl, ?_⟩)
        | fail)
      · refine ⟨?_, (habj.new _).set habj.le _⟩
        rw [kOk_bad hlt (by
          unfold badI; rw [hx]; simp only []
          have : ((l.take k).any fun z => z.s == x.s) = true := by
            rw [List.any_eq_true]
            refine ⟨y, List.mem_of_getElem? (i := j) (by rw [List.getElem?_take, if_pos hjk]; exact hy), ?_⟩
            have := beq_iff_eq.mp hb
            simp [this]
          rw [this, Bool.or_true])]
        rfl
      · rw [hwj]
        refine ⟨⟨_, j + 1, junk_facts (⟨by omega, (habj.new _).set habj.le _, obj_past hlj.ne (obj_skip hlj.ne hbj), hlj.new.set, obj_past hlxj.ne (obj_skip hlxj.ne hxj), hlxj.new.set, fun i z hi hz => ?_⟩) rfl rfl⟩, ?_⟩
        · rcases Nat.lt_succ_iff_lt_or_eq.mp hi with h | rfl
          · exact hne i z h hz
          · rw [hy] at hz; cases hz; exact hb
        · show k - ((j + 1 : Nat) : Int).toNat < k - (j : Int).toNat
          omega
    · obtain rfl : j = k := by omega
      have hcj : decide ((j : Int) < (j : Int)) = false := by simp
      repeat' (first
        | dsimp only [putD, DV.cells, DH.new_next, DH.set_next, List.length_cons, List.length_nil, Nat.reduceAdd, List.set_cons_zero, List.set_cons_succ, getD_zero, getD_succ, fieldAt_zero, fieldAt_succ, thenD, blockD, retR]
        | apply dwp_seq
        | apply dwp_region
        | apply ops_nil
        | (apply ops_plain; (· exact rfl))
        | (apply op_at; (· exact rfl))
        | (apply dwp_cond_f; (· exact rfl); (· (first | with_reducible assumption | with_reducible rfl | decide)))
        | apply dwp_exit
        | fail)
      rw [hw]
      refine ⟨⟨_, j + 1, junk_facts (⟨by omega, habj, hbj, hlj, fun i hi => ?_⟩) rfl rfl⟩, ?_⟩
      · rcases Nat.lt_succ_iff_lt_or_eq.mp hi with h | rfl
        · exact hbad i h
        · unfold badI; rw [hx]; simp only []
          rw [hiok, Bool.not_true, Bool.false_or, List.any_eq_false]
          intro y hy
          obtain ⟨q, hq⟩ := List.getElem?_of_mem hy
          rw [List.getElem?_take] at hq
          split at hq
          · have := hne q y (by assumption) hq
            simp only [beq_eq_false_iff_ne, ne_eq] at this
            simp only [beq_iff_eq]
            exact fun e => this e.symm
          · cases hq
      · show l.length - ((j + 1 : Nat) : Int).toNat < l.length - (j : Int).toNat
        omega
  · obtain rfl : k = l.length := by omega
    have hc : decide ((l.length : Int) < (l.length : Int)) = false := by simp
    repeat' (first
      | dsimp only [putD, DV.cells, DH.new_next, DH.set_next, List.length_cons, List.length_nil, Nat.reduceAdd, List.set_cons_zero, List.set_cons_succ, getD_zero, getD_succ, fieldAt_zero, fieldAt_succ, thenD, blockD, retR]
      | apply dwp_seq
      | apply dwp_region
      | apply ops_nil
      | (apply ops_plain; (· exact rfl))
      | (apply op_at; (· exact rfl))
      | (apply dwp_cond_f; (· exact rfl); (· (first | with_reducible assumption | with_reducible rfl | decide)))
      | apply dwp_ret
      | apply dwp_exit
      | (refine ⟨_, rfl, ?_⟩)
      | fail)
    refine ⟨?_, hab⟩
    rw [kOk_good hpre hbad]
    rfl
end Go.Det.Q

/- heap.Find: the first thing of a number. -/
namespace Go.Det.Q
open Go Go.Det Go.Proofs
set_option maxRecDepth 4000
set_option maxHeartbeats 4000000
set_option linter.unusedVariables false
set_option linter.unusedSimpArgs false
end Go.Det.Q

/- Is a kernel well made? The program's own text: with a map of what was seen. -/
namespace Go.Det.Q
open Go Go.Det Go.Proofs
set_option maxRecDepth 4000
set_option maxHeartbeats 4000000
set_option linter.unusedVariables false
set_option linter.unusedSimpArgs false
/-- A map of what was seen. -/
def seenE (ss : List Int) : List (DV × DV) := ss.map fun s => (.int .u64 s, .bool true)
theorem beq_int (a b : Int) : DV.beq (.int .u64 a) (.int .u64 b) = (a == b) := by
  simp [DV.beq]
theorem keq_int (a b : Int) : keq Try.prog 24 (.int .u64 a) (.int .u64 b) = some (a == b) := by
  unfold keq
  simp only [eqT, Try.underlying24, if_true]
  cases h : a == b with
  | false => rfl
  | true => simp [beq_int, h, plainKey]
theorem keyOk_int (a : Int) : keyOk Try.prog 24 (.int .u64 a) = true := by
  unfold keyOk
  simp [Try.underlying24, keq_int]
theorem find_seen (s : Int) : ∀ (ss : List Int), ∃ r, findD Try.prog 24 (.int .u64 s) (seenE ss) = some r ∧ (r = none ∨ ∃ i, r = some (i, .bool true)) ∧ r.isSome = ss.any (fun t => t == s)
  | [] => ⟨none, rfl, .inl rfl, rfl⟩
  | t :: ss => by
    obtain ⟨r, h1, h2, h3⟩ := find_seen s ss
    unfold seenE at h1
    simp only [seenE, List.map_cons, findD, keq_int, List.any_cons]
    cases e : s == t with
    | true =>
      have : (t == s) = true := by rw [beq_iff_eq] at e ⊢; exact e.symm
      exact ⟨_, rfl, .inr ⟨0, rfl⟩, by rw [this]; rfl⟩
    | false =>
      have : (t == s) = false := by rw [beq_eq_false_iff_ne] at e ⊢; exact fun h => e h.symm
      rw [this, Bool.false_or]
      simp only [h1, Option.map_some]
      refine ⟨_, rfl, ?_, ?_⟩
      · rcases h2 with rfl | ⟨i, rfl⟩
        · exact .inl rfl
        · exact .inr ⟨i + 1, rfl⟩
      · rw [← h3]; cases r <;> rfl
section
variable {X : Ext} {o : Oper} {env : List DV} {H : DH} {K : DV → DH → Prop} {m : Nat} {s : Int} {ss : List Int}
theorem op_lookup {a k : Operand} (ho : o.op = .lookup 84 a k false) (ha : evalO env a = some (.map (some m))) (hk : evalO env k = some (.int .u64 s)) (hobj : H.obj m = some (.map (seenE ss)))
    (h : K (.bool (ss.any fun t => t == s)) H) : OpWp Try.prog X o env H K := by
  refine op_at ?_ h
  obtain ⟨r, h1, h2, h3⟩ := find_seen s ss
  simp only [opD, ho, mover, reader, readD, ha, hk, lookupD, Try.underlying84, keyOk_int, mapEs, hobj, h1]
  rw [← h3]
  rcases h2 with rfl | ⟨i, rfl⟩
  · rfl
  · rfl
theorem op_update {a k x : Operand} (ho : o.op = .mapUpdate 84 a k x) (ha : evalO env a = some (.map (some m))) (hk : evalO env k = some (.int .u64 s)) (hx : evalO env x = some (.bool true)) (hobj : H.obj m = some (.map (seenE ss)))
    (h : ∀ es, ((ss.any fun t => t == s) = false → es = seenE (ss ++ [s])) → K undefD (H.set m (some (.map es)))) : OpWp Try.prog X o env H K := by
  obtain ⟨r, h1, h2, h3⟩ := find_seen s ss
  rcases h2 with rfl | ⟨i, rfl⟩
  · refine op_at ?_ (h (seenE ss ++ [(.int .u64 s, .bool true)]) (fun _ => by simp [seenE]))
    simp only [opD, ho, mover, moveD, ha, hk, hx, updateD, Try.underlying84, hobj, keyOk_int, setEntry, h1]
    rfl
  · refine op_at ?_ (h ((seenE ss).set i (.int .u64 s, .bool true)) (fun e => by rw [← h3] at e; cases e))
    simp only [opD, ho, mover, moveD, ha, hk, hx, updateD, Try.underlying84, hobj, keyOk_int, setEntry, h1]
    rfl
end
def itemOk2 (nx now : Int) (x : Item) : Bool := !(decide (x.a < now) || !mayB x.a || decide (x.c < 0) || decide (x.c > 15) || decide (x.s ≥ nx))
theorem itemOk2_eq (nx now : Int) (x : Item) : itemOk2 nx now x = itemOk nx now x := by
  unfold itemOk2 itemOk
  cases decide (x.a < now) <;> cases mayB x.a <;> rfl
theorem clo66 (B H : DH) (x : Item) (mb kb m : Nat) (ss : List Int) (s0 : DV) (nx now hor : Int) (hB : Above B H) (hm : H.obj m = some (.map (seenE ss))) (hmb : H.obj mb = some (.rows false 1 [[.map (some m)]])) (hkb : H.obj kb = some (.rows false 4 [[s0, .int .u64 nx, .int .i64 now, .int .i64 hor]]))
    (l1 : Lo H m) (l2 : Lo H mb) (l3 : Lo H kb) (n1 : mb ≠ m) (n2 : kb ≠ m) (hBm : B.next ≤ m) :
    CallWp Try.prog K2 66 [.agg x.cells, .ptr (some (mb, 0, 0)), .ptr (some (kb, 0, 0))] H (fun r H' => r = .bool ((ss.any fun t => t == x.s) || !itemOk2 nx now x) ∧ Above B H' ∧ H.next ≤ H'.next ∧
      ((ss.any fun t => t == x.s) = false → H'.obj m = some (.map (seenE (ss ++ [x.s])))) ∧ H'.obj mb = H.obj mb ∧ H'.obj kb = H.obj kb) := by
  refine enter rfl Try.func66 rfl Try.ntmps66 rfl ?_
  dsimp only [List.cons_append, List.nil_append, List.length_cons, List.length_nil, List.replicate_succ, List.replicate_zero, Nat.reduceAdd, Nat.reduceSub]
  repeat' (first
    | dsimp only [putD, DV.cells, DH.new_next, DH.set_next, List.length_cons, List.length_nil, Nat.reduceAdd, List.set_cons_zero, List.set_cons_succ, getD_zero, getD_succ, fieldAt_zero, fieldAt_succ, thenD, blockD, retR]
    | apply dwp_seq
    | apply dwp_region
    | apply ops_nil
    | (apply ops_plain; (· exact rfl))
    | (apply ops_on; (· exact rfl); (· exact rfl); (· (first | with_reducible assumption | with_reducible rfl | decide)))
    | (apply ops_off0; (· exact rfl); (· exact rfl); (· (first | with_reducible assumption | with_reducible rfl | decide)))
    | (apply ops_split0; (· exact rfl); (· exact rfl); all_goals intro hb)
    | (apply op_call; (· exact rfl); (· exact rfl); (· exact rfl); refine call_table (g := gMay1) rfl (may1_t (obj_here rfl)) ?_)
    | (apply op_pick_t; (· exact rfl); (· exact rfl); (· (first | with_reducible assumption | with_reducible rfl | decide)); (· exact rfl))
    | (apply op_pick_f; (· exact rfl); (· exact rfl); (· (first | with_reducible assumption | with_reducible rfl | decide)); (· exact rfl))
    | (apply op_lookup; (· exact rfl); (· exact rfl); (· exact rfl); (· repeat (first | with_reducible assumption | (with_reducible apply obj_here; with_reducible rfl) | with_reducible apply obj_set | (with_reducible apply obj_skip_lo; (· ((repeat (first | with_reducible assumption | with_reducible apply Lo.self | with_reducible apply Lo.new | with_reducible apply Lo.set | with_reducible apply Lo.self1 | with_reducible apply Lo.self2)); done))) | (with_reducible apply obj_past; (· ((first | with_reducible assumption | with_reducible apply ne_add1 | with_reducible apply ne_add1' | with_reducible apply ne_add2 | with_reducible apply ne_add2' | with_reducible apply ne_add12 | with_reducible apply ne_add21 | (with_reducible apply Lo.ne; (repeat (first | with_reducible assumption | with_reducible apply Lo.self | with_reducible apply Lo.new | with_reducible apply Lo.set | with_reducible apply Lo.self1 | with_reducible apply Lo.self2)); done) | (with_reducible apply Lo.ne1; (repeat (first | with_reducible assumption | with_reducible apply Lo.self | with_reducible apply Lo.new | with_reducible apply Lo.set | with_reducible apply Lo.self1 | with_reducible apply Lo.self2)); done) | (with_reducible apply Lo.ne'; (repeat (first | with_reducible assumption | with_reducible apply Lo.self | with_reducible apply Lo.new | with_reducible apply Lo.set | with_reducible apply Lo.self1 | with_reducible apply Lo.self2)); done) | (with_reducible apply Lo.ne1'; (repeat (first | with_reducible assumption | with_reducible apply Lo.self | with_reducible apply Lo.new | with_reducible apply Lo.set | with_reducible apply Lo.self1 | with_reducible apply Lo.self2)); done)); done))) | exact obj_here rfl)))
    | (apply op_update; (· exact rfl); (· exact rfl); (· exact rfl); (· exact rfl); (· repeat (first | with_reducible assumption | (with_reducible apply obj_here; with_reducible rfl) | with_reducible apply obj_set | (with_reducible apply obj_skip_lo; (· ((repeat (first | with_reducible assumption | with_reducible apply Lo.self | with_reducible apply Lo.new | with_reducible apply Lo.set | with_reducible apply Lo.self1 | with_reducible apply Lo.self2)); done))) | (with_reducible apply obj_past; (· ((first | with_reducible assumption | with_reducible apply ne_add1 | with_reducible apply ne_add1' | with_reducible apply ne_add2 | with_reducible apply ne_add2' | with_reducible apply ne_add12 | with_reducible apply ne_add21 | (with_reducible apply Lo.ne; (repeat (first | with_reducible assumption | with_reducible apply Lo.self | with_reducible apply Lo.new | with_reducible apply Lo.set | with_reducible apply Lo.self1 | with_reducible apply Lo.self2)); done) | (with_reducible apply Lo.ne1; (repeat (first | with_reducible assumption | with_reducible apply Lo.self | with_reducible apply Lo.new | with_reducible apply Lo.set | with_reducible apply Lo.self1 | with_reducible apply Lo.self2)); done) | (with_reducible apply Lo.ne'; (repeat (first | with_reducible assumption | with_reducible apply Lo.self | with_reducible apply Lo.new | with_reducible apply Lo.set | with_reducible apply Lo.self1 | with_reducible apply Lo.self2)); done) | (with_reducible apply Lo.ne1'; (repeat (first | with_reducible assumption | with_reducible apply Lo.self | with_reducible apply Lo.new | with_reducible apply Lo.set | with_reducible apply Lo.self1 | with_reducible apply Lo.self2)); done)); done))) | exact obj_here rfl)); intro es hes)
    | (apply op_load_at; (· exact rfl); (· exact rfl); (· repeat (first | with_reducible assumption | (with_reducible apply obj_here; with_reducible rfl) | with_reducible apply obj_set | (with_reducible apply obj_skip_lo; (· ((repeat (first | with_reducible assumption | with_reducible apply Lo.self | with_reducible apply Lo.new | with_reducible apply Lo.set | with_reducible apply Lo.self1 | with_reducible apply Lo.self2)); done))) | (with_reducible apply obj_past; (· ((first | with_reducible assumption | with_reducible apply ne_add1 | with_reducible apply ne_add1' | with_reducible apply ne_add2 | with_reducible apply ne_add2' | with_reducible apply ne_add12 | with_reducible apply ne_add21 | (with_reducible apply Lo.ne; (repeat (first | with_reducible assumption | with_reducible apply Lo.self | with_reducible apply Lo.new | with_reducible apply Lo.set | with_reducible apply Lo.self1 | with_reducible apply Lo.self2)); done) | (with_reducible apply Lo.ne1; (repeat (first | with_reducible assumption | with_reducible apply Lo.self | with_reducible apply Lo.new | with_reducible apply Lo.set | with_reducible apply Lo.self1 | with_reducible apply Lo.self2)); done) | (with_reducible apply Lo.ne'; (repeat (first | with_reducible assumption | with_reducible apply Lo.self | with_reducible apply Lo.new | with_reducible apply Lo.set | with_reducible apply Lo.self1 | with_reducible apply Lo.self2)); done) | (with_reducible apply Lo.ne1'; (repeat (first | with_reducible assumption | with_reducible apply Lo.self | with_reducible apply Lo.new | with_reducible apply Lo.set | with_reducible apply Lo.self1 | with_reducible apply Lo.self2)); done)); done))) | exact obj_here rfl)); (· exact rfl); (· exact rfl))
    | (apply op_at; (· exact rfl))
    | apply dwp_ret
    | (refine ⟨_, rfl, ?_⟩)
    | fail)
  all_goals refine ⟨?_, ?_, ?_, ?_, ?_, ?_⟩
  all_goals first
    | exact (hB.new _).set hBm _
    | exact ((hB.new _).set hBm _).new _
    | exact Nat.le_succ _
    | exact Nat.le_succ_of_le (Nat.le_succ _)
    | (rw [hmb]; (repeat (first | with_reducible assumption | (with_reducible apply obj_here; with_reducible rfl) | with_reducible apply obj_set | (with_reducible apply obj_skip_lo; (· ((repeat (first | with_reducible assumption | with_reducible apply Lo.self | with_reducible apply Lo.new | with_reducible apply Lo.set | with_reducible apply Lo.self1 | with_reducible apply Lo.self2)); done))) | (with_reducible apply obj_past; (· ((first | with_reducible assumption | with_reducible apply ne_add1 | with_reducible apply ne_add1' | with_reducible apply ne_add2 | with_reducible apply ne_add2' | with_reducible apply ne_add12 | with_reducible apply ne_add21 | (with_reducible apply Lo.ne; (repeat (first | with_reducible assumption | with_reducible apply Lo.self | with_reducible apply Lo.new | with_reducible apply Lo.set | with_reducible apply Lo.self1 | with_reducible apply Lo.self2)); done) | (with_reducible apply Lo.ne1; (repeat (first | with_reducible assumption | with_reducible apply Lo.self | with_reducible apply Lo.new | with_reducible apply Lo.set | with_reducible apply Lo.self1 | with_reducible apply Lo.self2)); done) | (with_reducible apply Lo.ne'; (repeat (first | with_reducible assumption | with_reducible apply Lo.self | with_reducible apply Lo.new | with_reducible apply Lo.set | with_reducible apply Lo.self1 | with_reducible apply Lo.self2)); done) | (with_reducible apply Lo.ne1'; (repeat (first | with_reducible assumption | with_reducible apply Lo.self | with_reducible apply Lo.new | with_reducible apply Lo.set | with_reducible apply Lo.self1 | with_reducible apply Lo.self2)); done)); done))) | exact obj_here rfl)); done)
    | (rw [hkb]; (repeat (first | with_reducible assumption | (with_reducible apply obj_here; with_reducible rfl) | with_reducible apply obj_set | (with_reducible apply obj_skip_lo; (· ((repeat (first | with_reducible assumption | with_reducible apply Lo.self | with_reducible apply Lo.new | with_reducible apply Lo.set | with_reducible apply Lo.self1 | with_reducible apply Lo.self2)); done))) | (with_reducible apply obj_past; (· ((first | with_reducible assumption | with_reducible apply ne_add1 | with_reducible apply ne_add1' | with_reducible apply ne_add2 | with_reducible apply ne_add2' | with_reducible apply ne_add12 | with_reducible apply ne_add21 | (with_reducible apply Lo.ne; (repeat (first | with_reducible assumption | with_reducible apply Lo.self | with_reducible apply Lo.new | with_reducible apply Lo.set | with_reducible apply Lo.self1 | with_reducible apply Lo.self2)); done) | (with_reducible apply Lo.ne1; (repeat (first | with_reducible assumption | with_reducible apply Lo.self | with_reducible apply Lo.new | with_reducible apply Lo.set | with_reducible apply Lo.self1 | with_reducible apply Lo.self2)); done) | (with_reducible apply Lo.ne'; (repeat (first | with_reducible assumption | with_reducible apply Lo.self | with_reducible apply Lo.new | with_reducible apply Lo.set | with_reducible apply Lo.self1 | with_reducible apply Lo.self2)); done) | (with_reducible apply Lo.ne1'; (repeat (first | with_reducible assumption | with_reducible apply Lo.self | with_reducible apply Lo.new | with_reducible apply Lo.set | with_reducible apply Lo.self1 | with_reducible apply Lo.self2)); done)); done))) | exact obj_here rfl)); done)
    | (intro e; have e' := hes e; subst e'; (repeat (first | with_reducible assumption | (with_reducible apply obj_here; with_reducible rfl) | with_reducible apply obj_set | (with_reducible apply obj_skip_lo; (· ((repeat (first | with_reducible assumption | with_reducible apply Lo.self | with_reducible apply Lo.new | with_reducible apply Lo.set | with_reducible apply Lo.self1 | with_reducible apply Lo.self2)); done))) | (with_reducible apply obj_past; (· ((first | with_reducible assumption | with_reducible apply ne_add1 | with_reducible apply ne_add1' | with_reducible apply ne_add2 | with_reducible apply ne_add2' | with_reducible apply ne_add12 | with_reducible apply ne_add21 | (with_reducible apply Lo.ne; (repeat (first | with_reducible assumption | with_reducible apply Lo.self | with_reducible apply Lo.new | with_reducible apply Lo.set | with_reducible apply Lo.self1 | with_reducible apply Lo.self2)); done) | (with_reducible apply Lo.ne1; (repeat (first | with_reducible assumption | with_reducible apply Lo.self | with_reducible apply Lo.new | with_reducible apply Lo.set | with_reducible apply Lo.self1 | with_reducible apply Lo.self2)); done) | (with_reducible apply Lo.ne'; (repeat (first | with_reducible assumption | with_reducible apply Lo.self | with_reducible apply Lo.new | with_reducible apply Lo.set | with_reducible apply Lo.self1 | with_reducible apply Lo.self2)); done) | (with_reducible apply Lo.ne1'; (repeat (first | with_reducible assumption | with_reducible apply Lo.self | with_reducible apply Lo.new | with_reducible apply Lo.set | with_reducible apply Lo.self1 | with_reducible apply Lo.self2)); done)); done))) | exact obj_here rfl)); done)
    | (unfold itemOk2; simp only [*, Bool.true_or, Bool.or_true, Bool.false_or, Bool.or_false, Bool.not_true, Bool.not_false, Bool.not_not])
/-- The first of which something holds that may hang on what came before. -/
theorem index61s {X : Ext} (hx : X 61 = none) {F : FuncId} {cap : List DV} (b : Nat → Bool) (I : Nat → DH → Prop) (W : DH → Prop) (H : DH) (q : Option (Nat × Nat × Nat)) (c : Nat) (ex : Bool) (l : List Item) (h0 : I 0 H)
    (hI : ∀ k H', I k H' → It H' q c ex l ∧ W H') (hF : ∀ (k : Nat) (a : Item) (H' : DH), l[k]? = some a → I k H' → CallWp Try.prog X F (.agg a.cells :: cap) H' (fun r H'' => r = .bool (b k) ∧ W H'' ∧ (b k = false → I (k + 1) H''))) :
    CallWp Try.prog X 61 [.sl q l.length c ex, .func (.func F) [] cap] H (fun r H' => (∃ n : Int, r = .int .i64 n ∧ decide (n ≥ 0) = (List.range l.length).any b) ∧ W H') := by
  have hln := (hI 0 H h0).1.len
  refine enter hx Try.func61 rfl Try.ntmps61 rfl ?_
  dsimp only [List.cons_append, List.nil_append, List.length_cons, List.length_nil, List.replicate_succ, List.replicate_zero, Nat.reduceAdd, Nat.reduceSub]
  repeat' (first
    | dsimp only [putD, DV.cells, DH.new_next, DH.set_next, List.length_cons, List.length_nil, Nat.reduceAdd, List.set_cons_zero, List.set_cons_succ, getD_zero, getD_succ, fieldAt_zero, fieldAt_succ, thenD, blockD, retR]
    | apply dwp_seq
    | apply dwp_region
    | apply ops_nil
    | (apply ops_plain; (· exact rfl))
    | (apply op_at; (· exact rfl))
    | apply dwp_block
    | fail)
  refine dwp_loop (fun st => ∃ (Hk : DH) (k : Nat), ∃ J : Nat → DV, (k ≤ l.length ∧ I k Hk ∧ (∀ (j : Nat), j < k → b j = false)) ∧ st = ⟨[.sl q l.length c ex, .func (.func F) [] cap, J 2, J 3, J 4, J 5, .sl q l.length c ex, .int .i64 l.length, .int .i64 (k : Int), J 9, J 10, J 11, J 12, J 13, J 14, J 15, J 16, J 17, J 18], Hk⟩) (fun st => l.length - kOf st 8) (⟨H, 0, junk_facts (⟨Nat.zero_le _, h0, (fun j h => absurd h (Nat.not_lt_zero _))⟩) rfl rfl⟩) ?_
  rintro st ⟨Hk, k, J, ⟨hk, hik, hbefore⟩, rfl⟩
  by_cases hlt : k < l.length
  · obtain ⟨a, ha⟩ : ∃ a, l[k]? = some a := ⟨l[k], List.getElem?_eq_getElem hlt⟩
    obtain ⟨hl, hwk⟩ := hI k Hk hik
    obtain ⟨loc, i, ro, rs, rfl, hloc, ho, hrow⟩ := hl.rd ha
    have hrk : rs[i + ((k : Int)).toNat]? = some a.cells := by rw [Int.toNat_natCast]; exact hrow
    have hc : decide ((k : Int) < (l.length : Int)) = true := by simp [hlt]
    have hin : 0 ≤ (k : Int) ∧ (k : Int) < (l.length : Int) := by omega
    have hw' := wrapNat (k := k) (by unfold maxLen at hln; omega)
    repeat' (first
      | dsimp only [putD, DV.cells, DH.new_next, DH.set_next, List.length_cons, List.length_nil, Nat.reduceAdd, List.set_cons_zero, List.set_cons_succ, getD_zero, getD_succ, fieldAt_zero, fieldAt_succ, thenD, blockD, retR]
      | apply dwp_seq
      | apply dwp_region
      | apply ops_nil
      | (apply ops_plain; (· exact rfl))
      | (apply op_call; (· exact rfl); (· exact rfl); (· exact rfl); refine (hF k a _ ha hik).mono ?_; rintro r H1 ⟨rfl, hw1, hi1⟩)
      | (apply op_index_at; (· exact rfl); (· exact rfl); (· exact rfl); (· with_reducible exact hin); (· exact rfl); (· exact rfl))
      | (apply op_load_at; (· exact rfl); (· exact rfl); (· with_reducible exact ho); (· with_reducible exact hrk); (· exact (item_part a)))
      | (apply op_at; (· exact rfl))
      | (apply dwp_cond_t; (· exact rfl); (· (first | with_reducible assumption | with_reducible rfl | decide)))
      | (refine dwp_cond rfl ?_ ?_ <;> intro hb)
      | apply dwp_block
      | apply dwp_skip
      | apply dwp_ret
      | (refine ⟨_, rfl, ?_⟩)
      | fail)
    · refine ⟨⟨_, rfl, ?_⟩, hw1⟩
      have : (List.range l.length).any b = true := List.any_eq_true.mpr ⟨k, List.mem_range.mpr hlt, hb⟩
      rw [this]; simp
    · rw [hw']
      refine ⟨⟨_, k + 1, junk_facts (⟨by omega, hi1 hb, fun j hj => ?_⟩) rfl rfl⟩, ?_⟩
      · rcases Nat.lt_succ_iff_lt_or_eq.mp hj with h | rfl
        · exact hbefore j h
        · exact hb
      · show l.length - ((k + 1 : Nat) : Int).toNat < l.length - (k : Int).toNat
        omega
  · have hc : decide ((k : Int) < (l.length : Int)) = false := by simp; omega
    have hkl : k = l.length := by omega
    subst hkl
    repeat' (first
      | dsimp only [putD, DV.cells, DH.new_next, DH.set_next, List.length_cons, List.length_nil, Nat.reduceAdd, List.set_cons_zero, List.set_cons_succ, getD_zero, getD_succ, fieldAt_zero, fieldAt_succ, thenD, blockD, retR]
      | apply dwp_seq
      | apply dwp_region
      | apply ops_nil
      | (apply ops_plain; (· exact rfl))
      | (apply op_at; (· exact rfl))
      | (apply dwp_cond_f; (· exact rfl); (· (first | with_reducible assumption | with_reducible rfl | decide)))
      | apply dwp_ret
      | apply dwp_exit
      | (refine ⟨_, rfl, ?_⟩)
      | fail)
    refine ⟨⟨_, rfl, ?_⟩, (hI _ Hk hik).2⟩
    have : (List.range l.length).any b = false := by
      rw [List.any_eq_false]
      intro j hj
      rw [hbefore j (List.mem_range.mp hj)]; simp
    rw [this]; rfl
theorem contains67 {X : Ext} (h67 : X 67 = none) (hx : X 61 = none) {F : FuncId} {cap : List DV} (b : Nat → Bool) (I : Nat → DH → Prop) (W : DH → Prop) (H : DH) (q : Option (Nat × Nat × Nat)) (c : Nat) (ex : Bool) (l : List Item) (h0 : I 0 H)
    (hI : ∀ k H', I k H' → It H' q c ex l ∧ W H') (hF : ∀ (k : Nat) (a : Item) (H' : DH), l[k]? = some a → I k H' → CallWp Try.prog X F (.agg a.cells :: cap) H' (fun r H'' => r = .bool (b k) ∧ W H'' ∧ (b k = false → I (k + 1) H''))) :
    CallWp Try.prog X 67 [.sl q l.length c ex, .func (.func F) [] cap] H (fun r H' => r = .bool ((List.range l.length).any b) ∧ W H') := by
  refine enter h67 Try.func67 rfl Try.ntmps67 rfl ?_
  dsimp only [List.cons_append, List.nil_append, List.length_cons, List.length_nil, List.replicate_succ, List.replicate_zero, Nat.reduceAdd, Nat.reduceSub]
  repeat' (first
    | dsimp only [putD, DV.cells, DH.new_next, DH.set_next, List.length_cons, List.length_nil, Nat.reduceAdd, List.set_cons_zero, List.set_cons_succ, getD_zero, getD_succ, fieldAt_zero, fieldAt_succ, thenD, blockD, retR]
    | apply dwp_seq
    | apply dwp_region
    | apply ops_nil
    | (apply ops_plain; (· exact rfl))
    | (apply op_call; (· exact rfl); (· exact rfl); (· exact rfl); refine (index61s hx b I W _ q c ex l h0 hI hF).mono ?_; rintro r H1 ⟨⟨n, rfl, hn⟩, hw⟩)
    | (apply op_at; (· exact rfl))
    | apply dwp_ret
    | (refine ⟨_, rfl, ?_⟩)
    | fail)
  rw [hn]
  exact ⟨rfl, hw⟩
theorem any_seen (l : List Item) (s : Int) : ((l.map (·.s)).any fun t => t == s) = l.any (fun y => y.s == s) := by
  rw [List.any_map]; rfl
theorem con67 (B H : DH) (p : Option (Nat × Nat × Nat)) (c : Nat) (ex : Bool) (l : List Item) (mb kb m : Nat) (s0 : DV) (nx now hor : Int) (hl : It B p c ex l) (hB : Above B H) (hm : H.obj m = some (.map [])) (hmb : H.obj mb = some (.rows false 1 [[.map (some m)]])) (hkb : H.obj kb = some (.rows false 4 [[s0, .int .u64 nx, .int .i64 now, .int .i64 hor]]))
    (l1 : Lo H m) (l2 : Lo H mb) (l3 : Lo H kb) (n1 : mb ≠ m) (n2 : kb ≠ m) (hBm : B.next ≤ m) :
    CallWp Try.prog K2 67 [.sl p l.length c ex, .func (.func 66) [] [.ptr (some (mb, 0, 0)), .ptr (some (kb, 0, 0))]] H (fun r H' => r = .bool ((List.range l.length).any (badI l nx now)) ∧ Above B H') := by
  refine contains67 rfl rfl (badI l nx now) (fun k H' => Above B H' ∧ H.next ≤ H'.next ∧ H'.obj m = some (.map (seenE ((l.take k).map (·.s)))) ∧ H'.obj mb = H.obj mb ∧ H'.obj kb = H.obj kb) (Above B) H p c ex l ⟨hB, Nat.le_refl _, hm, rfl, rfl⟩ (fun k H' h => ⟨hl.mono h.1, h.1⟩) ?_
  rintro k a H' ha ⟨h1, h2, h3, h4, h5⟩
  have hlo : ∀ {i}, Lo H i → Lo H' i := fun h => lo (Nat.lt_of_lt_of_le h.h h2)
  refine (clo66 B H' a mb kb m _ s0 nx now hor h1 h3 (h4.trans hmb) (h5.trans hkb) (hlo l1) (hlo l2) (hlo l3) n1 n2 hBm).mono ?_
  rintro r H2 ⟨rfl, g1, g2, g3, g4, g5⟩
  have e : badI l nx now k = (((l.take k).map (·.s)).any (fun t => t == a.s) || !itemOk2 nx now a) := by
    unfold badI
    rw [ha]
    simp only []
    rw [any_seen, itemOk2_eq, Bool.or_comm]
  rw [← e]
  refine ⟨rfl, g1, fun hb => ⟨g1, Nat.le_trans h2 g2, ?_, g4.trans h4, g5.trans h5⟩⟩
  rw [e, Bool.or_eq_false_iff] at hb
  rw [g3 hb.1, List.take_add_one, ha]
  simp
theorem kOk_eq (l : List Item) (nx now hor : Int) : kOk l nx now hor = !(decide (now < 0) || decide (now > hor) || !mayB hor || !checkB l || (List.range l.length).any (badI l nx now)) := by
  unfold kOk preOk
  generalize (List.range l.length).any (badI l nx now) = q
  generalize checkB l = w
  cases h1 : decide (now < 0) with
  | true => cases w <;> cases mayB now <;> cases mayB hor <;> cases q <;> rfl
  | false =>
    cases h2 : decide (now > hor) with
    | true => cases w <;> cases mayB now <;> cases mayB hor <;> cases q <;> rfl
    | false =>
      cases h3 : mayB hor with
      | false => cases w <;> cases mayB now <;> cases q <;> rfl
      | true =>
        have h4 : mayB now = true := by
          unfold mayB at *
          simp only [Bool.not_eq_true', Bool.or_eq_false_iff, decide_eq_false_iff_not] at *
          omega
        rw [h4]
        cases w <;> cases q <;> rfl
theorem check49 (H : DH) (p : Option (Nat × Nat × Nat)) (c : Nat) (ex : Bool) (l : List Item) (nx now hor : Int) (hl : It H p c ex l) :
    CallWp Try.prog K2 49 [.agg [.sl p l.length c ex, .int .u64 nx, .int .i64 now, .int .i64 hor]] H (fun r H' => r = .int .i64 (if kOk l nx now hor then 0 else 1) ∧ Above H H') := by
  have hab3 : ∀ {a b d o}, Above H ((((H.new a).new b).new d).set (H.next + 2) o) := fun {a b d o} => ((((Above.refl H).new _).new _).new _).set (show H.next ≤ H.next + 2 by omega) _
  have hab4 : ∀ {a b d o e}, Above H (((((H.new a).new b).new d).set (H.next + 2) o).new e) := fun {a b d o e} => hab3.new _
  have o1 : ∀ {a b d o e}, (((((H.new a).new b).new d).set (H.next + 2) o).new e).obj (H.next + 1) = some b := fun {a b d o e} => by simp [DH.new, DH.set]
  have o2 : ∀ {a b d o e}, (((((H.new a).new b).new d).set (H.next + 2) o).new e).obj (H.next + 2) = o := fun {a b d o e} => by simp [DH.new, DH.set]
  have o3 : ∀ {a b d o e}, (((((H.new a).new b).new d).set (H.next + 2) o).new e).obj H.next = some a := fun {a b d o e} => obj_skip (Nat.ne_of_lt (show H.next < H.next + 1 + 1 + 1 by omega)) (obj_past (show H.next ≠ H.next + 2 by omega) (obj_skip (Nat.ne_of_lt (show H.next < H.next + 1 + 1 by omega)) (obj_skip (Nat.ne_of_lt (show H.next < H.next + 1 by omega)) (obj_here rfl))))
  rw [kOk_eq]
  refine enter rfl Try.func49 rfl Try.ntmps49 rfl ?_
  dsimp only [List.cons_append, List.nil_append, List.length_cons, List.length_nil, List.replicate_succ, List.replicate_zero, Nat.reduceAdd, Nat.reduceSub]
  repeat' (first
    | dsimp only [putD, DV.cells, DH.new_next, DH.set_next, List.length_cons, List.length_nil, Nat.reduceAdd, List.set_cons_zero, List.set_cons_succ, getD_zero, getD_succ, fieldAt_zero, fieldAt_succ, thenD, blockD, retR]
    | apply dwp_seq
    | apply dwp_region
    | apply ops_nil
    | (apply ops_plain; (· exact rfl))
    | (apply ops_on; (· exact rfl); (· exact rfl); (· (first | with_reducible assumption | with_reducible rfl | decide)))
    | (apply ops_off0; (· exact rfl); (· exact rfl); (· (first | with_reducible assumption | with_reducible rfl | decide)))
    | (apply ops_split0; (· exact rfl); (· exact rfl); all_goals intro hb)
    | (apply op_call; (· exact rfl); (· exact rfl); (· exact rfl); refine call_table (g := gCheck) rfl (check_t (⟨_, _, _, rfl, hl.mono (by first | exact hab4 | exact hab3)⟩ : Its _ (.sl p l.length c ex) l)) ?_)
    | (apply op_call; (· exact rfl); (· exact rfl); (· exact rfl); refine call_table (g := gMay1) rfl (may1_t (obj_here rfl)) ?_)
    | (apply op_call; (· exact rfl); (· exact rfl); (· exact rfl); refine (con67 H _ p c ex l (H.next + 2) H.next (H.next + 1) (.sl p l.length c ex) nx now hor hl hab4 o1 o2 o3 (lo (show H.next + 1 < H.next + 1 + 1 + 1 + 1 by omega)) (lo (show H.next + 2 < H.next + 1 + 1 + 1 + 1 by omega)) (lo (show H.next < H.next + 1 + 1 + 1 + 1 by omega)) (by omega) (by omega) (Nat.le_succ _)).mono ?_; rintro r H1 ⟨rfl, hab5⟩)
    | (apply op_pick_t; (· exact rfl); (· exact rfl); (· (first | with_reducible assumption | with_reducible rfl | decide)); (· exact rfl))
    | (apply op_pick_f; (· exact rfl); (· exact rfl); (· (first | with_reducible assumption | with_reducible rfl | decide)); (· exact rfl))
    | (apply op_store_at; (· exact rfl); (· exact rfl); (· exact rfl); (· exact obj_here rfl); (· exact rfl); (· exact rfl); (· exact rfl))
    | (apply op_load_at; (· exact rfl); (· exact rfl); (· repeat (first | with_reducible assumption | (with_reducible apply obj_here; with_reducible rfl) | with_reducible apply obj_set | (with_reducible apply obj_skip_lo; (· ((repeat (first | with_reducible assumption | with_reducible apply Lo.self | with_reducible apply Lo.new | with_reducible apply Lo.set | with_reducible apply Lo.self1 | with_reducible apply Lo.self2)); done))) | (with_reducible apply obj_past; (· ((first | with_reducible assumption | with_reducible apply ne_add1 | with_reducible apply ne_add1' | with_reducible apply ne_add2 | with_reducible apply ne_add2' | with_reducible apply ne_add12 | with_reducible apply ne_add21 | (with_reducible apply Lo.ne; (repeat (first | with_reducible assumption | with_reducible apply Lo.self | with_reducible apply Lo.new | with_reducible apply Lo.set | with_reducible apply Lo.self1 | with_reducible apply Lo.self2)); done) | (with_reducible apply Lo.ne1; (repeat (first | with_reducible assumption | with_reducible apply Lo.self | with_reducible apply Lo.new | with_reducible apply Lo.set | with_reducible apply Lo.self1 | with_reducible apply Lo.self2)); done) | (with_reducible apply Lo.ne'; (repeat (first | with_reducible assumption | with_reducible apply Lo.self | with_reducible apply Lo.new | with_reducible apply Lo.set | with_reducible apply Lo.self1 | with_reducible apply Lo.self2)); done) | (with_reducible apply Lo.ne1'; (repeat (first | with_reducible assumption | with_reducible apply Lo.self | with_reducible apply Lo.new | with_reducible apply Lo.set | with_reducible apply Lo.self1 | with_reducible apply Lo.self2)); done)); done))) | exact obj_here rfl)); (· exact rfl); (· exact rfl))
    | (apply op_at; (· exact rfl))
    | (apply dwp_cond_t; (· exact rfl); (· (first | with_reducible assumption | with_reducible rfl | decide)))
    | (refine dwp_cond rfl ?_ ?_ <;> intro hb)
    | apply dwp_skip
    | apply dwp_ret
    | (refine ⟨_, rfl, ?_⟩)
    | fail)
  all_goals refine ⟨?_, by first | exact hab5 | exact hab4 | exact hab3⟩
  all_goals simp only [*, Bool.true_or, Bool.or_true, Bool.false_or, Bool.or_false, Bool.not_true, Bool.not_false, if_true, Bool.false_eq_true, if_false]
/-- Is a kernel well made? -/
def gKc : G := fun args H => match args with
  | [.agg [s, .int .u64 nx, .int .i64 now, .int .i64 hor]] => match itemsOf H s with
    | some l => some (.int .i64 (if kOk l nx now hor then 0 else 1), H)
    | none => none
  | _ => none
/-- Has it few things? -/
def gFew : G := fun args H => match args with
  | [.agg [s, .int .u64 nx, .int .i64 now, .int .i64 hor]] => match itemsOf H s with
    | some l => some (.bool (decide ((l.length : Int) ≤ 200)), H)
    | none => none
  | _ => none
def newOk (x : Int) : Bool := !(decide (x < 0) || !mayB x)
/-- A new kernel. -/
def gNew : G := fun args H => match args with
  | [.int .i64 x] => some (.tuple [.agg [.sl none 0 0 true, .int .u64 0, .int .i64 0, .int .i64 (if newOk x then x else 0)], .int .i64 (if newOk x then 0 else 1)], H)
  | _ => none
theorem few35 (H : DH) (p : Option (Nat × Nat × Nat)) (c : Nat) (ex : Bool) (l : List Item) (nx now hor : Int) :
    CallWp Try.prog K2 35 [.agg [.sl p l.length c ex, .int .u64 nx, .int .i64 now, .int .i64 hor]] H (fun r H' => r = .bool (decide ((l.length : Int) ≤ 200)) ∧ Above H H') := by
  refine enter rfl Try.func35 rfl Try.ntmps35 rfl ?_
  dsimp only [List.cons_append, List.nil_append, List.length_cons, List.length_nil, List.replicate_succ, List.replicate_zero, Nat.reduceAdd, Nat.reduceSub]
  repeat' (first
    | dsimp only [putD, DV.cells, DH.new_next, DH.set_next, List.length_cons, List.length_nil, Nat.reduceAdd, List.set_cons_zero, List.set_cons_succ, getD_zero, getD_succ, fieldAt_zero, fieldAt_succ, thenD, blockD, retR]
    | apply dwp_seq
    | apply dwp_region
    | apply ops_nil
    | (apply ops_plain; (· exact rfl))
    | (apply op_load_at; (· exact rfl); (· exact rfl); (· repeat (first | with_reducible assumption | (with_reducible apply obj_here; with_reducible rfl) | with_reducible apply obj_set | (with_reducible apply obj_skip_lo; (· ((repeat (first | with_reducible assumption | with_reducible apply Lo.self | with_reducible apply Lo.new | with_reducible apply Lo.set | with_reducible apply Lo.self1 | with_reducible apply Lo.self2)); done))) | (with_reducible apply obj_past; (· ((first | with_reducible assumption | with_reducible apply ne_add1 | with_reducible apply ne_add1' | with_reducible apply ne_add2 | with_reducible apply ne_add2' | with_reducible apply ne_add12 | with_reducible apply ne_add21 | (with_reducible apply Lo.ne; (repeat (first | with_reducible assumption | with_reducible apply Lo.self | with_reducible apply Lo.new | with_reducible apply Lo.set | with_reducible apply Lo.self1 | with_reducible apply Lo.self2)); done) | (with_reducible apply Lo.ne1; (repeat (first | with_reducible assumption | with_reducible apply Lo.self | with_reducible apply Lo.new | with_reducible apply Lo.set | with_reducible apply Lo.self1 | with_reducible apply Lo.self2)); done) | (with_reducible apply Lo.ne'; (repeat (first | with_reducible assumption | with_reducible apply Lo.self | with_reducible apply Lo.new | with_reducible apply Lo.set | with_reducible apply Lo.self1 | with_reducible apply Lo.self2)); done) | (with_reducible apply Lo.ne1'; (repeat (first | with_reducible assumption | with_reducible apply Lo.self | with_reducible apply Lo.new | with_reducible apply Lo.set | with_reducible apply Lo.self1 | with_reducible apply Lo.self2)); done)); done))) | exact obj_here rfl)); (· exact rfl); (· exact rfl))
    | (apply op_at; (· exact rfl))
    | apply dwp_ret
    | (refine ⟨_, rfl, ?_⟩)
    | fail)
  exact ⟨rfl, (Above.refl H).new _⟩
theorem new46 (H : DH) (x : Int) :
    CallWp Try.prog K2 46 [.int .i64 x] H (fun r H' => r = .tuple [.agg [.sl none 0 0 true, .int .u64 0, .int .i64 0, .int .i64 (if newOk x then x else 0)], .int .i64 (if newOk x then 0 else 1)] ∧ Above H H') := by
  refine enter rfl Try.func46 rfl Try.ntmps46 rfl ?_
  dsimp only [List.cons_append, List.nil_append, List.length_cons, List.length_nil, List.replicate_succ, List.replicate_zero, Nat.reduceAdd, Nat.reduceSub]
  repeat' (first
    | dsimp only [putD, DV.cells, DH.new_next, DH.set_next, List.length_cons, List.length_nil, Nat.reduceAdd, List.set_cons_zero, List.set_cons_succ, getD_zero, getD_succ, fieldAt_zero, fieldAt_succ, thenD, blockD, retR]
    | (refine ⟨_, resOf_ct (loadD_at rfl (by repeat (first | with_reducible assumption | (with_reducible apply obj_here; with_reducible rfl) | with_reducible apply obj_set | (with_reducible apply obj_skip_lo; (· ((repeat (first | with_reducible assumption | with_reducible apply Lo.self | with_reducible apply Lo.new | with_reducible apply Lo.set | with_reducible apply Lo.self1 | with_reducible apply Lo.self2)); done))) | (with_reducible apply obj_past; (· ((first | with_reducible assumption | with_reducible apply ne_add1 | with_reducible apply ne_add1' | with_reducible apply ne_add2 | with_reducible apply ne_add2' | with_reducible apply ne_add12 | with_reducible apply ne_add21 | (with_reducible apply Lo.ne; (repeat (first | with_reducible assumption | with_reducible apply Lo.self | with_reducible apply Lo.new | with_reducible apply Lo.set | with_reducible apply Lo.self1 | with_reducible apply Lo.self2)); done) | (with_reducible apply Lo.ne1; (repeat (first | with_reducible assumption | with_reducible apply Lo.self | with_reducible apply Lo.new | with_reducible apply Lo.set | with_reducible apply Lo.self1 | with_reducible apply Lo.self2)); done) | (with_reducible apply Lo.ne'; (repeat (first | with_reducible assumption | with_reducible apply Lo.self | with_reducible apply Lo.new | with_reducible apply Lo.set | with_reducible apply Lo.self1 | with_reducible apply Lo.self2)); done) | (with_reducible apply Lo.ne1'; (repeat (first | with_reducible assumption | with_reducible apply Lo.self | with_reducible apply Lo.new | with_reducible apply Lo.set | with_reducible apply Lo.self1 | with_reducible apply Lo.self2)); done)); done))) | exact obj_here rfl)) rfl rfl), ?_⟩)
    | apply dwp_seq
    | apply dwp_region
    | apply ops_nil
    | (apply ops_plain; (· exact rfl))
    | (apply ops_on; (· exact rfl); (· exact rfl); (· (first | with_reducible assumption | with_reducible rfl | decide)))
    | (apply ops_off0; (· exact rfl); (· exact rfl); (· (first | with_reducible assumption | with_reducible rfl | decide)))
    | (apply ops_split0; (· exact rfl); (· exact rfl); all_goals intro hb)
    | (apply op_call; (· exact rfl); (· exact rfl); (· exact rfl); refine call_table (g := gMay1) rfl (may1_t (obj_here rfl)) ?_)
    | (apply op_pick_t; (· exact rfl); (· exact rfl); (· (first | with_reducible assumption | with_reducible rfl | decide)); (· exact rfl))
    | (apply op_pick_f; (· exact rfl); (· exact rfl); (· (first | with_reducible assumption | with_reducible rfl | decide)); (· exact rfl))
    | (apply op_store_at; (· exact rfl); (· exact rfl); (· exact rfl); (· repeat (first | with_reducible assumption | (with_reducible apply obj_here; with_reducible rfl) | with_reducible apply obj_set | (with_reducible apply obj_skip_lo; (· ((repeat (first | with_reducible assumption | with_reducible apply Lo.self | with_reducible apply Lo.new | with_reducible apply Lo.set | with_reducible apply Lo.self1 | with_reducible apply Lo.self2)); done))) | (with_reducible apply obj_past; (· ((first | with_reducible assumption | with_reducible apply ne_add1 | with_reducible apply ne_add1' | with_reducible apply ne_add2 | with_reducible apply ne_add2' | with_reducible apply ne_add12 | with_reducible apply ne_add21 | (with_reducible apply Lo.ne; (repeat (first | with_reducible assumption | with_reducible apply Lo.self | with_reducible apply Lo.new | with_reducible apply Lo.set | with_reducible apply Lo.self1 | with_reducible apply Lo.self2)); done) | (with_reducible apply Lo.ne1; (repeat (first | with_reducible assumption | with_reducible apply Lo.self | with_reducible apply Lo.new | with_reducible apply Lo.set | with_reducible apply Lo.self1 | with_reducible apply Lo.self2)); done) | (with_reducible apply Lo.ne'; (repeat (first | with_reducible assumption | with_reducible apply Lo.self | with_reducible apply Lo.new | with_reducible apply Lo.set | with_reducible apply Lo.self1 | with_reducible apply Lo.self2)); done) | (with_reducible apply Lo.ne1'; (repeat (first | with_reducible assumption | with_reducible apply Lo.self | with_reducible apply Lo.new | with_reducible apply Lo.set | with_reducible apply Lo.self1 | with_reducible apply Lo.self2)); done)); done))) | exact obj_here rfl)); (· exact rfl); (· exact rfl); (· exact rfl))
    | (apply op_at; (· exact rfl))
    | (apply dwp_cond_t; (· exact rfl); (· (first | with_reducible assumption | with_reducible rfl | decide)))
    | (refine dwp_cond rfl ?_ ?_ <;> intro hb)
    | apply dwp_skip
    | apply dwp_ret
    | fail)
  all_goals refine ⟨?_, by first | exact ((Above.refl H).new _).set (Nat.le_refl _) _ | exact (((Above.refl H).new _).new _).set (Nat.le_refl _) _⟩
  all_goals unfold newOk
  all_goals simp only [*, Bool.true_or, Bool.or_true, Bool.false_or, Bool.or_false, Bool.not_true, Bool.not_false, if_true, Bool.false_eq_true, if_false]
  all_goals rfl
theorem new47 (H : DH) (x : Int) :
    CallWp Try.prog K2 47 [.int .i64 x] H (fun r H' => r = .tuple [.agg [.sl none 0 0 true, .int .u64 0, .int .i64 0, .int .i64 (if newOk x then x else 0)], .int .i64 (if newOk x then 0 else 1)] ∧ Above H H') := by
  refine enter rfl Try.func47 rfl Try.ntmps47 rfl ?_
  dsimp only [List.cons_append, List.nil_append, List.length_cons, List.length_nil, List.replicate_succ, List.replicate_zero, Nat.reduceAdd, Nat.reduceSub]
  repeat' (first
    | dsimp only [putD, DV.cells, DH.new_next, DH.set_next, List.length_cons, List.length_nil, Nat.reduceAdd, List.set_cons_zero, List.set_cons_succ, getD_zero, getD_succ, fieldAt_zero, fieldAt_succ, thenD, blockD, retR]
    | (refine ⟨_, resOf_ct (loadD_at rfl (by repeat (first | with_reducible assumption | (with_reducible apply obj_here; with_reducible rfl) | with_reducible apply obj_set | (with_reducible apply obj_skip_lo; (· ((repeat (first | with_reducible assumption | with_reducible apply Lo.self | with_reducible apply Lo.new | with_reducible apply Lo.set | with_reducible apply Lo.self1 | with_reducible apply Lo.self2)); done))) | (with_reducible apply obj_past; (· ((first | with_reducible assumption | with_reducible apply ne_add1 | with_reducible apply ne_add1' | with_reducible apply ne_add2 | with_reducible apply ne_add2' | with_reducible apply ne_add12 | with_reducible apply ne_add21 | (with_reducible apply Lo.ne; (repeat (first | with_reducible assumption | with_reducible apply Lo.self | with_reducible apply Lo.new | with_reducible apply Lo.set | with_reducible apply Lo.self1 | with_reducible apply Lo.self2)); done) | (with_reducible apply Lo.ne1; (repeat (first | with_reducible assumption | with_reducible apply Lo.self | with_reducible apply Lo.new | with_reducible apply Lo.set | with_reducible apply Lo.self1 | with_reducible apply Lo.self2)); done) | (with_reducible apply Lo.ne'; (repeat (first | with_reducible assumption | with_reducible apply Lo.self | with_reducible apply Lo.new | with_reducible apply Lo.set | with_reducible apply Lo.self1 | with_reducible apply Lo.self2)); done) | (with_reducible apply Lo.ne1'; (repeat (first | with_reducible assumption | with_reducible apply Lo.self | with_reducible apply Lo.new | with_reducible apply Lo.set | with_reducible apply Lo.self1 | with_reducible apply Lo.self2)); done)); done))) | exact obj_here rfl)) rfl rfl), ?_⟩)
    | apply dwp_seq
    | apply dwp_region
    | apply ops_nil
    | (apply ops_plain; (· exact rfl))
    | (apply ops_on; (· exact rfl); (· exact rfl); (· (first | with_reducible assumption | with_reducible rfl | decide)))
    | (apply ops_off0; (· exact rfl); (· exact rfl); (· (first | with_reducible assumption | with_reducible rfl | decide)))
    | (apply ops_split0; (· exact rfl); (· exact rfl); all_goals intro hb)
    | (apply op_call; (· exact rfl); (· exact rfl); (· exact rfl); refine call_table (g := gMay2) rfl (may2_t (obj_here rfl)) ?_)
    | (apply op_pick_t; (· exact rfl); (· exact rfl); (· (first | with_reducible assumption | with_reducible rfl | decide)); (· exact rfl))
    | (apply op_pick_f; (· exact rfl); (· exact rfl); (· (first | with_reducible assumption | with_reducible rfl | decide)); (· exact rfl))
    | (apply op_store_at; (· exact rfl); (· exact rfl); (· exact rfl); (· repeat (first | with_reducible assumption | (with_reducible apply obj_here; with_reducible rfl) | with_reducible apply obj_set | (with_reducible apply obj_skip_lo; (· ((repeat (first | with_reducible assumption | with_reducible apply Lo.self | with_reducible apply Lo.new | with_reducible apply Lo.set | with_reducible apply Lo.self1 | with_reducible apply Lo.self2)); done))) | (with_reducible apply obj_past; (· ((first | with_reducible assumption | with_reducible apply ne_add1 | with_reducible apply ne_add1' | with_reducible apply ne_add2 | with_reducible apply ne_add2' | with_reducible apply ne_add12 | with_reducible apply ne_add21 | (with_reducible apply Lo.ne; (repeat (first | with_reducible assumption | with_reducible apply Lo.self | with_reducible apply Lo.new | with_reducible apply Lo.set | with_reducible apply Lo.self1 | with_reducible apply Lo.self2)); done) | (with_reducible apply Lo.ne1; (repeat (first | with_reducible assumption | with_reducible apply Lo.self | with_reducible apply Lo.new | with_reducible apply Lo.set | with_reducible apply Lo.self1 | with_reducible apply Lo.self2)); done) | (with_reducible apply Lo.ne'; (repeat (first | with_reducible assumption | with_reducible apply Lo.self | with_reducible apply Lo.new | with_reducible apply Lo.set | with_reducible apply Lo.self1 | with_reducible apply Lo.self2)); done) | (with_reducible apply Lo.ne1'; (repeat (first | with_reducible assumption | with_reducible apply Lo.self | with_reducible apply Lo.new | with_reducible apply Lo.set | with_reducible apply Lo.self1 | with_reducible apply Lo.self2)); done)); done))) | exact obj_here rfl)); (· exact rfl); (· exact rfl); (· exact rfl))
    | (apply op_at; (· exact rfl))
    | (apply dwp_cond_t; (· exact rfl); (· (first | with_reducible assumption | with_reducible rfl | decide)))
    | (refine dwp_cond rfl ?_ ?_ <;> intro hb)
    | apply dwp_skip
    | apply dwp_ret
    | fail)
  all_goals refine ⟨?_, by first | exact ((Above.refl H).new _).set (Nat.le_refl _) _ | exact (((Above.refl H).new _).new _).set (Nat.le_refl _) _⟩
  all_goals unfold newOk
  all_goals simp only [*, Bool.true_or, Bool.or_true, Bool.false_or, Bool.or_false, Bool.not_true, Bool.not_false, if_true, Bool.false_eq_true, if_false]
  all_goals rfl
theorem ok49 : ExtSound Try.prog gKc 49 := ext_read okK2 Try.func49 rfl rfl (by
  intro args H r H' hw h
  unfold gKc at h
  split at h
  · split at h
    · rename_i l hl
      cases h
      obtain ⟨p, c, ex, rfl, hi⟩ := items_it hw hl
      exact ⟨rfl, rfl, (check49 H p c ex l _ _ _ hi).mono fun r' H1 ⟨h1, h2⟩ => ⟨h1, h2⟩⟩
    · cases h
  · cases h)
theorem ok52 : ExtSound Try.prog gKc 52 := ext_read okK2 Try.func52 rfl rfl (by
  intro args H r H' hw h
  unfold gKc at h
  split at h
  · split at h
    · rename_i l hl
      cases h
      obtain ⟨p, c, ex, rfl, hi⟩ := items_it hw hl
      exact ⟨rfl, rfl, (check52 H p c ex l _ _ _ hi).mono fun r' H1 ⟨h1, h2⟩ => ⟨h1, h2⟩⟩
    · cases h
  · cases h)
theorem ok35 : ExtSound Try.prog gFew 35 := ext_read okK2 Try.func35 rfl rfl (by
  intro args H r H' hw h
  unfold gFew at h
  split at h
  · split at h
    · rename_i l hl
      cases h
      obtain ⟨p, c, ex, rfl, hi⟩ := items_it hw hl
      exact ⟨rfl, rfl, (few35 H p c ex l _ _ _).mono fun r' H1 ⟨h1, h2⟩ => ⟨h1, h2⟩⟩
    · cases h
  · cases h)
theorem ok46 : ExtSound Try.prog gNew 46 := ext_read okK2 Try.func46 rfl rfl (by
  intro args H r H' hw h
  unfold gNew at h
  split at h
  · cases h
    exact ⟨rfl, rfl, (new46 H _).mono fun r' H1 ⟨h1, h2⟩ => ⟨h1, h2⟩⟩
  · cases h)
theorem ok47 : ExtSound Try.prog gNew 47 := ext_read okK2 Try.func47 rfl rfl (by
  intro args H r H' hw h
  unfold gNew at h
  split at h
  · cases h
    exact ⟨rfl, rfl, (new47 H _).mono fun r' H1 ⟨h1, h2⟩ => ⟨h1, h2⟩⟩
  · cases h)
/-- Check, Few, New told by tables too. -/
def T3 : List (FuncId × G) := (49, gKc) :: (52, gKc) :: (35, gFew) :: (46, gNew) :: (47, gNew) :: T2
theorem okT3 : ∀ f g, (f, g) ∈ T3 ++ E4 → ExtSound Try.prog g f := by
  intro f g h
  simp only [T3, List.cons_append, List.mem_cons] at h
  rcases h with h | h | h | h | h | h
  · cases h; exact ok49
  · cases h; exact ok52
  · cases h; exact ok35
  · cases h; exact ok46
  · cases h; exact ok47
  · exact okT2 f g h
def K3 : Ext := Xof ([44, 45, 48, 39] ++ L) (T3 ++ E4)
theorem okK3 : ProgOk Try.prog K3 := progOk_of2 mixed (okM (by decide +kernel)) push_code okT3
theorem upK3 : ExtLe X4 K3 := extLe_more (by decide +kernel)
theorem kc_t {H : DH} {s : DV} {l : List Item} {nx now hor : Int} (h : Its H s l) : gKc [.agg [s, .int .u64 nx, .int .i64 now, .int .i64 hor]] H = some (.int .i64 (if kOk l nx now hor then 0 else 1), H) := by
  obtain ⟨p, c, ex, rfl, hl⟩ := h
  simp only [gKc, hl.of]
end Go.Det.Q

/- Kernels: what comes next; are two alike? -/
namespace Go.Det.Q
open Go Go.Det Go.Proofs
set_option maxRecDepth 4000
set_option maxHeartbeats 4000000
set_option linter.unusedVariables false
set_option linter.unusedSimpArgs false
def peekE (l : List Item) (nx now hor : Int) : Int := if kOk l nx now hor then (if l = [] then 8 else 0) else 1
def peekX (l : List Item) (nx now hor : Int) : Item := if peekE l nx now hor = 0 then g l 0 else zeroI
theorem kOk_check {l : List Item} {nx now hor : Int} (h : kOk l nx now hor = true) : checkB l = true := by
  rw [kOk_eq] at h
  cases hc : checkB l with
  | true => rfl
  | false => rw [hc] at h; simp at h
theorem kOk_len {l : List Item} {nx now hor : Int} (h : kOk l nx now hor = true) : l.length ≤ 4096 := (checkB_heap.mp (kOk_check h)).2
section
variable (H : DH) (p : Option (Nat × Nat × Nat)) (c : Nat) (ex : Bool) (l : List Item) (nx now hor : Int) (hl : It H p c ex l)
include hl in
theorem peek44 : CallWp Try.prog K3 44 [.agg [.sl p l.length c ex, .int .u64 nx, .int .i64 now, .int .i64 hor]] H (fun r H' => r = .tuple [.agg (peekX l nx now hor).cells, .int .i64 (peekE l nx now hor)] ∧ Above H H') := by
  have hab2 : ∀ {a b : DObj}, Above H ((H.new a).new b) := fun {a b} => ((Above.refl H).new _).new _
  have hup : ∀ {a b : DObj} {o : Option DObj}, Above H (((H.new a).new b).set (H.next + 1) o) := fun {a b o} => hab2.set (Nat.le_succ _) _
  cases hk : kOk l nx now hor with
  | false =>
    have hE : peekE l nx now hor = 1 := by unfold peekE; rw [hk]; rfl
    have hX : peekX l nx now hor = zeroI := by unfold peekX; rw [hE]; rfl
    rw [hE, hX]
    refine enter rfl Try.func44 rfl Try.ntmps44 rfl ?_
    dsimp only [List.cons_append, List.nil_append, List.length_cons, List.length_nil, List.replicate_succ, List.replicate_zero, Nat.reduceAdd, Nat.reduceSub]
    repeat' (first
      | dsimp only [putD, DV.cells, DH.new_next, DH.set_next, List.length_cons, List.length_nil, Nat.reduceAdd, List.set_cons_zero, List.set_cons_succ, getD_zero, getD_succ, fieldAt_zero, fieldAt_succ, thenD, blockD, retR]
      | (refine ⟨_, resOf_ct (loadD_at rfl (by repeat (first | with_reducible assumption | (with_reducible apply obj_here; with_reducible rfl) | with_reducible apply obj_set | (with_reducible apply obj_skip_lo; (· ((repeat (first | with_reducible assumption | with_reducible apply Lo.self | with_reducible apply Lo.new | with_reducible apply Lo.set | with_reducible apply Lo.self1 | with_reducible apply Lo.self2)); done))) | (with_reducible apply obj_past; (· ((first | with_reducible assumption | with_reducible apply ne_add1 | with_reducible apply ne_add1' | with_reducible apply ne_add2 | with_reducible apply ne_add2' | with_reducible apply ne_add12 | with_reducible apply ne_add21 | (with_reducible apply Lo.ne; (repeat (first | with_reducible assumption | with_reducible apply Lo.self | with_reducible apply Lo.new | with_reducible apply Lo.set | with_reducible apply Lo.self1 | with_reducible apply Lo.self2)); done) | (with_reducible apply Lo.ne1; (repeat (first | with_reducible assumption | with_reducible apply Lo.self | with_reducible apply Lo.new | with_reducible apply Lo.set | with_reducible apply Lo.self1 | with_reducible apply Lo.self2)); done) | (with_reducible apply Lo.ne'; (repeat (first | with_reducible assumption | with_reducible apply Lo.self | with_reducible apply Lo.new | with_reducible apply Lo.set | with_reducible apply Lo.self1 | with_reducible apply Lo.self2)); done) | (with_reducible apply Lo.ne1'; (repeat (first | with_reducible assumption | with_reducible apply Lo.self | with_reducible apply Lo.new | with_reducible apply Lo.set | with_reducible apply Lo.self1 | with_reducible apply Lo.self2)); done)); done))) | exact obj_here rfl)) rfl rfl), ?_⟩)
      | apply dwp_seq
      | apply dwp_region
      | apply ops_nil
      | (apply ops_plain; (· exact rfl))
      | (apply op_call; (· exact rfl); (· exact rfl); (· exact rfl); refine call_table (g := gKc) rfl (kc_t (⟨_, _, _, rfl, hl.mono hab2⟩ : Its _ (.sl p l.length c ex) l)) ?_; rw [hk, if_neg Bool.false_ne_true])
      | (apply op_store_at; (· exact rfl); (· exact rfl); (· exact rfl); (· exact obj_here rfl); (· exact rfl); (· exact rfl); (· exact rfl))
      | (apply op_load_at; (· exact rfl); (· exact rfl); (· repeat (first | with_reducible assumption | (with_reducible apply obj_here; with_reducible rfl) | with_reducible apply obj_set | (with_reducible apply obj_skip_lo; (· ((repeat (first | with_reducible assumption | with_reducible apply Lo.self | with_reducible apply Lo.new | with_reducible apply Lo.set | with_reducible apply Lo.self1 | with_reducible apply Lo.self2)); done))) | (with_reducible apply obj_past; (· ((first | with_reducible assumption | with_reducible apply ne_add1 | with_reducible apply ne_add1' | with_reducible apply ne_add2 | with_reducible apply ne_add2' | with_reducible apply ne_add12 | with_reducible apply ne_add21 | (with_reducible apply Lo.ne; (repeat (first | with_reducible assumption | with_reducible apply Lo.self | with_reducible apply Lo.new | with_reducible apply Lo.set | with_reducible apply Lo.self1 | with_reducible apply Lo.self2)); done) | (with_reducible apply Lo.ne1; (repeat (first | with_reducible assumption | with_reducible apply Lo.self | with_reducible apply Lo.new | with_reducible apply Lo.set | with_reducible apply Lo.self1 | with_reducible apply Lo.self2)); done) | (with_reducible apply Lo.ne'; (repeat (first | with_reducible assumption | with_reducible apply Lo.self | with_reducible apply Lo.new | with_reducible apply Lo.set | with_reducible apply Lo.self1 | with_reducible apply Lo.self2)); done) | (with_reducible apply Lo.ne1'; (repeat (first | with_reducible assumption | with_reducible apply Lo.self | with_reducible apply Lo.new | with_reducible apply Lo.set | with_reducible apply Lo.self1 | with_reducible apply Lo.self2)); done)); done))) | exact obj_here rfl)); (· exact rfl); (· exact rfl))
      | (apply op_at; (· exact rfl))
      | (apply dwp_cond_t; (· exact rfl); (· (first | with_reducible assumption | with_reducible rfl | decide)))
      | apply dwp_ret
      | fail)
    exact ⟨rfl, hup⟩
  | true =>
    by_cases h0 : l.length = 0
    · have hc : ((l.length : Int) == 0) = true := by simp [h0]
      have he := List.length_eq_zero_iff.mp h0
      have hE : peekE l nx now hor = 8 := by unfold peekE; rw [hk, if_pos rfl, if_pos he]
      have hX : peekX l nx now hor = zeroI := by unfold peekX; rw [hE]; rfl
      rw [hE, hX]
      refine enter rfl Try.func44 rfl Try.ntmps44 rfl ?_
      dsimp only [List.cons_append, List.nil_append, List.length_cons, List.length_nil, List.replicate_succ, List.replicate_zero, Nat.reduceAdd, Nat.reduceSub]
      repeat' (first
        | dsimp only [putD, DV.cells, DH.new_next, DH.set_next, List.length_cons, List.length_nil, Nat.reduceAdd, List.set_cons_zero, List.set_cons_succ, getD_zero, getD_succ, fieldAt_zero, fieldAt_succ, thenD, blockD, retR]
        | (refine ⟨_, resOf_ct (loadD_at rfl (by repeat (first | with_reducible assumption | (with_reducible apply obj_here; with_reducible rfl) | with_reducible apply obj_set | (with_reducible apply obj_skip_lo; (· ((repeat (first | with_reducible assumption | with_reducible apply Lo.self | with_reducible apply Lo.new | with_reducible apply Lo.set | with_reducible apply Lo.self1 | with_reducible apply Lo.self2)); done))) | (with_reducible apply obj_past; (· ((first | with_reducible assumption | with_reducible apply ne_add1 | with_reducible apply ne_add1' | with_reducible apply ne_add2 | with_reducible apply ne_add2' | with_reducible apply ne_add12 | with_reducible apply ne_add21 | (with_reducible apply Lo.ne; (repeat (first | with_reducible assumption | with_reducible apply Lo.self | with_reducible apply Lo.new | with_reducible apply Lo.set | with_reducible apply Lo.self1 | with_reducible apply Lo.self2)); done) | (with_reducible apply Lo.ne1; (repeat (first | with_reducible assumption | with_reducible apply Lo.self | with_reducible apply Lo.new | with_reducible apply Lo.set | with_reducible apply Lo.self1 | with_reducible apply Lo.self2)); done) | (with_reducible apply Lo.ne'; (repeat (first | with_reducible assumption | with_reducible apply Lo.self | with_reducible apply Lo.new | with_reducible apply Lo.set | with_reducible apply Lo.self1 | with_reducible apply Lo.self2)); done) | (with_reducible apply Lo.ne1'; (repeat (first | with_reducible assumption | with_reducible apply Lo.self | with_reducible apply Lo.new | with_reducible apply Lo.set | with_reducible apply Lo.self1 | with_reducible apply Lo.self2)); done)); done))) | exact obj_here rfl)) rfl rfl), ?_⟩)
        | apply dwp_seq
        | apply dwp_region
        | apply ops_nil
        | (apply ops_plain; (· exact rfl))
        | (apply op_call; (· exact rfl); (· exact rfl); (· exact rfl); refine call_table (g := gKc) rfl (kc_t (⟨_, _, _, rfl, hl.mono hab2⟩ : Its _ (.sl p l.length c ex) l)) ?_; rw [hk, if_pos rfl])
        | (apply op_store_at; (· exact rfl); (· exact rfl); (· exact rfl); (· exact obj_here rfl); (· exact rfl); (· exact rfl); (· exact rfl))
        | (apply op_load_at; (· exact rfl); (· exact rfl); (· repeat (first | with_reducible assumption | (with_reducible apply obj_here; with_reducible rfl) | with_reducible apply obj_set | (with_reducible apply obj_skip_lo; (· ((repeat (first | with_reducible assumption | with_reducible apply Lo.self | with_reducible apply Lo.new | with_reducible apply Lo.set | with_reducible apply Lo.self1 | with_reducible apply Lo.self2)); done))) | (with_reducible apply obj_past; (· ((first | with_reducible assumption | with_reducible apply ne_add1 | with_reducible apply ne_add1' | with_reducible apply ne_add2 | with_reducible apply ne_add2' | with_reducible apply ne_add12 | with_reducible apply ne_add21 | (with_reducible apply Lo.ne; (repeat (first | with_reducible assumption | with_reducible apply Lo.self | with_reducible apply Lo.new | with_reducible apply Lo.set | with_reducible apply Lo.self1 | with_reducible apply Lo.self2)); done) | (with_reducible apply Lo.ne1; (repeat (first | with_reducible assumption | with_reducible apply Lo.self | with_reducible apply Lo.new | with_reducible apply Lo.set | with_reducible apply Lo.self1 | with_reducible apply Lo.self2)); done) | (with_reducible apply Lo.ne'; (repeat (first | with_reducible assumption | with_reducible apply Lo.self | with_reducible apply Lo.new | with_reducible apply Lo.set | with_reducible apply Lo.self1 | with_reducible apply Lo.self2)); done) | (with_reducible apply Lo.ne1'; (repeat (first | with_reducible assumption | with_reducible apply Lo.self | with_reducible apply Lo.new | with_reducible apply Lo.set | with_reducible apply Lo.self1 | with_reducible apply Lo.self2)); done)); done))) | exact obj_here rfl)); (· exact rfl); (· exact rfl))
        | (apply op_at; (· exact rfl))
        | (apply dwp_cond_t; (· exact rfl); (· (first | with_reducible assumption | with_reducible rfl | decide)))
        | (apply dwp_cond_f; (· exact rfl); (· (first | with_reducible assumption | with_reducible rfl | decide)))
        | apply dwp_skip
        | apply dwp_ret
        | fail)
      exact ⟨rfl, hup⟩
    · have hc : ((l.length : Int) == 0) = false := by simp only [beq_eq_false_iff_ne]; omega
      have hE : peekE l nx now hor = 0 := by unfold peekE; rw [hk, if_pos rfl, if_neg (fun e => h0 (by rw [e]; rfl))]
      have hX : peekX l nx now hor = g l 0 := by unfold peekX; rw [hE]; rfl
      rw [hE, hX]
      have hx : l[0]? = some (g l 0) := g_at (by omega)
      obtain ⟨loc, i0, ro, rs, rfl, hloc, ho, hrx⟩ := hl.rd hx
      have ho' : ∀ {a b : DObj}, ((H.new a).new b).obj loc = some (.rows ro 6 rs) := fun {a b} => hab2.obj hloc ho
      have hr1 : rs[i0 + ((0 : Int)).toNat]? = some (g l 0).cells := hrx
      have hin1 : 0 ≤ (0 : Int) ∧ (0 : Int) < (l.length : Int) := by omega
      have hk' := hk
      refine enter rfl Try.func44 rfl Try.ntmps44 rfl ?_
      dsimp only [List.cons_append, List.nil_append, List.length_cons, List.length_nil, List.replicate_succ, List.replicate_zero, Nat.reduceAdd, Nat.reduceSub]
      repeat' (first
        | dsimp only [putD, DV.cells, DH.new_next, DH.set_next, List.length_cons, List.length_nil, Nat.reduceAdd, List.set_cons_zero, List.set_cons_succ, getD_zero, getD_succ, fieldAt_zero, fieldAt_succ, thenD, blockD, retR]
        | (refine ⟨_, resOf_ct (loadD_at rfl (by repeat (first | with_reducible assumption | (with_reducible apply obj_here; with_reducible rfl) | with_reducible apply obj_set | (with_reducible apply obj_skip_lo; (· ((repeat (first | with_reducible assumption | with_reducible apply Lo.self | with_reducible apply Lo.new | with_reducible apply Lo.set | with_reducible apply Lo.self1 | with_reducible apply Lo.self2)); done))) | (with_reducible apply obj_past; (· ((first | with_reducible assumption | with_reducible apply ne_add1 | with_reducible apply ne_add1' | with_reducible apply ne_add2 | with_reducible apply ne_add2' | with_reducible apply ne_add12 | with_reducible apply ne_add21 | (with_reducible apply Lo.ne; (repeat (first | with_reducible assumption | with_reducible apply Lo.self | with_reducible apply Lo.new | with_reducible apply Lo.set | with_reducible apply Lo.self1 | with_reducible apply Lo.self2)); done) | (with_reducible apply Lo.ne1; (repeat (first | with_reducible assumption | with_reducible apply Lo.self | with_reducible apply Lo.new | with_reducible apply Lo.set | with_reducible apply Lo.self1 | with_reducible apply Lo.self2)); done) | (with_reducible apply Lo.ne'; (repeat (first | with_reducible assumption | with_reducible apply Lo.self | with_reducible apply Lo.new | with_reducible apply Lo.set | with_reducible apply Lo.self1 | with_reducible apply Lo.self2)); done) | (with_reducible apply Lo.ne1'; (repeat (first | with_reducible assumption | with_reducible apply Lo.self | with_reducible apply Lo.new | with_reducible apply Lo.set | with_reducible apply Lo.self1 | with_reducible apply Lo.self2)); done)); done))) | exact obj_here rfl)) rfl rfl), ?_⟩)
        | apply dwp_seq
        | apply dwp_region
        | apply ops_nil
        | (apply ops_plain; (· exact rfl))
        | (apply op_call; (· exact rfl); (· exact rfl); (· exact rfl); refine call_table (g := gKc) rfl (kc_t (⟨_, _, _, rfl, hl.mono hab2⟩ : Its _ (.sl (some (loc, i0, 6)) l.length c ex) l)) ?_; rw [hk, if_pos rfl])
        | (apply op_store_at; (· exact rfl); (· exact rfl); (· exact rfl); (· exact obj_here rfl); (· exact rfl); (· exact rfl); (· exact rfl))
        | (apply op_index_at; (· exact rfl); (· exact rfl); (· exact rfl); (· with_reducible exact hin1); (· exact rfl); (· exact rfl))
        | (apply op_load_at; (· exact rfl); (· exact rfl); (· with_reducible exact ho'); (· with_reducible exact hr1); (· exact (item_part (g l 0))))
        | (apply op_load_at; (· exact rfl); (· exact rfl); (· repeat (first | with_reducible assumption | (with_reducible apply obj_here; with_reducible rfl) | with_reducible apply obj_set | (with_reducible apply obj_skip_lo; (· ((repeat (first | with_reducible assumption | with_reducible apply Lo.self | with_reducible apply Lo.new | with_reducible apply Lo.set | with_reducible apply Lo.self1 | with_reducible apply Lo.self2)); done))) | (with_reducible apply obj_past; (· ((first | with_reducible assumption | with_reducible apply ne_add1 | with_reducible apply ne_add1' | with_reducible apply ne_add2 | with_reducible apply ne_add2' | with_reducible apply ne_add12 | with_reducible apply ne_add21 | (with_reducible apply Lo.ne; (repeat (first | with_reducible assumption | with_reducible apply Lo.self | with_reducible apply Lo.new | with_reducible apply Lo.set | with_reducible apply Lo.self1 | with_reducible apply Lo.self2)); done) | (with_reducible apply Lo.ne1; (repeat (first | with_reducible assumption | with_reducible apply Lo.self | with_reducible apply Lo.new | with_reducible apply Lo.set | with_reducible apply Lo.self1 | with_reducible apply Lo.self2)); done) | (with_reducible apply Lo.ne'; (repeat (first | with_reducible assumption | with_reducible apply Lo.self | with_reducible apply Lo.new | with_reducible apply Lo.set | with_reducible apply Lo.self1 | with_reducible apply Lo.self2)); done) | (with_reducible apply Lo.ne1'; (repeat (first | with_reducible assumption | with_reducible apply Lo.self | with_reducible apply Lo.new | with_reducible apply Lo.set | with_reducible apply Lo.self1 | with_reducible apply Lo.self2)); done)); done))) | exact obj_here rfl)); (· exact rfl); (· exact rfl))
        | (apply op_at; (· exact rfl))
        | (apply dwp_cond_f; (· exact rfl); (· (first | with_reducible assumption | with_reducible rfl | decide)))
        | apply dwp_skip
        | apply dwp_ret
        | fail)
      exact ⟨rfl, hup⟩
include hl in
theorem peek45 : CallWp Try.prog K3 45 [.agg [.sl p l.length c ex, .int .u64 nx, .int .i64 now, .int .i64 hor]] H (fun r H' => r = .tuple [.agg (peekX l nx now hor).cells, .int .i64 (peekE l nx now hor)] ∧ Above H H') := by
  have hab2 : ∀ {a b : DObj}, Above H ((H.new a).new b) := fun {a b} => ((Above.refl H).new _).new _
  have hup : ∀ {a b : DObj} {o : Option DObj}, Above H (((H.new a).new b).set (H.next + 1) o) := fun {a b o} => hab2.set (Nat.le_succ _) _
  cases hk : kOk l nx now hor with
  | false =>
    have hE : peekE l nx now hor = 1 := by unfold peekE; rw [hk]; rfl
    have hX : peekX l nx now hor = zeroI := by unfold peekX; rw [hE]; rfl
    rw [hE, hX]
    refine enter rfl Try.func45 rfl Try.ntmps45 rfl ?_
    dsimp only [List.cons_append, List.nil_append, List.length_cons, List.length_nil, List.replicate_succ, List.replicate_zero, Nat.reduceAdd, Nat.reduceSub]
    repeat' (first
      | dsimp only [putD, DV.cells, DH.new_next, DH.set_next, List.length_cons, List.length_nil, Nat.reduceAdd, List.set_cons_zero, List.set_cons_succ, getD_zero, getD_succ, fieldAt_zero, fieldAt_succ, thenD, blockD, retR]
      | (refine ⟨_, resOf_ct (loadD_at rfl (by repeat (first | with_reducible assumption | (with_reducible apply obj_here; with_reducible rfl) | with_reducible apply obj_set | (with_reducible apply obj_skip_lo; (· ((repeat (first | with_reducible assumption | with_reducible apply Lo.self | with_reducible apply Lo.new | with_reducible apply Lo.set | with_reducible apply Lo.self1 | with_reducible apply Lo.self2)); done))) | (with_reducible apply obj_past; (· ((first | with_reducible assumption | with_reducible apply ne_add1 | with_reducible apply ne_add1' | with_reducible apply ne_add2 | with_reducible apply ne_add2' | with_reducible apply ne_add12 | with_reducible apply ne_add21 | (with_reducible apply Lo.ne; (repeat (first | with_reducible assumption | with_reducible apply Lo.self | with_reducible apply Lo.new | with_reducible apply Lo.set | with_reducible apply Lo.self1 | with_reducible apply Lo.self2)); done) | (with_reducible apply Lo.ne1; (repeat (first | with_reducible assumption | with_reducible apply Lo.self | with_reducible apply Lo.new | with_reducible apply Lo.set | with_reducible apply Lo.self1 | with_reducible apply Lo.self2)); done) | (with_reducible apply Lo.ne'; (repeat (first | with_reducible assumption | with_reducible apply Lo.self | with_reducible apply Lo.new | with_reducible apply Lo.set | with_reducible apply Lo.self1 | with_reducible apply Lo.self2)); done) | (with_reducible apply Lo.ne1'; (repeat (first | with_reducible assumption | with_reducible apply Lo.self | with_reducible apply Lo.new | with_reducible apply Lo.set | with_reducible apply Lo.self1 | with_reducible apply Lo.self2)); done)); done))) | exact obj_here rfl)) rfl rfl), ?_⟩)
      | apply dwp_seq
      | apply dwp_region
      | apply ops_nil
      | (apply ops_plain; (· exact rfl))
      | (apply op_call; (· exact rfl); (· exact rfl); (· exact rfl); refine call_table (g := gKc) rfl (kc_t (⟨_, _, _, rfl, hl.mono hab2⟩ : Its _ (.sl p l.length c ex) l)) ?_; rw [hk, if_neg Bool.false_ne_true])
      | (apply op_store_at; (· exact rfl); (· exact rfl); (· exact rfl); (· exact obj_here rfl); (· exact rfl); (· exact rfl); (· exact rfl))
      | (apply op_load_at; (· exact rfl); (· exact rfl); (· repeat (first | with_reducible assumption | (with_reducible apply obj_here; with_reducible rfl) | with_reducible apply obj_set | (with_reducible apply obj_skip_lo; (· ((repeat (first | with_reducible assumption | with_reducible apply Lo.self | with_reducible apply Lo.new | with_reducible apply Lo.set | with_reducible apply Lo.self1 | with_reducible apply Lo.self2)); done))) | (with_reducible apply obj_past; (· ((first | with_reducible assumption | with_reducible apply ne_add1 | with_reducible apply ne_add1' | with_reducible apply ne_add2 | with_reducible apply ne_add2' | with_reducible apply ne_add12 | with_reducible apply ne_add21 | (with_reducible apply Lo.ne; (repeat (first | with_reducible assumption | with_reducible apply Lo.self | with_reducible apply Lo.new | with_reducible apply Lo.set | with_reducible apply Lo.self1 | with_reducible apply Lo.self2)); done) | (with_reducible apply Lo.ne1; (repeat (first | with_reducible assumption | with_reducible apply Lo.self | with_reducible apply Lo.new | with_reducible apply Lo.set | with_reducible apply Lo.self1 | with_reducible apply Lo.self2)); done) | (with_reducible apply Lo.ne'; (repeat (first | with_reducible assumption | with_reducible apply Lo.self | with_reducible apply Lo.new | with_reducible apply Lo.set | with_reducible apply Lo.self1 | with_reducible apply Lo.self2)); done) | (with_reducible apply Lo.ne1'; (repeat (first | with_reducible assumption | with_reducible apply Lo.self | with_reducible apply Lo.new | with_reducible apply Lo.set | with_reducible apply Lo.self1 | with_reducible apply Lo.self2)); done)); done))) | exact obj_here rfl)); (· exact rfl); (· exact rfl))
      | (apply op_at; (· exact rfl))
      | (apply dwp_cond_t; (· exact rfl); (· (first | with_reducible assumption | with_reducible rfl | decide)))
      | apply dwp_ret
      | fail)
    exact ⟨rfl, hup⟩
  | true =>
    by_cases h0 : l.length = 0
    · have hc : ((l.length : Int) == 0) = true := by simp [h0]
      have he := List.length_eq_zero_iff.mp h0
      have hE : peekE l nx now hor = 8 := by unfold peekE; rw [hk, if_pos rfl, if_pos he]
      have hX : peekX l nx now hor = zeroI := by unfold peekX; rw [hE]; rfl
      rw [hE, hX]
      refine enter rfl Try.func45 rfl Try.ntmps45 rfl ?_
      dsimp only [List.cons_append, List.nil_append, List.length_cons, List.length_nil, List.replicate_succ, List.replicate_zero, Nat.reduceAdd, Nat.reduceSub]
      repeat' (first
        | dsimp only [putD, DV.cells, DH.new_next, DH.set_next, List.length_cons, List.length_nil, Nat.reduceAdd, List.set_cons_zero, List.set_cons_succ, getD_zero, getD_succ, fieldAt_zero, fieldAt_succ, thenD, blockD, retR]
        | (refine ⟨_, resOf_ct (loadD_at rfl (by repeat (first | with_reducible assumption | (with_reducible apply obj_here; with_reducible rfl) | with_reducible apply obj_set | (with_reducible apply obj_skip_lo; (· ((repeat (first | with_reducible assumption | with_reducible apply Lo.self | with_reducible apply Lo.new | with_reducible apply Lo.set | with_reducible apply Lo.self1 | with_reducible apply Lo.self2)); done))) | (with_reducible apply obj_past; (· ((first | with_reducible assumption | with_reducible apply ne_add1 | with_reducible apply ne_add1' | with_reducible apply ne_add2 | with_reducible apply ne_add2' | with_reducible apply ne_add12 | with_reducible apply ne_add21 | (with_reducible apply Lo.ne; (repeat (first | with_reducible assumption | with_reducible apply Lo.self | with_reducible apply Lo.new | with_reducible apply Lo.set | with_reducible apply Lo.self1 | with_reducible apply Lo.self2)); done) | (with_reducible apply Lo.ne1; (repeat (first | with_reducible assumption | with_reducible apply Lo.self | with_reducible apply Lo.new | with_reducible apply Lo.set | with_reducible apply Lo.self1 | with_reducible apply Lo.self2)); done) | (with_reducible apply Lo.ne'; (repeat (first | with_reducible assumption | with_reducible apply Lo.self | with_reducible apply Lo.new | with_reducible apply Lo.set | with_reducible apply Lo.self1 | with_reducible apply Lo.self2)); done) | (with_reducible apply Lo.ne1'; (repeat (first | with_reducible assumption | with_reducible apply Lo.self | with_reducible apply Lo.new | with_reducible apply Lo.set | with_reducible apply Lo.self1 | with_reducible apply Lo.self2)); done)); done))) | exact obj_here rfl)) rfl rfl), ?_⟩)
        | apply dwp_seq
        | apply dwp_region
        | apply ops_nil
        | (apply ops_plain; (· exact rfl))
        | (apply op_call; (· exact rfl); (· exact rfl); (· exact rfl); refine call_table (g := gKc) rfl (kc_t (⟨_, _, _, rfl, hl.mono hab2⟩ : Its _ (.sl p l.length c ex) l)) ?_; rw [hk, if_pos rfl])
        | (apply op_store_at; (· exact rfl); (· exact rfl); (· exact rfl); (· exact obj_here rfl); (· exact rfl); (· exact rfl); (· exact rfl))
        | (apply op_load_at; (· exact rfl); (· exact rfl); (· repeat (first | with_reducible assumption | (with_reducible apply obj_here; with_reducible rfl) | with_reducible apply obj_set | (with_reducible apply obj_skip_lo; (· ((repeat (first | with_reducible assumption | with_reducible apply Lo.self | with_reducible apply Lo.new | with_reducible apply Lo.set | with_reducible apply Lo.self1 | with_reducible apply Lo.self2)); done))) | (with_reducible apply obj_past; (· ((first | with_reducible assumption | with_reducible apply ne_add1 | with_reducible apply ne_add1' | with_reducible apply ne_add2 | with_reducible apply ne_add2' | with_reducible apply ne_add12 | with_reducible apply ne_add21 | (with_reducible apply Lo.ne; (repeat (first | with_reducible assumption | with_reducible apply Lo.self | with_reducible apply Lo.new | with_reducible apply Lo.set | with_reducible apply Lo.self1 | with_reducible apply Lo.self2)); done) | (with_reducible apply Lo.ne1; (repeat (first | with_reducible assumption | with_reducible apply Lo.self | with_reducible apply Lo.new | with_reducible apply Lo.set | with_reducible apply Lo.self1 | with_reducible apply Lo.self2)); done) | (with_reducible apply Lo.ne'; (repeat (first | with_reducible assumption | with_reducible apply Lo.self | with_reducible apply Lo.new | with_reducible apply Lo.set | with_reducible apply Lo.self1 | with_reducible apply Lo.self2)); done) | (with_reducible apply Lo.ne1'; (repeat (first | with_reducible assumption | with_reducible apply Lo.self | with_reducible apply Lo.new | with_reducible apply Lo.set | with_reducible apply Lo.self1 | with_reducible apply Lo.self2)); done)); done))) | exact obj_here rfl)); (· exact rfl); (· exact rfl))
        | (apply op_at; (· exact rfl))
        | (apply dwp_cond_t; (· exact rfl); (· (first | with_reducible assumption | with_reducible rfl | decide)))
        | (apply dwp_cond_f; (· exact rfl); (· (first | with_reducible assumption | with_reducible rfl | decide)))
        | apply dwp_skip
        | apply dwp_ret
        | fail)
      exact ⟨rfl, hup⟩
    · have hc : ((l.length : Int) == 0) = false := by simp only [beq_eq_false_iff_ne]; omega
      have hE : peekE l nx now hor = 0 := by unfold peekE; rw [hk, if_pos rfl, if_neg (fun e => h0 (by rw [e]; rfl))]
      have hX : peekX l nx now hor = g l 0 := by unfold peekX; rw [hE]; rfl
      rw [hE, hX]
      obtain ⟨t, hs1, hs2, hs3⟩ := sortL_first (checkB_heap.mp (kOk_check hk)).1 (g_at (l := l) (by omega))
      have hsl : 0 < (sortL l).length := by rw [hs1]; simp
      have hin1 : 0 ≤ (0 : Int) ∧ (0 : Int) < ((sortL l).length : Int) := by omega
      have hx : (sortL l)[0]? = some (g l 0) := by rw [hs1]; rfl
      have hlen := kOk_len hk
      refine enter rfl Try.func45 rfl Try.ntmps45 rfl ?_
      dsimp only [List.cons_append, List.nil_append, List.length_cons, List.length_nil, List.replicate_succ, List.replicate_zero, Nat.reduceAdd, Nat.reduceSub]
      repeat' (first
        | dsimp only [putD, DV.cells, DH.new_next, DH.set_next, List.length_cons, List.length_nil, Nat.reduceAdd, List.set_cons_zero, List.set_cons_succ, getD_zero, getD_succ, fieldAt_zero, fieldAt_succ, thenD, blockD, retR]
        | (refine ⟨_, resOf_ct (loadD_at rfl (by repeat (first | with_reducible assumption | (with_reducible apply obj_here; with_reducible rfl) | with_reducible apply obj_set | (with_reducible apply obj_skip_lo; (· ((repeat (first | with_reducible assumption | with_reducible apply Lo.self | with_reducible apply Lo.new | with_reducible apply Lo.set | with_reducible apply Lo.self1 | with_reducible apply Lo.self2)); done))) | (with_reducible apply obj_past; (· ((first | with_reducible assumption | with_reducible apply ne_add1 | with_reducible apply ne_add1' | with_reducible apply ne_add2 | with_reducible apply ne_add2' | with_reducible apply ne_add12 | with_reducible apply ne_add21 | (with_reducible apply Lo.ne; (repeat (first | with_reducible assumption | with_reducible apply Lo.self | with_reducible apply Lo.new | with_reducible apply Lo.set | with_reducible apply Lo.self1 | with_reducible apply Lo.self2)); done) | (with_reducible apply Lo.ne1; (repeat (first | with_reducible assumption | with_reducible apply Lo.self | with_reducible apply Lo.new | with_reducible apply Lo.set | with_reducible apply Lo.self1 | with_reducible apply Lo.self2)); done) | (with_reducible apply Lo.ne'; (repeat (first | with_reducible assumption | with_reducible apply Lo.self | with_reducible apply Lo.new | with_reducible apply Lo.set | with_reducible apply Lo.self1 | with_reducible apply Lo.self2)); done) | (with_reducible apply Lo.ne1'; (repeat (first | with_reducible assumption | with_reducible apply Lo.self | with_reducible apply Lo.new | with_reducible apply Lo.set | with_reducible apply Lo.self1 | with_reducible apply Lo.self2)); done)); done))) | exact obj_here rfl)) rfl rfl), ?_⟩)
        | apply dwp_seq
        | apply dwp_region
        | apply ops_nil
        | (apply ops_plain; (· exact rfl))
        | (apply op_call; (· exact rfl); (· exact rfl); (· exact rfl); refine call_table (g := gKc) rfl (kc_t (⟨_, _, _, rfl, hl.mono hab2⟩ : Its _ (.sl p l.length c ex) l)) ?_; rw [hk, if_pos rfl])
        | (apply op_call; (· exact rfl); (· exact rfl); (· exact rfl); refine (CallWp.up upK3 (sorted_c (⟨_, _, _, rfl, hl.mono hab2⟩ : Its _ (.sl p l.length c ex) l) (by omega))).mono ?_; rintro r5 H5 ⟨ab5, i5⟩; obtain ⟨p5, c5, e5, rfl, it5, if5⟩ := i5; obtain ⟨loc, i0, ro, rs, hp5, hloc, ho, hrx⟩ := it5.rd hx; subst hp5; have hr1 : rs[i0 + ((0 : Int)).toNat]? = some (g l 0).cells := hrx; have hob := ab5.obj (l := H.next + 1) (Nat.lt_succ_self _) (obj_here rfl); have aa5 := (hab2.trans ab5))
        | (apply op_index_at; (· exact rfl); (· exact rfl); (· exact rfl); (· with_reducible exact hin1); (· exact rfl); (· exact rfl))
        | (apply op_load_at; (· exact rfl); (· exact rfl); (· with_reducible exact ho); (· with_reducible exact hr1); (· exact (item_part (g l 0))))
        | (apply op_load_at; (· exact rfl); (· exact rfl); (· repeat (first | with_reducible assumption | (with_reducible apply obj_here; with_reducible rfl) | with_reducible apply obj_set | (with_reducible apply obj_skip_lo; (· ((repeat (first | with_reducible assumption | with_reducible apply Lo.self | with_reducible apply Lo.new | with_reducible apply Lo.set | with_reducible apply Lo.self1 | with_reducible apply Lo.self2)); done))) | (with_reducible apply obj_past; (· ((first | with_reducible assumption | with_reducible apply ne_add1 | with_reducible apply ne_add1' | with_reducible apply ne_add2 | with_reducible apply ne_add2' | with_reducible apply ne_add12 | with_reducible apply ne_add21 | (with_reducible apply Lo.ne; (repeat (first | with_reducible assumption | with_reducible apply Lo.self | with_reducible apply Lo.new | with_reducible apply Lo.set | with_reducible apply Lo.self1 | with_reducible apply Lo.self2)); done) | (with_reducible apply Lo.ne1; (repeat (first | with_reducible assumption | with_reducible apply Lo.self | with_reducible apply Lo.new | with_reducible apply Lo.set | with_reducible apply Lo.self1 | with_reducible apply Lo.self2)); done) | (with_reducible apply Lo.ne'; (repeat (first | with_reducible assumption | with_reducible apply Lo.self | with_reducible apply Lo.new | with_reducible apply Lo.set | with_reducible apply Lo.self1 | with_reducible apply Lo.self2)); done) | (with_reducible apply Lo.ne1'; (repeat (first | with_reducible assumption | with_reducible apply Lo.self | with_reducible apply Lo.new | with_reducible apply Lo.set | with_reducible apply Lo.self1 | with_reducible apply Lo.self2)); done)); done))) | exact obj_here rfl)); (· exact rfl); (· exact rfl))
        | (apply op_store_at; (· exact rfl); (· exact rfl); (· exact rfl); (· repeat (first | with_reducible assumption | (with_reducible apply obj_here; with_reducible rfl) | with_reducible apply obj_set | (with_reducible apply obj_skip_lo; (· ((repeat (first | with_reducible assumption | with_reducible apply Lo.self | with_reducible apply Lo.new | with_reducible apply Lo.set | with_reducible apply Lo.self1 | with_reducible apply Lo.self2)); done))) | (with_reducible apply obj_past; (· ((first | with_reducible assumption | with_reducible apply ne_add1 | with_reducible apply ne_add1' | with_reducible apply ne_add2 | with_reducible apply ne_add2' | with_reducible apply ne_add12 | with_reducible apply ne_add21 | (with_reducible apply Lo.ne; (repeat (first | with_reducible assumption | with_reducible apply Lo.self | with_reducible apply Lo.new | with_reducible apply Lo.set | with_reducible apply Lo.self1 | with_reducible apply Lo.self2)); done) | (with_reducible apply Lo.ne1; (repeat (first | with_reducible assumption | with_reducible apply Lo.self | with_reducible apply Lo.new | with_reducible apply Lo.set | with_reducible apply Lo.self1 | with_reducible apply Lo.self2)); done) | (with_reducible apply Lo.ne'; (repeat (first | with_reducible assumption | with_reducible apply Lo.self | with_reducible apply Lo.new | with_reducible apply Lo.set | with_reducible apply Lo.self1 | with_reducible apply Lo.self2)); done) | (with_reducible apply Lo.ne1'; (repeat (first | with_reducible assumption | with_reducible apply Lo.self | with_reducible apply Lo.new | with_reducible apply Lo.set | with_reducible apply Lo.self1 | with_reducible apply Lo.self2)); done)); done))) | exact obj_here rfl)); (· exact rfl); (· exact rfl); (· exact rfl))
        | (apply op_at; (· exact rfl))
        | (apply dwp_cond_f; (· exact rfl); (· (first | with_reducible assumption | with_reducible rfl | decide)))
        | apply dwp_skip
        | apply dwp_ret
        | fail)
      exact ⟨rfl, aa5.set (Nat.le_succ _) _⟩
end
def ksame (l : List Item) (nx now hor : Int) (l' : List Item) (nx' now' hor' : Int) : Bool := (nx == nx') && (now == now') && (hor == hor') && decide (sortL l = sortL l')
theorem same48 (H : DH) (p p' : Option (Nat × Nat × Nat)) (c c' : Nat) (ex ex' : Bool) (l l' : List Item) (nx now hor nx' now' hor' : Int) (hl : It H p c ex l) (hl' : It H p' c' ex' l') (hn : l.length ≤ 1000000) (hn' : l'.length ≤ 1000000) :
    CallWp Try.prog K3 48 [.agg [.sl p l.length c ex, .int .u64 nx, .int .i64 now, .int .i64 hor], .agg [.sl p' l'.length c' ex', .int .u64 nx', .int .i64 now', .int .i64 hor']] H (fun r H' => r = .bool (ksame l nx now hor l' nx' now' hor') ∧ Above H H') := by
  have hab2 : ∀ {a b : DObj}, Above H ((H.new a).new b) := fun {a b} => ((Above.refl H).new _).new _
  have hb1 : ∀ {a b : DObj}, Its ((H.new a).new b) (.sl p l.length c ex) l := fun {a b} => ⟨_, _, _, rfl, hl.mono hab2⟩
  have hb2 : ∀ {a b : DObj}, Its ((H.new a).new b) (.sl p' l'.length c' ex') l' := fun {a b} => ⟨_, _, _, rfl, hl'.mono hab2⟩
  unfold ksame
  cases h1 : (nx == nx') with
  | false =>
    refine enter rfl Try.func48 rfl Try.ntmps48 rfl ?_
    dsimp only [List.cons_append, List.nil_append, List.length_cons, List.length_nil, List.replicate_succ, List.replicate_zero, Nat.reduceAdd, Nat.reduceSub]
    repeat' (first
      | dsimp only [putD, DV.cells, DH.new_next, DH.set_next, List.length_cons, List.length_nil, Nat.reduceAdd, List.set_cons_zero, List.set_cons_succ, getD_zero, getD_succ, fieldAt_zero, fieldAt_succ, thenD, blockD, retR]
      | (apply drawp_read; (· (first | exact wanted_plain rfl | (apply wanted_on; (· exact rfl); (· exact rfl); (· (first | with_reducible assumption | with_reducible rfl | decide))))); (· exact rfl); (· exact rfl); (· decide +kernel); (· intro H' h; have h : Above _ _ := h; exact opD_load rfl rfl (h.obj (l := H.next) (by exact Nat.lt_succ_of_lt (Nat.lt_succ_self _)) (by exact obj_skip (Nat.ne_of_lt (Nat.lt_succ_self _)) (obj_here rfl))) (rfl) (rfl)))
      | (apply drawp_read; (· (first | exact wanted_plain rfl | (apply wanted_on; (· exact rfl); (· exact rfl); (· (first | with_reducible assumption | with_reducible rfl | decide))))); (· exact rfl); (· exact rfl); (· decide +kernel); (· intro H' h; have h : Above _ _ := h; exact opD_load rfl rfl (h.obj (l := H.next + 1) (by exact Nat.lt_succ_self _) (by exact obj_here rfl)) (rfl) (rfl)))
      | apply dwp_seq
      | apply dwp_region
      | apply ops_nil
      | (apply ops_plain; (· exact rfl))
      | (apply op_at; (· exact rfl))
      | refine dwp_drawp _ rfl (fun H' => Above _ H') (Above.refl _) ?_
      | apply drawp_nil
      | (apply drawp_pick_f; (· (first | exact wanted_plain rfl | (apply wanted_on; (· exact rfl); (· exact rfl); (· (first | with_reducible assumption | with_reducible rfl | decide))))); (· exact rfl); (· exact rfl); (· (first | with_reducible assumption | with_reducible rfl | decide)); (· exact rfl))
      | (apply drawp_pure; (· (first | exact wanted_plain rfl | (apply wanted_on; (· exact rfl); (· exact rfl); (· (first | with_reducible assumption | with_reducible rfl | decide))))); (· exact rfl); (· exact rfl); (· exact rfl))
      | (apply drawp_off; (· (first | (apply wanted_off1; (· exact rfl); (· exact rfl); (· (first | with_reducible assumption | with_reducible rfl | decide))) | (apply wanted_off0; (· exact rfl); (· exact rfl); (· (first | with_reducible assumption | with_reducible rfl | decide))) | (apply wanted_none; (· exact rfl); (· exact rfl)))))
      | apply dwp_ret
      | (refine ⟨_, rfl, ?_⟩)
      | fail)
    exact ⟨rfl, hab2⟩
  | true =>
    cases h2 : (now == now') with
    | false =>
      refine enter rfl Try.func48 rfl Try.ntmps48 rfl ?_
      dsimp only [List.cons_append, List.nil_append, List.length_cons, List.length_nil, List.replicate_succ, List.replicate_zero, Nat.reduceAdd, Nat.reduceSub]
      repeat' (first
        | dsimp only [putD, DV.cells, DH.new_next, DH.set_next, List.length_cons, List.length_nil, Nat.reduceAdd, List.set_cons_zero, List.set_cons_succ, getD_zero, getD_succ, fieldAt_zero, fieldAt_succ, thenD, blockD, retR]
        | (apply drawp_read; (· (first | exact wanted_plain rfl | (apply wanted_on; (· exact rfl); (· exact rfl); (· (first | with_reducible assumption | with_reducible rfl | decide))))); (· exact rfl); (· exact rfl); (· decide +kernel); (· intro H' h; have h : Above _ _ := h; exact opD_load rfl rfl (h.obj (l := H.next) (by exact Nat.lt_succ_of_lt (Nat.lt_succ_self _)) (by exact obj_skip (Nat.ne_of_lt (Nat.lt_succ_self _)) (obj_here rfl))) (rfl) (rfl)))
        | (apply drawp_read; (· (first | exact wanted_plain rfl | (apply wanted_on; (· exact rfl); (· exact rfl); (· (first | with_reducible assumption | with_reducible rfl | decide))))); (· exact rfl); (· exact rfl); (· decide +kernel); (· intro H' h; have h : Above _ _ := h; exact opD_load rfl rfl (h.obj (l := H.next + 1) (by exact Nat.lt_succ_self _) (by exact obj_here rfl)) (rfl) (rfl)))
        | apply dwp_seq
        | apply dwp_region
        | apply ops_nil
        | (apply ops_plain; (· exact rfl))
        | (apply op_at; (· exact rfl))
        | refine dwp_drawp _ rfl (fun H' => Above _ H') (Above.refl _) ?_
        | apply drawp_nil
        | (apply drawp_pick_t; (· (first | exact wanted_plain rfl | (apply wanted_on; (· exact rfl); (· exact rfl); (· (first | with_reducible assumption | with_reducible rfl | decide))))); (· exact rfl); (· exact rfl); (· (first | with_reducible assumption | with_reducible rfl | decide)); (· exact rfl))
        | (apply drawp_pick_f; (· (first | exact wanted_plain rfl | (apply wanted_on; (· exact rfl); (· exact rfl); (· (first | with_reducible assumption | with_reducible rfl | decide))))); (· exact rfl); (· exact rfl); (· (first | with_reducible assumption | with_reducible rfl | decide)); (· exact rfl))
        | (apply drawp_pure; (· (first | exact wanted_plain rfl | (apply wanted_on; (· exact rfl); (· exact rfl); (· (first | with_reducible assumption | with_reducible rfl | decide))))); (· exact rfl); (· exact rfl); (· exact rfl))
        | (apply drawp_off; (· (first | (apply wanted_off1; (· exact rfl); (· exact rfl); (· (first | with_reducible assumption | with_reducible rfl | decide))) | (apply wanted_off0; (· exact rfl); (· exact rfl); (· (first | with_reducible assumption | with_reducible rfl | decide))) | (apply wanted_none; (· exact rfl); (· exact rfl)))))
        | apply dwp_ret
        | (refine ⟨_, rfl, ?_⟩)
        | fail)
      exact ⟨rfl, hab2⟩
    | true =>
      cases h3 : (hor == hor') with
      | false =>
        refine enter rfl Try.func48 rfl Try.ntmps48 rfl ?_
        dsimp only [List.cons_append, List.nil_append, List.length_cons, List.length_nil, List.replicate_succ, List.replicate_zero, Nat.reduceAdd, Nat.reduceSub]
        repeat' (first
          | dsimp only [putD, DV.cells, DH.new_next, DH.set_next, List.length_cons, List.length_nil, Nat.reduceAdd, List.set_cons_zero, List.set_cons_succ, getD_zero, getD_succ, fieldAt_zero, fieldAt_succ, thenD, blockD, retR]
          | (apply drawp_read; (· (first | exact wanted_plain rfl | (apply wanted_on; (· exact rfl); (· exact rfl); (· (first | with_reducible assumption | with_reducible rfl | decide))))); (· exact rfl); (· exact rfl); (· decide +kernel); (· intro H' h; have h : Above _ _ := h; exact opD_load rfl rfl (h.obj (l := H.next) (by exact Nat.lt_succ_of_lt (Nat.lt_succ_self _)) (by exact obj_skip (Nat.ne_of_lt (Nat.lt_succ_self _)) (obj_here rfl))) (rfl) (rfl)))
          | (apply drawp_read; (· (first | exact wanted_plain rfl | (apply wanted_on; (· exact rfl); (· exact rfl); (· (first | with_reducible assumption | with_reducible rfl | decide))))); (· exact rfl); (· exact rfl); (· decide +kernel); (· intro H' h; have h : Above _ _ := h; exact opD_load rfl rfl (h.obj (l := H.next + 1) (by exact Nat.lt_succ_self _) (by exact obj_here rfl)) (rfl) (rfl)))
          | apply dwp_seq
          | apply dwp_region
          | apply ops_nil
          | (apply ops_plain; (· exact rfl))
          | (apply op_at; (· exact rfl))
          | refine dwp_drawp _ rfl (fun H' => Above _ H') (Above.refl _) ?_
          | apply drawp_nil
          | (apply drawp_pick_t; (· (first | exact wanted_plain rfl | (apply wanted_on; (· exact rfl); (· exact rfl); (· (first | with_reducible assumption | with_reducible rfl | decide))))); (· exact rfl); (· exact rfl); (· (first | with_reducible assumption | with_reducible rfl | decide)); (· exact rfl))
          | (apply drawp_pick_f; (· (first | exact wanted_plain rfl | (apply wanted_on; (· exact rfl); (· exact rfl); (· (first | with_reducible assumption | with_reducible rfl | decide))))); (· exact rfl); (· exact rfl); (· (first | with_reducible assumption | with_reducible rfl | decide)); (· exact rfl))
          | (apply drawp_pure; (· (first | exact wanted_plain rfl | (apply wanted_on; (· exact rfl); (· exact rfl); (· (first | with_reducible assumption | with_reducible rfl | decide))))); (· exact rfl); (· exact rfl); (· exact rfl))
          | (apply drawp_off; (· (first | (apply wanted_off1; (· exact rfl); (· exact rfl); (· (first | with_reducible assumption | with_reducible rfl | decide))) | (apply wanted_off0; (· exact rfl); (· exact rfl); (· (first | with_reducible assumption | with_reducible rfl | decide))) | (apply wanted_none; (· exact rfl); (· exact rfl)))))
          | apply dwp_ret
          | (refine ⟨_, rfl, ?_⟩)
          | fail)
        exact ⟨rfl, hab2⟩
      | true =>
        refine enter rfl Try.func48 rfl Try.ntmps48 rfl ?_
        dsimp only [List.cons_append, List.nil_append, List.length_cons, List.length_nil, List.replicate_succ, List.replicate_zero, Nat.reduceAdd, Nat.reduceSub]
        repeat' (first
          | dsimp only [putD, DV.cells, DH.new_next, DH.set_next, List.length_cons, List.length_nil, Nat.reduceAdd, List.set_cons_zero, List.set_cons_succ, getD_zero, getD_succ, fieldAt_zero, fieldAt_succ, thenD, blockD, retR]
          | (apply drawp_read; (· (first | exact wanted_plain rfl | (apply wanted_on; (· exact rfl); (· exact rfl); (· (first | with_reducible assumption | with_reducible rfl | decide))))); (· exact rfl); (· exact rfl); (· decide +kernel); (· intro H' h; have h : Above _ _ := h; exact opD_load rfl rfl (h.obj (l := H.next) (by exact Nat.lt_succ_of_lt (Nat.lt_succ_self _)) (by exact obj_skip (Nat.ne_of_lt (Nat.lt_succ_self _)) (obj_here rfl))) (rfl) (rfl)))
          | (apply drawp_read; (· (first | exact wanted_plain rfl | (apply wanted_on; (· exact rfl); (· exact rfl); (· (first | with_reducible assumption | with_reducible rfl | decide))))); (· exact rfl); (· exact rfl); (· decide +kernel); (· intro H' h; have h : Above _ _ := h; exact opD_load rfl rfl (h.obj (l := H.next + 1) (by exact Nat.lt_succ_self _) (by exact obj_here rfl)) (rfl) (rfl)))
          | apply dwp_seq
          | apply dwp_region
          | apply ops_nil
          | (apply ops_plain; (· exact rfl))
          | (apply op_call; (· exact rfl); (· exact rfl); (· exact rfl); refine (CallWp.up upK3 (sorted_c hb1 hn)).mono ?_; rintro r5 H5 ⟨ab5, i5⟩; refine ⟨ab5, ?_⟩)
          | (apply op_call; (· exact rfl); (· exact rfl); (· exact rfl); refine (CallWp.up upK3 (sorted_c (hb2.mono ab5) hn')).mono ?_; rintro r6 H6 ⟨ab6, i6⟩; refine ⟨ab5.trans ab6, ?_⟩)
          | (apply op_call; (· exact rfl); (· exact rfl); (· exact rfl); refine call_table (g := gSame) rfl (same_t (i5.its.mono ab6) i6.its) ?_; refine ⟨ab5.trans ab6, ?_⟩)
          | (apply op_at; (· exact rfl))
          | refine dwp_drawp _ rfl (fun H' => Above _ H') (Above.refl _) ?_
          | apply drawp_nil
          | (apply drawp_pick_t; (· (first | exact wanted_plain rfl | (apply wanted_on; (· exact rfl); (· exact rfl); (· (first | with_reducible assumption | with_reducible rfl | decide))))); (· exact rfl); (· exact rfl); (· (first | with_reducible assumption | with_reducible rfl | decide)); (· exact rfl))
          | (apply drawp_pure; (· (first | exact wanted_plain rfl | (apply wanted_on; (· exact rfl); (· exact rfl); (· (first | with_reducible assumption | with_reducible rfl | decide))))); (· exact rfl); (· exact rfl); (· exact rfl))
          | (apply drawp_move; (· (first | exact wanted_plain rfl | (apply wanted_on; (· exact rfl); (· exact rfl); (· (first | with_reducible assumption | with_reducible rfl | decide))))); (· exact rfl); (· decide +kernel))
          | apply dwp_ret
          | (refine ⟨_, rfl, ?_⟩)
          | fail)
        exact ⟨rfl, hab2.trans (ab5.trans ab6)⟩
def gPeek : G := fun args H => match args with
  | [.agg [s, .int .u64 nx, .int .i64 now, .int .i64 hor]] => match itemsOf H s with
    | some l => some (.tuple [.agg (peekX l nx now hor).cells, .int .i64 (peekE l nx now hor)], H)
    | none => none
  | _ => none
def gKSame : G := fun args H => match args with
  | [.agg [s, .int .u64 nx, .int .i64 now, .int .i64 hor], .agg [s', .int .u64 nx', .int .i64 now', .int .i64 hor']] => match itemsOf H s, itemsOf H s' with
    | some l, some l' => if l.length ≤ 1000000 ∧ l'.length ≤ 1000000 then some (.bool (ksame l nx now hor l' nx' now' hor'), H) else none
    | _, _ => none
  | _ => none
def kfine (l : List Item) (nx now hor : Int) (l' : List Item) (nx' now' hor' : Int) : Bool := ksame l nx now hor l' nx' now' hor' && (checkB l == checkB l')
def gFine : G := fun args H => match args with
  | [.agg [s, .int .u64 nx, .int .i64 now, .int .i64 hor], .agg [s', .int .u64 nx', .int .i64 now', .int .i64 hor']] => match itemsOf H s, itemsOf H s' with
    | some l, some l' => if l.length ≤ 1000000 ∧ l'.length ≤ 1000000 then some (.bool (kfine l nx now hor l' nx' now' hor'), H) else none
    | _, _ => none
  | _ => none
theorem peek_t {H : DH} {s : DV} {l : List Item} {nx now hor : Int} (h : Its H s l) : gPeek [.agg [s, .int .u64 nx, .int .i64 now, .int .i64 hor]] H = some (.tuple [.agg (peekX l nx now hor).cells, .int .i64 (peekE l nx now hor)], H) := by
  obtain ⟨p, c, ex, rfl, hl⟩ := h
  simp only [gPeek, hl.of]
theorem ksame_t {H : DH} {s s' : DV} {l l' : List Item} {nx now hor nx' now' hor' : Int} (h : Its H s l) (h' : Its H s' l') (hn : l.length ≤ 1000000) (hn' : l'.length ≤ 1000000) : gKSame [.agg [s, .int .u64 nx, .int .i64 now, .int .i64 hor], .agg [s', .int .u64 nx', .int .i64 now', .int .i64 hor']] H = some (.bool (ksame l nx now hor l' nx' now' hor'), H) := by
  obtain ⟨p, c, ex, rfl, hl⟩ := h
  obtain ⟨p', c', ex', rfl, hl'⟩ := h'
  simp only [gKSame, hl.of, hl'.of]
  rw [if_pos ⟨hn, hn'⟩]
theorem ok44 : ExtSound Try.prog gPeek 44 := ext_read okK3 Try.func44 rfl rfl (by
  intro args H r H' hw h
  unfold gPeek at h
  split at h
  · split at h
    · rename_i l hl
      cases h
      obtain ⟨p, c, ex, rfl, hi⟩ := items_it hw hl
      exact ⟨rfl, rfl, (peek44 H p c ex l _ _ _ hi).mono fun r' H1 ⟨h1, h2⟩ => ⟨h1, h2⟩⟩
    · cases h
  · cases h)
theorem ok45 : ExtSound Try.prog gPeek 45 := ext_read okK3 Try.func45 rfl rfl (by
  intro args H r H' hw h
  unfold gPeek at h
  split at h
  · split at h
    · rename_i l hl
      cases h
      obtain ⟨p, c, ex, rfl, hi⟩ := items_it hw hl
      exact ⟨rfl, rfl, (peek45 H p c ex l _ _ _ hi).mono fun r' H1 ⟨h1, h2⟩ => ⟨h1, h2⟩⟩
    · cases h
  · cases h)
theorem ok48 : ExtSound Try.prog gKSame 48 := ext_read okK3 Try.func48 rfl rfl (by
  intro args H r H' hw h
  unfold gKSame at h
  split at h
  · split at h
    · rename_i l l' hl hl'
      split at h
      · rename_i hn
        cases h
        obtain ⟨p, c, ex, rfl, hi⟩ := items_it hw hl
        obtain ⟨p', c', ex', rfl, hi'⟩ := items_it hw hl'
        exact ⟨rfl, rfl, (same48 H p p' c c' ex ex' l l' _ _ _ _ _ _ hi hi' hn.1 hn.2).mono fun r' H1 ⟨h1, h2⟩ => ⟨h1, h2⟩⟩
      · cases h
    · cases h
  · cases h)
def T4 : List (FuncId × G) := (44, gPeek) :: (45, gPeek) :: (48, gKSame) :: T3
theorem okT4 : ∀ f g, (f, g) ∈ T4 ++ E4 → ExtSound Try.prog g f := by
  intro f g h
  simp only [T4, List.cons_append, List.mem_cons] at h
  rcases h with h | h | h | h
  · cases h; exact ok44
  · cases h; exact ok45
  · cases h; exact ok48
  · exact okT3 f g h
def K4 : Ext := Xof ([39] ++ L) (T4 ++ E4)
theorem okK4 : ProgOk Try.prog K4 := progOk_of2 mixed (okM (by decide +kernel)) push_code okT4
theorem fine39 (H : DH) (p p' : Option (Nat × Nat × Nat)) (c c' : Nat) (ex ex' : Bool) (l l' : List Item) (nx now hor nx' now' hor' : Int) (hl : It H p c ex l) (hl' : It H p' c' ex' l') (hn : l.length ≤ 1000000) (hn' : l'.length ≤ 1000000) :
    CallWp Try.prog K4 39 [.agg [.sl p l.length c ex, .int .u64 nx, .int .i64 now, .int .i64 hor], .agg [.sl p' l'.length c' ex', .int .u64 nx', .int .i64 now', .int .i64 hor']] H (fun r H' => r = .bool (kfine l nx now hor l' nx' now' hor') ∧ Above H H') := by
  have hab2 : ∀ {a b : DObj}, Above H ((H.new a).new b) := fun {a b} => ((Above.refl H).new _).new _
  have hb1 : ∀ {a b : DObj}, Its ((H.new a).new b) (.sl p l.length c ex) l := fun {a b} => ⟨_, _, _, rfl, hl.mono hab2⟩
  have hb2 : ∀ {a b : DObj}, Its ((H.new a).new b) (.sl p' l'.length c' ex') l' := fun {a b} => ⟨_, _, _, rfl, hl'.mono hab2⟩
  unfold kfine
  cases h1 : ksame l nx now hor l' nx' now' hor' with
  | false =>
    refine enter rfl Try.func39 rfl Try.ntmps39 rfl ?_
    dsimp only [List.cons_append, List.nil_append, List.length_cons, List.length_nil, List.replicate_succ, List.replicate_zero, Nat.reduceAdd, Nat.reduceSub]
    repeat' (first
      | dsimp only [putD, DV.cells, DH.new_next, DH.set_next, List.length_cons, List.length_nil, Nat.reduceAdd, List.set_cons_zero, List.set_cons_succ, getD_zero, getD_succ, fieldAt_zero, fieldAt_succ, thenD, blockD, retR]
      | (apply drawp_read; (· (first | exact wanted_plain rfl | (apply wanted_on; (· exact rfl); (· exact rfl); (· (first | with_reducible assumption | with_reducible rfl | decide))))); (· exact rfl); (· exact rfl); (· decide +kernel); (· intro H' h; have h : Above _ _ := h; exact opD_load rfl rfl (h.obj (l := H.next) (by exact Nat.lt_succ_of_lt (Nat.lt_succ_self _)) (by exact obj_skip (Nat.ne_of_lt (Nat.lt_succ_self _)) (obj_here rfl))) (rfl) (rfl)))
      | (apply drawp_read; (· (first | exact wanted_plain rfl | (apply wanted_on; (· exact rfl); (· exact rfl); (· (first | with_reducible assumption | with_reducible rfl | decide))))); (· exact rfl); (· exact rfl); (· decide +kernel); (· intro H' h; have h : Above _ _ := h; exact opD_load rfl rfl (h.obj (l := H.next + 1) (by exact Nat.lt_succ_self _) (by exact obj_here rfl)) (rfl) (rfl)))
      | apply dwp_seq
      | apply dwp_region
      | apply ops_nil
      | (apply ops_plain; (· exact rfl))
      | (apply op_call; (· exact rfl); (· exact rfl); (· exact rfl); refine call_table (g := gKSame) rfl (ksame_t hb1 hb2 hn hn') ?_; refine ⟨Above.refl _, ?_⟩; rw [h1])
      | (apply op_at; (· exact rfl))
      | refine dwp_drawp _ rfl (fun H' => Above _ H') (Above.refl _) ?_
      | apply drawp_nil
      | (apply drawp_pick_f; (· (first | exact wanted_plain rfl | (apply wanted_on; (· exact rfl); (· exact rfl); (· (first | with_reducible assumption | with_reducible rfl | decide))))); (· exact rfl); (· exact rfl); (· (first | with_reducible assumption | with_reducible rfl | decide)); (· exact rfl))
      | (apply drawp_pure; (· (first | exact wanted_plain rfl | (apply wanted_on; (· exact rfl); (· exact rfl); (· (first | with_reducible assumption | with_reducible rfl | decide))))); (· exact rfl); (· exact rfl); (· exact rfl))
      | (apply drawp_move; (· (first | exact wanted_plain rfl | (apply wanted_on; (· exact rfl); (· exact rfl); (· (first | with_reducible assumption | with_reducible rfl | decide))))); (· exact rfl); (· decide +kernel))
      | (apply drawp_off; (· (first | (apply wanted_off1; (· exact rfl); (· exact rfl); (· (first | with_reducible assumption | with_reducible rfl | decide))) | (apply wanted_off0; (· exact rfl); (· exact rfl); (· (first | with_reducible assumption | with_reducible rfl | decide))) | (apply wanted_none; (· exact rfl); (· exact rfl)))))
      | apply dwp_ret
      | (refine ⟨_, rfl, ?_⟩)
      | fail)
    exact ⟨rfl, hab2⟩
  | true =>
    refine enter rfl Try.func39 rfl Try.ntmps39 rfl ?_
    dsimp only [List.cons_append, List.nil_append, List.length_cons, List.length_nil, List.replicate_succ, List.replicate_zero, Nat.reduceAdd, Nat.reduceSub]
    repeat' (first
      | dsimp only [putD, DV.cells, DH.new_next, DH.set_next, List.length_cons, List.length_nil, Nat.reduceAdd, List.set_cons_zero, List.set_cons_succ, getD_zero, getD_succ, fieldAt_zero, fieldAt_succ, thenD, blockD, retR]
      | (apply drawp_read; (· (first | exact wanted_plain rfl | (apply wanted_on; (· exact rfl); (· exact rfl); (· (first | with_reducible assumption | with_reducible rfl | decide))))); (· exact rfl); (· exact rfl); (· decide +kernel); (· intro H' h; have h : Above _ _ := h; exact opD_load rfl rfl (h.obj (l := H.next) (by exact Nat.lt_succ_of_lt (Nat.lt_succ_self _)) (by exact obj_skip (Nat.ne_of_lt (Nat.lt_succ_self _)) (obj_here rfl))) (rfl) (rfl)))
      | (apply drawp_read; (· (first | exact wanted_plain rfl | (apply wanted_on; (· exact rfl); (· exact rfl); (· (first | with_reducible assumption | with_reducible rfl | decide))))); (· exact rfl); (· exact rfl); (· decide +kernel); (· intro H' h; have h : Above _ _ := h; exact opD_load rfl rfl (h.obj (l := H.next + 1) (by exact Nat.lt_succ_self _) (by exact obj_here rfl)) (rfl) (rfl)))
      | (apply drawp_pure; (· (first | exact wanted_plain rfl | (apply wanted_on; (· exact rfl); (· exact rfl); (· (first | with_reducible assumption | with_reducible rfl | decide))))); (· exact rfl); (· exact rfl); (· exact opD_eqb rfl rfl rfl rfl))
      | apply dwp_seq
      | apply dwp_region
      | apply ops_nil
      | (apply ops_plain; (· exact rfl))
      | (apply op_call; (· exact rfl); (· exact rfl); (· exact rfl); refine call_table (g := gKSame) rfl (ksame_t hb1 hb2 hn hn') ?_; refine ⟨Above.refl _, ?_⟩; rw [h1])
      | (apply op_call; (· exact rfl); (· exact rfl); (· exact rfl); refine call_table (g := gCheck) rfl (check_t hb1) ?_; refine ⟨Above.refl _, ?_⟩)
      | (apply op_call; (· exact rfl); (· exact rfl); (· exact rfl); refine call_table (g := gCheck) rfl (check_t hb2) ?_; refine ⟨Above.refl _, ?_⟩)
      | (apply op_at; (· exact rfl))
      | refine dwp_drawp _ rfl (fun H' => Above _ H') (Above.refl _) ?_
      | apply drawp_nil
      | (apply drawp_pick_t; (· (first | exact wanted_plain rfl | (apply wanted_on; (· exact rfl); (· exact rfl); (· (first | with_reducible assumption | with_reducible rfl | decide))))); (· exact rfl); (· exact rfl); (· (first | with_reducible assumption | with_reducible rfl | decide)); (· exact rfl))
      | (apply drawp_pure; (· (first | exact wanted_plain rfl | (apply wanted_on; (· exact rfl); (· exact rfl); (· (first | with_reducible assumption | with_reducible rfl | decide))))); (· exact rfl); (· exact rfl); (· exact rfl))
      | (apply drawp_move; (· (first | exact wanted_plain rfl | (apply wanted_on; (· exact rfl); (· exact rfl); (· (first | with_reducible assumption | with_reducible rfl | decide))))); (· exact rfl); (· decide +kernel))
      | apply dwp_ret
      | (refine ⟨_, rfl, ?_⟩)
      | fail)
    exact ⟨rfl, hab2⟩
theorem ok39 : ExtSound Try.prog gFine 39 := ext_read okK4 Try.func39 rfl rfl (by
  intro args H r H' hw h
  unfold gFine at h
  split at h
  · split at h
    · rename_i l l' hl hl'
      split at h
      · rename_i hn
        cases h
        obtain ⟨p, c, ex, rfl, hi⟩ := items_it hw hl
        obtain ⟨p', c', ex', rfl, hi'⟩ := items_it hw hl'
        exact ⟨rfl, rfl, (fine39 H p p' c c' ex ex' l l' _ _ _ _ _ _ hi hi' hn.1 hn.2).mono fun r' H1 ⟨h1, h2⟩ => ⟨h1, h2⟩⟩
      · cases h
    · cases h
  · cases h)
def T5 : List (FuncId × G) := (39, gFine) :: T4
theorem okT5 : ∀ f g, (f, g) ∈ T5 ++ E4 → ExtSound Try.prog g f := by
  intro f g h
  simp only [T5, List.cons_append, List.mem_cons] at h
  rcases h with h | h
  · cases h; exact ok39
  · exact okT4 f g h
def K5 : Ext := Xof L (T5 ++ E4)
theorem okK5 : ProgOk Try.prog K5 := progOk_of2 mixed okL push_code okT5
theorem upK5 : ExtLe X4 K5 := extLe_more (M := []) (T := T5) (by decide +kernel)
end Go.Det.Q

/- Kernels: copies; Post. -/
namespace Go.Det.Q
open Go Go.Det Go.Proofs
set_option maxRecDepth 4000
set_option maxHeartbeats 4000000
set_option linter.unusedVariables false
set_option linter.unusedSimpArgs false
theorem itsF_of {A H : DH} {l : List Item} {s : DV} (h : Mine A H 6 (l.map Item.cells) s) (hf : ∀ m, leads s m → A.next ≤ m) (hm : l.length ≤ maxLen) : ItsF A H s l := by
  obtain ⟨p2, c2, ex2, rfl, hi⟩ := it_of_mine h hm
  exact ⟨p2, c2, ex2, rfl, hi, fun loc i z e => hf loc ⟨i, z, _, _, _, by rw [e]⟩⟩
section
variable (H : DH) (p : Option (Nat × Nat × Nat)) (c : Nat) (ex : Bool) (l : List Item) (nx now hor : Int) (hl : It H p c ex l) (hn : l.length ≤ 1000000)
include hl hn
theorem own64 : CallWp Try.prog K5 64 [.agg [.sl p l.length c ex, .int .u64 nx, .int .i64 now, .int .i64 hor]] H (fun r H' => Above H H' ∧ ∃ s', r = .agg [s', .int .u64 nx, .int .i64 now, .int .i64 hor] ∧ ItsF H H' s' l) := by
  have hab2 : ∀ {a b : DObj}, Above H ((H.new a).new b) := fun {a b} => ((Above.refl H).new _).new _
  have hob2 : ∀ {a b : DObj}, ((H.new a).new b).obj (H.next + 1) = some b := fun {a b} => obj_here rfl
  have hox2 : ∀ {a b : DObj}, ((H.new a).new b).obj H.next = some a := fun {a b} => obj_skip (Nat.ne_of_lt (Nat.lt_succ_self _)) (obj_here rfl)
  refine enter rfl Try.func64 rfl Try.ntmps64 rfl ?_
  dsimp only [List.cons_append, List.nil_append, List.length_cons, List.length_nil, List.replicate_succ, List.replicate_zero, Nat.reduceAdd, Nat.reduceSub]
  repeat' (first
    | dsimp only [putD, DV.cells, DH.new_next, DH.set_next, List.length_cons, List.length_nil, Nat.reduceAdd, List.set_cons_zero, List.set_cons_succ, getD_zero, getD_succ, fieldAt_zero, fieldAt_succ, thenD, blockD, retR]
    | (refine ⟨_, resOf_c (loadD_at rfl (by repeat (first | with_reducible assumption | (with_reducible apply obj_here; with_reducible rfl) | with_reducible apply obj_set | (with_reducible apply obj_skip_lo; (· ((repeat (first | with_reducible assumption | with_reducible apply Lo.self | with_reducible apply Lo.new | with_reducible apply Lo.set | with_reducible apply Lo.self1 | with_reducible apply Lo.self2)); done))) | (with_reducible apply obj_past; (· ((first | with_reducible assumption | with_reducible apply ne_add1 | with_reducible apply ne_add1' | with_reducible apply ne_add2 | with_reducible apply ne_add2' | with_reducible apply ne_add12 | with_reducible apply ne_add21 | (with_reducible apply Lo.ne; (repeat (first | with_reducible assumption | with_reducible apply Lo.self | with_reducible apply Lo.new | with_reducible apply Lo.set | with_reducible apply Lo.self1 | with_reducible apply Lo.self2)); done) | (with_reducible apply Lo.ne1; (repeat (first | with_reducible assumption | with_reducible apply Lo.self | with_reducible apply Lo.new | with_reducible apply Lo.set | with_reducible apply Lo.self1 | with_reducible apply Lo.self2)); done) | (with_reducible apply Lo.ne'; (repeat (first | with_reducible assumption | with_reducible apply Lo.self | with_reducible apply Lo.new | with_reducible apply Lo.set | with_reducible apply Lo.self1 | with_reducible apply Lo.self2)); done) | (with_reducible apply Lo.ne1'; (repeat (first | with_reducible assumption | with_reducible apply Lo.self | with_reducible apply Lo.new | with_reducible apply Lo.set | with_reducible apply Lo.self1 | with_reducible apply Lo.self2)); done)); done))) | exact obj_here rfl)) rfl rfl), ?_⟩)
    | apply dwp_seq
    | apply dwp_region
    | apply ops_nil
    | (apply ops_plain; (· exact rfl))
    | (apply op_call; (· exact rfl); (· exact rfl); (· exact rfl); refine (CallWp.up upK5 (clone54 _ p c ex l (hl.mono hab2) hn)).mono ?_; rintro s1 H1 ⟨ab1, hm1, hf1⟩; have hob1 := ab1.obj (l := H.next + 1) (Nat.lt_succ_self _) hob2; have hox1 := ab1.obj (l := H.next) (Nat.lt_succ_of_lt (Nat.lt_succ_self _)) hox2; have hlb1 : Lo H1 (H.next + 1) := lo (Nat.lt_of_lt_of_le (Nat.lt_succ_self _) ab1.le); have hlx1 : Lo H1 H.next := lo (Nat.lt_of_lt_of_le (Nat.lt_succ_of_lt (Nat.lt_succ_self _)) ab1.le); have aa1 := hab2.trans ab1; obtain ⟨p2, c2, e2, rfl, it1, if1⟩ := itsF_of hm1 hf1 (by unfold maxLen; omega))
    | (apply op_load_at; (· exact rfl); (· exact rfl); (· repeat (first | with_reducible assumption | (with_reducible apply obj_here; with_reducible rfl) | with_reducible apply obj_set | (with_reducible apply obj_skip_lo; (· ((repeat (first | with_reducible assumption | with_reducible apply Lo.self | with_reducible apply Lo.new | with_reducible apply Lo.set | with_reducible apply Lo.self1 | with_reducible apply Lo.self2)); done))) | (with_reducible apply obj_past; (· ((first | with_reducible assumption | with_reducible apply ne_add1 | with_reducible apply ne_add1' | with_reducible apply ne_add2 | with_reducible apply ne_add2' | with_reducible apply ne_add12 | with_reducible apply ne_add21 | (with_reducible apply Lo.ne; (repeat (first | with_reducible assumption | with_reducible apply Lo.self | with_reducible apply Lo.new | with_reducible apply Lo.set | with_reducible apply Lo.self1 | with_reducible apply Lo.self2)); done) | (with_reducible apply Lo.ne1; (repeat (first | with_reducible assumption | with_reducible apply Lo.self | with_reducible apply Lo.new | with_reducible apply Lo.set | with_reducible apply Lo.self1 | with_reducible apply Lo.self2)); done) | (with_reducible apply Lo.ne'; (repeat (first | with_reducible assumption | with_reducible apply Lo.self | with_reducible apply Lo.new | with_reducible apply Lo.set | with_reducible apply Lo.self1 | with_reducible apply Lo.self2)); done) | (with_reducible apply Lo.ne1'; (repeat (first | with_reducible assumption | with_reducible apply Lo.self | with_reducible apply Lo.new | with_reducible apply Lo.set | with_reducible apply Lo.self1 | with_reducible apply Lo.self2)); done)); done))) | exact obj_here rfl)); (· exact rfl); (· exact rfl))
    | (apply op_store_at; (· exact rfl); (· exact rfl); (· exact rfl); (· repeat (first | with_reducible assumption | (with_reducible apply obj_here; with_reducible rfl) | with_reducible apply obj_set | (with_reducible apply obj_skip_lo; (· ((repeat (first | with_reducible assumption | with_reducible apply Lo.self | with_reducible apply Lo.new | with_reducible apply Lo.set | with_reducible apply Lo.self1 | with_reducible apply Lo.self2)); done))) | (with_reducible apply obj_past; (· ((first | with_reducible assumption | with_reducible apply ne_add1 | with_reducible apply ne_add1' | with_reducible apply ne_add2 | with_reducible apply ne_add2' | with_reducible apply ne_add12 | with_reducible apply ne_add21 | (with_reducible apply Lo.ne; (repeat (first | with_reducible assumption | with_reducible apply Lo.self | with_reducible apply Lo.new | with_reducible apply Lo.set | with_reducible apply Lo.self1 | with_reducible apply Lo.self2)); done) | (with_reducible apply Lo.ne1; (repeat (first | with_reducible assumption | with_reducible apply Lo.self | with_reducible apply Lo.new | with_reducible apply Lo.set | with_reducible apply Lo.self1 | with_reducible apply Lo.self2)); done) | (with_reducible apply Lo.ne'; (repeat (first | with_reducible assumption | with_reducible apply Lo.self | with_reducible apply Lo.new | with_reducible apply Lo.set | with_reducible apply Lo.self1 | with_reducible apply Lo.self2)); done) | (with_reducible apply Lo.ne1'; (repeat (first | with_reducible assumption | with_reducible apply Lo.self | with_reducible apply Lo.new | with_reducible apply Lo.set | with_reducible apply Lo.self1 | with_reducible apply Lo.self2)); done)); done))) | exact obj_here rfl)); (· exact rfl); (· exact rfl); (· exact rfl))
    | (apply op_at; (· exact rfl))
    | apply dwp_ret
    | fail)
  have i1 : ItsF _ H1 (.sl p2 l.length c2 e2) l := ⟨p2, c2, e2, rfl, it1, if1⟩
  exact ⟨(aa1.set (Nat.le_refl _) _).set (Nat.le_succ _) _, _, rfl, ((i1.set (Nat.lt_succ_of_lt (Nat.lt_succ_self _))).set (Nat.lt_succ_self _)).older hab2.le⟩
end
end Go.Det.Q

/- Kernels: Post. -/
namespace Go.Det.Q
open Go Go.Det Go.Proofs
set_option maxRecDepth 4000
set_option maxHeartbeats 8000000
set_option linter.unusedVariables false
set_option linter.unusedSimpArgs false
def postE (l : List Item) (nx now hor a k : Int) : Int := if kOk l nx now hor then (if (!mayB a || decide (k < 0) || decide (k > 15)) then 1 else if decide (a < now) then 2 else if nx == 18446744073709551615 then 7 else pushE l) else 1
def PostS (H : DH) (l good : List Item) (nx now hor a k : Int) (r : DV) (H' : DH) : Prop :=
  Above H H' ∧ ∃ s', r = .tuple [.agg [s', .int .u64 (if postE l nx now hor a k = 0 then nx + 1 else nx), .int .i64 now, .int .i64 hor], .int .u64 (if postE l nx now hor a k = 0 then nx else 0), .int .i64 (postE l nx now hor a k)] ∧ ItsF H H' s' (if postE l nx now hor a k = 0 then good else l)
theorem post_bad {H H' : DH} {l good : List Item} {nx now hor a k e : Int} {s' : DV} (he : postE l nx now hor a k = e) (h0 : e ≠ 0) (ab : Above H H') (i : ItsF H H' s' l) : PostS H l good nx now hor a k (.tuple [.agg [s', .int .u64 nx, .int .i64 now, .int .i64 hor], .int .u64 0, .int .i64 e]) H' := by
  subst he
  unfold PostS
  rw [if_neg h0, if_neg h0, if_neg h0]
  exact ⟨ab, s', rfl, i⟩
theorem post_good {H H' : DH} {l good : List Item} {nx now hor a k : Int} {s' : DV} (he : postE l nx now hor a k = 0) (ab : Above H H') (i : ItsF H H' s' good) : PostS H l good nx now hor a k (.tuple [.agg [s', .int .u64 (nx + 1), .int .i64 now, .int .i64 hor], .int .u64 nx, .int .i64 0]) H' := by
  unfold PostS
  rw [he]
  exact ⟨ab, s', rfl, i⟩
theorem wrapU {n : Int} (h0 : 0 ≤ n) (h : n < 18446744073709551616) : IntKind.u64.wrap n = n := by
  unfold IntKind.wrap
  simp [IntKind.signed, IntKind.bits]
  omega
section
variable (H : DH) (p : Option (Nat × Nat × Nat)) (c : Nat) (ex : Bool) (l : List Item) (nx now hor a k w h m : Int) (hl : It H p c ex l) (hn : l.length ≤ 1000000) (hnx : 0 ≤ nx ∧ nx ≤ 18446744073709551615)
include hl hn hnx
theorem post37 : CallWp Try.prog K5 37 [.agg [.sl p l.length c ex, .int .u64 nx, .int .i64 now, .int .i64 hor], .int .i64 a, .int .i64 k, .int .i64 w, .int .i64 h, .int .u64 m] H (PostS H l (pushV l ⟨a, k, nx, w, h, m⟩) nx now hor a k) := by
  have hab2 : ∀ {a b : DObj}, Above H ((H.new a).new b) := fun {a b} => ((Above.refl H).new _).new _
  have hab3 : ∀ {a b d : DObj}, Above H (((H.new a).new b).new d) := fun {a b d} => hab2.new _
  have hob2 : ∀ {a b : DObj}, ((H.new a).new b).obj (H.next + 1) = some b := fun {a b} => obj_here rfl
  have hob3 : ∀ {a b d : DObj}, (((H.new a).new b).new d).obj (H.next + 1) = some b := fun {a b d} => obj_skip (Nat.ne_of_lt (Nat.lt_succ_self _)) (obj_here rfl)
  have hox2 : ∀ {a b : DObj}, ((H.new a).new b).obj H.next = some a := fun {a b} => obj_skip (Nat.ne_of_lt (Nat.lt_succ_self _)) (obj_here rfl)
  have hox3 : ∀ {a b d : DObj}, (((H.new a).new b).new d).obj H.next = some a := fun {a b d} => obj_skip (Nat.ne_of_lt (show H.next < H.next + 1 + 1 by omega)) hox2
  have lt2 : ∀ {a b : DObj}, H.next + 1 < ((H.new a).new b).next := fun {a b} => Nat.lt_succ_self _
  have lt3 : ∀ {a b d : DObj}, H.next + 1 < (((H.new a).new b).new d).next := fun {a b d} => Nat.lt_succ_of_lt (Nat.lt_succ_self _)
  cases hk : kOk l nx now hor with
  | false =>
    refine enter rfl Try.func37 rfl Try.ntmps37 rfl ?_
    dsimp only [List.cons_append, List.nil_append, List.length_cons, List.length_nil, List.replicate_succ, List.replicate_zero, Nat.reduceAdd, Nat.reduceSub]
    repeat' (first
      | dsimp only [putD, DV.cells, DH.new_next, DH.set_next, List.length_cons, List.length_nil, Nat.reduceAdd, List.set_cons_zero, List.set_cons_succ, getD_zero, getD_succ, fieldAt_zero, fieldAt_succ, thenD, blockD, retR]
      | (refine ⟨_, resOf_ctt (loadD_at rfl (by repeat (first | with_reducible assumption | (with_reducible apply obj_here; with_reducible rfl) | with_reducible apply obj_set | (with_reducible apply obj_skip_lo; (· ((repeat (first | with_reducible assumption | with_reducible apply Lo.self | with_reducible apply Lo.new | with_reducible apply Lo.set | with_reducible apply Lo.self1 | with_reducible apply Lo.self2)); done))) | (with_reducible apply obj_past; (· ((first | with_reducible assumption | with_reducible apply ne_add1 | with_reducible apply ne_add1' | with_reducible apply ne_add2 | with_reducible apply ne_add2' | with_reducible apply ne_add12 | with_reducible apply ne_add21 | (with_reducible apply Lo.ne; (repeat (first | with_reducible assumption | with_reducible apply Lo.self | with_reducible apply Lo.new | with_reducible apply Lo.set | with_reducible apply Lo.self1 | with_reducible apply Lo.self2)); done) | (with_reducible apply Lo.ne1; (repeat (first | with_reducible assumption | with_reducible apply Lo.self | with_reducible apply Lo.new | with_reducible apply Lo.set | with_reducible apply Lo.self1 | with_reducible apply Lo.self2)); done) | (with_reducible apply Lo.ne'; (repeat (first | with_reducible assumption | with_reducible apply Lo.self | with_reducible apply Lo.new | with_reducible apply Lo.set | with_reducible apply Lo.self1 | with_reducible apply Lo.self2)); done) | (with_reducible apply Lo.ne1'; (repeat (first | with_reducible assumption | with_reducible apply Lo.self | with_reducible apply Lo.new | with_reducible apply Lo.set | with_reducible apply Lo.self1 | with_reducible apply Lo.self2)); done)); done))) | exact obj_here rfl)) rfl rfl), ?_⟩)
      | apply dwp_seq
      | apply dwp_region
      | apply ops_nil
      | (apply ops_plain; (· exact rfl))
      | (apply op_call; (· exact rfl); (· exact rfl); (· exact rfl); refine call_table (g := gKc) rfl (kc_t (⟨_, _, _, rfl, hl.mono (by first | exact hab4 | exact hab3 | exact hab2)⟩ : Its _ (.sl p l.length c ex) l)) ?_; rw [hk, if_neg Bool.false_ne_true])
      | (apply op_call; (· exact rfl); (· exact rfl); (· exact rfl); refine (own64 _ p c ex l nx now hor (hl.mono (by first | exact hab4 | exact hab3 | exact hab2)) hn).mono ?_; rintro r H5 ⟨ab5, s5, rfl, p5, c5, e5, rfl, it5, if5⟩; have i5 : ItsF _ H5 (.sl p5 l.length c5 e5) l := ⟨p5, c5, e5, rfl, it5, if5⟩; have aa5 : Above H H5 := Above.trans (by first | exact hab4 | exact hab3 | exact hab2) ab5; have hob5 := ab5.obj (l := H.next + 1) (by first | exact lt4 | exact lt3 | exact lt2) (by first | exact hob4 | exact hob3 | exact hob2); have hox5 := ab5.obj (l := H.next) (Nat.lt_of_succ_lt (by first | exact lt4 | exact lt3 | exact lt2)) (by first | exact hox4 | exact hox3 | exact hox2); have lt5 : H.next + 1 < H5.next := Nat.lt_of_lt_of_le (by first | exact lt4 | exact lt3 | exact lt2) ab5.le; have hlb5 : Lo H5 (H.next + 1) := lo lt5; have hlx5 : Lo H5 H.next := lo (Nat.lt_of_succ_lt lt5))
      | (apply op_load_at; (· exact rfl); (· exact rfl); (· repeat (first | with_reducible assumption | (with_reducible apply obj_here; with_reducible rfl) | with_reducible apply obj_set | (with_reducible apply obj_skip_lo; (· ((repeat (first | with_reducible assumption | with_reducible apply Lo.self | with_reducible apply Lo.new | with_reducible apply Lo.set | with_reducible apply Lo.self1 | with_reducible apply Lo.self2)); done))) | (with_reducible apply obj_past; (· ((first | with_reducible assumption | with_reducible apply ne_add1 | with_reducible apply ne_add1' | with_reducible apply ne_add2 | with_reducible apply ne_add2' | with_reducible apply ne_add12 | with_reducible apply ne_add21 | (with_reducible apply Lo.ne; (repeat (first | with_reducible assumption | with_reducible apply Lo.self | with_reducible apply Lo.new | with_reducible apply Lo.set | with_reducible apply Lo.self1 | with_reducible apply Lo.self2)); done) | (with_reducible apply Lo.ne1; (repeat (first | with_reducible assumption | with_reducible apply Lo.self | with_reducible apply Lo.new | with_reducible apply Lo.set | with_reducible apply Lo.self1 | with_reducible apply Lo.self2)); done) | (with_reducible apply Lo.ne'; (repeat (first | with_reducible assumption | with_reducible apply Lo.self | with_reducible apply Lo.new | with_reducible apply Lo.set | with_reducible apply Lo.self1 | with_reducible apply Lo.self2)); done) | (with_reducible apply Lo.ne1'; (repeat (first | with_reducible assumption | with_reducible apply Lo.self | with_reducible apply Lo.new | with_reducible apply Lo.set | with_reducible apply Lo.self1 | with_reducible apply Lo.self2)); done)); done))) | exact obj_here rfl)); (· exact rfl); (· exact rfl))
      | (apply op_store_at; (· exact rfl); (· exact rfl); (· exact rfl); (· repeat (first | with_reducible assumption | (with_reducible apply obj_here; with_reducible rfl) | with_reducible apply obj_set | (with_reducible apply obj_skip_lo; (· ((repeat (first | with_reducible assumption | with_reducible apply Lo.self | with_reducible apply Lo.new | with_reducible apply Lo.set | with_reducible apply Lo.self1 | with_reducible apply Lo.self2)); done))) | (with_reducible apply obj_past; (· ((first | with_reducible assumption | with_reducible apply ne_add1 | with_reducible apply ne_add1' | with_reducible apply ne_add2 | with_reducible apply ne_add2' | with_reducible apply ne_add12 | with_reducible apply ne_add21 | (with_reducible apply Lo.ne; (repeat (first | with_reducible assumption | with_reducible apply Lo.self | with_reducible apply Lo.new | with_reducible apply Lo.set | with_reducible apply Lo.self1 | with_reducible apply Lo.self2)); done) | (with_reducible apply Lo.ne1; (repeat (first | with_reducible assumption | with_reducible apply Lo.self | with_reducible apply Lo.new | with_reducible apply Lo.set | with_reducible apply Lo.self1 | with_reducible apply Lo.self2)); done) | (with_reducible apply Lo.ne'; (repeat (first | with_reducible assumption | with_reducible apply Lo.self | with_reducible apply Lo.new | with_reducible apply Lo.set | with_reducible apply Lo.self1 | with_reducible apply Lo.self2)); done) | (with_reducible apply Lo.ne1'; (repeat (first | with_reducible assumption | with_reducible apply Lo.self | with_reducible apply Lo.new | with_reducible apply Lo.set | with_reducible apply Lo.self1 | with_reducible apply Lo.self2)); done)); done))) | exact obj_here rfl)); (· exact rfl); (· exact rfl); (· exact rfl))
      | (apply op_at; (· exact rfl))
      | (apply dwp_cond_t; (· exact rfl); (· (first | with_reducible assumption | with_reducible rfl | decide)))
      | apply dwp_block
      | apply dwp_skip
      | apply dwp_ret
      | fail)
    any_goals first | exact post_bad (by unfold postE; simp only [*, Bool.true_or, Bool.or_true, Bool.false_or, Bool.or_false, Bool.not_true, Bool.not_false, if_true, Bool.false_eq_true, if_false]) (by decide) (aa5.set (Nat.le_succ _) _) ((i5.set (by first | exact lt4 | exact lt3 | exact lt2)).older (by first | exact hab4.le | exact hab3.le | exact hab2.le)) | skip
  | true =>
    have hcb := kOk_check hk
    cases hM : (nx == 18446744073709551615) with
    | true =>
      refine enter rfl Try.func37 rfl Try.ntmps37 rfl ?_
      dsimp only [List.cons_append, List.nil_append, List.length_cons, List.length_nil, List.replicate_succ, List.replicate_zero, Nat.reduceAdd, Nat.reduceSub]
      repeat' (first
        | dsimp only [putD, DV.cells, DH.new_next, DH.set_next, List.length_cons, List.length_nil, Nat.reduceAdd, List.set_cons_zero, List.set_cons_succ, getD_zero, getD_succ, fieldAt_zero, fieldAt_succ, thenD, blockD, retR]
        | (refine ⟨_, resOf_ctt (loadD_at rfl (by repeat (first | with_reducible assumption | (with_reducible apply obj_here; with_reducible rfl) | with_reducible apply obj_set | (with_reducible apply obj_skip_lo; (· ((repeat (first | with_reducible assumption | with_reducible apply Lo.self | with_reducible apply Lo.new | with_reducible apply Lo.set | with_reducible apply Lo.self1 | with_reducible apply Lo.self2)); done))) | (with_reducible apply obj_past; (· ((first | with_reducible assumption | with_reducible apply ne_add1 | with_reducible apply ne_add1' | with_reducible apply ne_add2 | with_reducible apply ne_add2' | with_reducible apply ne_add12 | with_reducible apply ne_add21 | (with_reducible apply Lo.ne; (repeat (first | with_reducible assumption | with_reducible apply Lo.self | with_reducible apply Lo.new | with_reducible apply Lo.set | with_reducible apply Lo.self1 | with_reducible apply Lo.self2)); done) | (with_reducible apply Lo.ne1; (repeat (first | with_reducible assumption | with_reducible apply Lo.self | with_reducible apply Lo.new | with_reducible apply Lo.set | with_reducible apply Lo.self1 | with_reducible apply Lo.self2)); done) | (with_reducible apply Lo.ne'; (repeat (first | with_reducible assumption | with_reducible apply Lo.self | with_reducible apply Lo.new | with_reducible apply Lo.set | with_reducible apply Lo.self1 | with_reducible apply Lo.self2)); done) | (with_reducible apply Lo.ne1'; (repeat (first | with_reducible assumption | with_reducible apply Lo.self | with_reducible apply Lo.new | with_reducible apply Lo.set | with_reducible apply Lo.self1 | with_reducible apply Lo.self2)); done)); done))) | exact obj_here rfl)) rfl rfl), ?_⟩)
        | apply dwp_seq
        | apply dwp_region
        | apply ops_nil
        | (apply ops_plain; (· exact rfl))
        | (apply ops_on; (· exact rfl); (· exact rfl); (· (first | with_reducible assumption | with_reducible rfl | decide)))
        | (apply ops_off0; (· exact rfl); (· exact rfl); (· (first | with_reducible assumption | with_reducible rfl | decide)))
        | (apply ops_split0; (· exact rfl); (· exact rfl); all_goals intro hb)
        | (apply op_call; (· exact rfl); (· exact rfl); (· exact rfl); refine call_table (g := gKc) rfl (kc_t (⟨_, _, _, rfl, hl.mono (by first | exact hab4 | exact hab3 | exact hab2)⟩ : Its _ (.sl p l.length c ex) l)) ?_; rw [hk, if_pos rfl])
        | (apply op_call; (· exact rfl); (· exact rfl); (· exact rfl); refine call_table (g := gMay1) rfl (may1_t (obj_here rfl)) ?_)
        | (apply op_call; (· exact rfl); (· exact rfl); (· exact rfl); refine (own64 _ p c ex l nx now hor (hl.mono (by first | exact hab4 | exact hab3 | exact hab2)) hn).mono ?_; rintro r H5 ⟨ab5, s5, rfl, p5, c5, e5, rfl, it5, if5⟩; have i5 : ItsF _ H5 (.sl p5 l.length c5 e5) l := ⟨p5, c5, e5, rfl, it5, if5⟩; have aa5 : Above H H5 := Above.trans (by first | exact hab4 | exact hab3 | exact hab2) ab5; have hob5 := ab5.obj (l := H.next + 1) (by first | exact lt4 | exact lt3 | exact lt2) (by first | exact hob4 | exact hob3 | exact hob2); have hox5 := ab5.obj (l := H.next) (Nat.lt_of_succ_lt (by first | exact lt4 | exact lt3 | exact lt2)) (by first | exact hox4 | exact hox3 | exact hox2); have lt5 : H.next + 1 < H5.next := Nat.lt_of_lt_of_le (by first | exact lt4 | exact lt3 | exact lt2) ab5.le; have hlb5 : Lo H5 (H.next + 1) := lo lt5; have hlx5 : Lo H5 H.next := lo (Nat.lt_of_succ_lt lt5))
        | (apply op_pick_t; (· exact rfl); (· exact rfl); (· (first | with_reducible assumption | with_reducible rfl | decide)); (· exact rfl))
        | (apply op_pick_f; (· exact rfl); (· exact rfl); (· (first | with_reducible assumption | with_reducible rfl | decide)); (· exact rfl))
        | (apply op_load_at; (· exact rfl); (· exact rfl); (· repeat (first | with_reducible assumption | (with_reducible apply obj_here; with_reducible rfl) | with_reducible apply obj_set | (with_reducible apply obj_skip_lo; (· ((repeat (first | with_reducible assumption | with_reducible apply Lo.self | with_reducible apply Lo.new | with_reducible apply Lo.set | with_reducible apply Lo.self1 | with_reducible apply Lo.self2)); done))) | (with_reducible apply obj_past; (· ((first | with_reducible assumption | with_reducible apply ne_add1 | with_reducible apply ne_add1' | with_reducible apply ne_add2 | with_reducible apply ne_add2' | with_reducible apply ne_add12 | with_reducible apply ne_add21 | (with_reducible apply Lo.ne; (repeat (first | with_reducible assumption | with_reducible apply Lo.self | with_reducible apply Lo.new | with_reducible apply Lo.set | with_reducible apply Lo.self1 | with_reducible apply Lo.self2)); done) | (with_reducible apply Lo.ne1; (repeat (first | with_reducible assumption | with_reducible apply Lo.self | with_reducible apply Lo.new | with_reducible apply Lo.set | with_reducible apply Lo.self1 | with_reducible apply Lo.self2)); done) | (with_reducible apply Lo.ne'; (repeat (first | with_reducible assumption | with_reducible apply Lo.self | with_reducible apply Lo.new | with_reducible apply Lo.set | with_reducible apply Lo.self1 | with_reducible apply Lo.self2)); done) | (with_reducible apply Lo.ne1'; (repeat (first | with_reducible assumption | with_reducible apply Lo.self | with_reducible apply Lo.new | with_reducible apply Lo.set | with_reducible apply Lo.self1 | with_reducible apply Lo.self2)); done)); done))) | exact obj_here rfl)); (· exact rfl); (· exact rfl))
        | (apply op_store_at; (· exact rfl); (· exact rfl); (· exact rfl); (· repeat (first | with_reducible assumption | (with_reducible apply obj_here; with_reducible rfl) | with_reducible apply obj_set | (with_reducible apply obj_skip_lo; (· ((repeat (first | with_reducible assumption | with_reducible apply Lo.self | with_reducible apply Lo.new | with_reducible apply Lo.set | with_reducible apply Lo.self1 | with_reducible apply Lo.self2)); done))) | (with_reducible apply obj_past; (· ((first | with_reducible assumption | with_reducible apply ne_add1 | with_reducible apply ne_add1' | with_reducible apply ne_add2 | with_reducible apply ne_add2' | with_reducible apply ne_add12 | with_reducible apply ne_add21 | (with_reducible apply Lo.ne; (repeat (first | with_reducible assumption | with_reducible apply Lo.self | with_reducible apply Lo.new | with_reducible apply Lo.set | with_reducible apply Lo.self1 | with_reducible apply Lo.self2)); done) | (with_reducible apply Lo.ne1; (repeat (first | with_reducible assumption | with_reducible apply Lo.self | with_reducible apply Lo.new | with_reducible apply Lo.set | with_reducible apply Lo.self1 | with_reducible apply Lo.self2)); done) | (with_reducible apply Lo.ne'; (repeat (first | with_reducible assumption | with_reducible apply Lo.self | with_reducible apply Lo.new | with_reducible apply Lo.set | with_reducible apply Lo.self1 | with_reducible apply Lo.self2)); done) | (with_reducible apply Lo.ne1'; (repeat (first | with_reducible assumption | with_reducible apply Lo.self | with_reducible apply Lo.new | with_reducible apply Lo.set | with_reducible apply Lo.self1 | with_reducible apply Lo.self2)); done)); done))) | exact obj_here rfl)); (· exact rfl); (· exact rfl); (· exact rfl))
        | (apply op_at; (· exact rfl))
        | (apply dwp_cond_t; (· exact rfl); (· (first | with_reducible assumption | with_reducible rfl | decide)))
        | (apply dwp_cond_f; (· exact rfl); (· (first | with_reducible assumption | with_reducible rfl | decide)))
        | (refine dwp_cond rfl ?_ ?_ <;> intro hb)
        | apply dwp_block
        | apply dwp_ret
        | fail)
      any_goals first | exact post_bad (by unfold postE; simp only [*, Bool.true_or, Bool.or_true, Bool.false_or, Bool.or_false, Bool.not_true, Bool.not_false, if_true, Bool.false_eq_true, if_false]) (by decide) (aa5.set (Nat.le_succ _) _) ((i5.set (by first | exact lt4 | exact lt3 | exact lt2)).older (by first | exact hab4.le | exact hab3.le | exact hab2.le)) | skip
    | false =>
      have hnw : DV.int .u64 (IntKind.u64.wrap (nx + 1)) = .int .u64 (nx + 1) := by
        have : nx ≠ 18446744073709551615 := by simpa using hM
        rw [wrapU (by omega) (by omega)]
      by_cases h4 : l.length = 4096
      · have hP := pushE_full hcb h4
        refine enter rfl Try.func37 rfl Try.ntmps37 rfl ?_
        dsimp only [List.cons_append, List.nil_append, List.length_cons, List.length_nil, List.replicate_succ, List.replicate_zero, Nat.reduceAdd, Nat.reduceSub]
        repeat' (first
          | dsimp only [putD, DV.cells, DH.new_next, DH.set_next, List.length_cons, List.length_nil, Nat.reduceAdd, List.set_cons_zero, List.set_cons_succ, getD_zero, getD_succ, fieldAt_zero, fieldAt_succ, thenD, blockD, retR]
          | (refine ⟨_, resOf_ctt (loadD_at rfl (by repeat (first | with_reducible assumption | (with_reducible apply obj_here; with_reducible rfl) | with_reducible apply obj_set | (with_reducible apply obj_skip_lo; (· ((repeat (first | with_reducible assumption | with_reducible apply Lo.self | with_reducible apply Lo.new | with_reducible apply Lo.set | with_reducible apply Lo.self1 | with_reducible apply Lo.self2)); done))) | (with_reducible apply obj_past; (· ((first | with_reducible assumption | with_reducible apply ne_add1 | with_reducible apply ne_add1' | with_reducible apply ne_add2 | with_reducible apply ne_add2' | with_reducible apply ne_add12 | with_reducible apply ne_add21 | (with_reducible apply Lo.ne; (repeat (first | with_reducible assumption | with_reducible apply Lo.self | with_reducible apply Lo.new | with_reducible apply Lo.set | with_reducible apply Lo.self1 | with_reducible apply Lo.self2)); done) | (with_reducible apply Lo.ne1; (repeat (first | with_reducible assumption | with_reducible apply Lo.self | with_reducible apply Lo.new | with_reducible apply Lo.set | with_reducible apply Lo.self1 | with_reducible apply Lo.self2)); done) | (with_reducible apply Lo.ne'; (repeat (first | with_reducible assumption | with_reducible apply Lo.self | with_reducible apply Lo.new | with_reducible apply Lo.set | with_reducible apply Lo.self1 | with_reducible apply Lo.self2)); done) | (with_reducible apply Lo.ne1'; (repeat (first | with_reducible assumption | with_reducible apply Lo.self | with_reducible apply Lo.new | with_reducible apply Lo.set | with_reducible apply Lo.self1 | with_reducible apply Lo.self2)); done)); done))) | exact obj_here rfl)) rfl rfl), ?_⟩)
          | apply dwp_seq
          | apply dwp_region
          | apply ops_nil
          | (apply ops_plain; (· exact rfl))
          | (apply ops_on; (· exact rfl); (· exact rfl); (· (first | with_reducible assumption | with_reducible rfl | decide)))
          | (apply ops_off0; (· exact rfl); (· exact rfl); (· (first | with_reducible assumption | with_reducible rfl | decide)))
          | (apply ops_split0; (· exact rfl); (· exact rfl); all_goals intro hb)
          | (apply op_call; (· exact rfl); (· exact rfl); (· exact rfl); refine call_table (g := gKc) rfl (kc_t (⟨_, _, _, rfl, hl.mono (by first | exact hab4 | exact hab3 | exact hab2)⟩ : Its _ (.sl p l.length c ex) l)) ?_; rw [hk, if_pos rfl])
          | (apply op_call; (· exact rfl); (· exact rfl); (· exact rfl); refine call_table (g := gMay1) rfl (may1_t (obj_here rfl)) ?_)
          | (apply op_call; (· exact rfl); (· exact rfl); (· exact rfl); refine (own64 _ p c ex l nx now hor (hl.mono (by first | exact hab4 | exact hab3 | exact hab2)) hn).mono ?_; rintro r H5 ⟨ab5, s5, rfl, p5, c5, e5, rfl, it5, if5⟩; have i5 : ItsF _ H5 (.sl p5 l.length c5 e5) l := ⟨p5, c5, e5, rfl, it5, if5⟩; have aa5 : Above H H5 := Above.trans (by first | exact hab4 | exact hab3 | exact hab2) ab5; have hob5 := ab5.obj (l := H.next + 1) (by first | exact lt4 | exact lt3 | exact lt2) (by first | exact hob4 | exact hob3 | exact hob2); have hox5 := ab5.obj (l := H.next) (Nat.lt_of_succ_lt (by first | exact lt4 | exact lt3 | exact lt2)) (by first | exact hox4 | exact hox3 | exact hox2); have lt5 : H.next + 1 < H5.next := Nat.lt_of_lt_of_le (by first | exact lt4 | exact lt3 | exact lt2) ab5.le; have hlb5 : Lo H5 (H.next + 1) := lo lt5; have hlx5 : Lo H5 H.next := lo (Nat.lt_of_succ_lt lt5))
          | (apply op_call; (· exact rfl); (· exact rfl); (· exact rfl); refine (CallWp.up upK5 (push_c (⟨a, k, nx, w, h, m⟩ : Item) (⟨_, _, _, rfl, hl.mono (by first | exact hab3 | exact hab2)⟩ : Its _ (.sl p l.length c ex) l) hn)).mono ?_; rintro r H4 ⟨ab4, s4, rfl, i4⟩; rw [hP]; obtain ⟨p4, c4, e4, rfl, it4, if4⟩ := i4; have hab4 : Above H H4 := Above.trans (by first | exact hab3 | exact hab2) ab4; have hob4 := ab4.obj (l := H.next + 1) (by first | exact lt3 | exact lt2) (by first | exact hob3 | exact hob2); have hox4 := ab4.obj (l := H.next) (Nat.lt_of_succ_lt (by first | exact lt3 | exact lt2)) (by first | exact hox3 | exact hox2); have lt4 : H.next + 1 < H4.next := Nat.lt_of_lt_of_le (by first | exact lt3 | exact lt2) ab4.le; have hlb4 : Lo H4 (H.next + 1) := lo lt4; have hlx4 : Lo H4 H.next := lo (Nat.lt_of_succ_lt lt4))
          | (apply op_pick_t; (· exact rfl); (· exact rfl); (· (first | with_reducible assumption | with_reducible rfl | decide)); (· exact rfl))
          | (apply op_pick_f; (· exact rfl); (· exact rfl); (· (first | with_reducible assumption | with_reducible rfl | decide)); (· exact rfl))
          | (apply op_load_at; (· exact rfl); (· exact rfl); (· repeat (first | with_reducible assumption | (with_reducible apply obj_here; with_reducible rfl) | with_reducible apply obj_set | (with_reducible apply obj_skip_lo; (· ((repeat (first | with_reducible assumption | with_reducible apply Lo.self | with_reducible apply Lo.new | with_reducible apply Lo.set | with_reducible apply Lo.self1 | with_reducible apply Lo.self2)); done))) | (with_reducible apply obj_past; (· ((first | with_reducible assumption | with_reducible apply ne_add1 | with_reducible apply ne_add1' | with_reducible apply ne_add2 | with_reducible apply ne_add2' | with_reducible apply ne_add12 | with_reducible apply ne_add21 | (with_reducible apply Lo.ne; (repeat (first | with_reducible assumption | with_reducible apply Lo.self | with_reducible apply Lo.new | with_reducible apply Lo.set | with_reducible apply Lo.self1 | with_reducible apply Lo.self2)); done) | (with_reducible apply Lo.ne1; (repeat (first | with_reducible assumption | with_reducible apply Lo.self | with_reducible apply Lo.new | with_reducible apply Lo.set | with_reducible apply Lo.self1 | with_reducible apply Lo.self2)); done) | (with_reducible apply Lo.ne'; (repeat (first | with_reducible assumption | with_reducible apply Lo.self | with_reducible apply Lo.new | with_reducible apply Lo.set | with_reducible apply Lo.self1 | with_reducible apply Lo.self2)); done) | (with_reducible apply Lo.ne1'; (repeat (first | with_reducible assumption | with_reducible apply Lo.self | with_reducible apply Lo.new | with_reducible apply Lo.set | with_reducible apply Lo.self1 | with_reducible apply Lo.self2)); done)); done))) | exact obj_here rfl)); (· exact rfl); (· exact rfl))
          | (apply op_store_at; (· exact rfl); (· exact rfl); (· exact rfl); (· repeat (first | with_reducible assumption | (with_reducible apply obj_here; with_reducible rfl) | with_reducible apply obj_set | (with_reducible apply obj_skip_lo; (· ((repeat (first | with_reducible assumption | with_reducible apply Lo.self | with_reducible apply Lo.new | with_reducible apply Lo.set | with_reducible apply Lo.self1 | with_reducible apply Lo.self2)); done))) | (with_reducible apply obj_past; (· ((first | with_reducible assumption | with_reducible apply ne_add1 | with_reducible apply ne_add1' | with_reducible apply ne_add2 | with_reducible apply ne_add2' | with_reducible apply ne_add12 | with_reducible apply ne_add21 | (with_reducible apply Lo.ne; (repeat (first | with_reducible assumption | with_reducible apply Lo.self | with_reducible apply Lo.new | with_reducible apply Lo.set | with_reducible apply Lo.self1 | with_reducible apply Lo.self2)); done) | (with_reducible apply Lo.ne1; (repeat (first | with_reducible assumption | with_reducible apply Lo.self | with_reducible apply Lo.new | with_reducible apply Lo.set | with_reducible apply Lo.self1 | with_reducible apply Lo.self2)); done) | (with_reducible apply Lo.ne'; (repeat (first | with_reducible assumption | with_reducible apply Lo.self | with_reducible apply Lo.new | with_reducible apply Lo.set | with_reducible apply Lo.self1 | with_reducible apply Lo.self2)); done) | (with_reducible apply Lo.ne1'; (repeat (first | with_reducible assumption | with_reducible apply Lo.self | with_reducible apply Lo.new | with_reducible apply Lo.set | with_reducible apply Lo.self1 | with_reducible apply Lo.self2)); done)); done))) | exact obj_here rfl)); (· exact rfl); (· exact rfl); (· exact rfl))
          | (apply op_at; (· exact rfl))
          | (apply dwp_cond_t; (· exact rfl); (· (first | with_reducible assumption | with_reducible rfl | decide)))
          | (apply dwp_cond_f; (· exact rfl); (· (first | with_reducible assumption | with_reducible rfl | decide)))
          | (refine dwp_cond rfl ?_ ?_ <;> intro hb)
          | apply dwp_block
          | apply dwp_skip
          | apply dwp_ret
          | fail)
        any_goals first | exact post_bad (by unfold postE; simp only [*, Bool.true_or, Bool.or_true, Bool.false_or, Bool.or_false, Bool.not_true, Bool.not_false, if_true, Bool.false_eq_true, if_false]) (by decide) (aa5.set (Nat.le_succ _) _) ((i5.set (by first | exact lt4 | exact lt3 | exact lt2)).older (by first | exact hab4.le | exact hab3.le | exact hab2.le)) | skip
      · have hP := pushE_ok hcb h4
        refine enter rfl Try.func37 rfl Try.ntmps37 rfl ?_
        dsimp only [List.cons_append, List.nil_append, List.length_cons, List.length_nil, List.replicate_succ, List.replicate_zero, Nat.reduceAdd, Nat.reduceSub]
        repeat' (first
          | dsimp only [putD, DV.cells, DH.new_next, DH.set_next, List.length_cons, List.length_nil, Nat.reduceAdd, List.set_cons_zero, List.set_cons_succ, getD_zero, getD_succ, fieldAt_zero, fieldAt_succ, thenD, blockD, retR]
          | (refine ⟨_, resOf_ctt (loadD_at rfl (by repeat (first | with_reducible assumption | (with_reducible apply obj_here; with_reducible rfl) | with_reducible apply obj_set | (with_reducible apply obj_skip_lo; (· ((repeat (first | with_reducible assumption | with_reducible apply Lo.self | with_reducible apply Lo.new | with_reducible apply Lo.set | with_reducible apply Lo.self1 | with_reducible apply Lo.self2)); done))) | (with_reducible apply obj_past; (· ((first | with_reducible assumption | with_reducible apply ne_add1 | with_reducible apply ne_add1' | with_reducible apply ne_add2 | with_reducible apply ne_add2' | with_reducible apply ne_add12 | with_reducible apply ne_add21 | (with_reducible apply Lo.ne; (repeat (first | with_reducible assumption | with_reducible apply Lo.self | with_reducible apply Lo.new | with_reducible apply Lo.set | with_reducible apply Lo.self1 | with_reducible apply Lo.self2)); done) | (with_reducible apply Lo.ne1; (repeat (first | with_reducible assumption | with_reducible apply Lo.self | with_reducible apply Lo.new | with_reducible apply Lo.set | with_reducible apply Lo.self1 | with_reducible apply Lo.self2)); done) | (with_reducible apply Lo.ne'; (repeat (first | with_reducible assumption | with_reducible apply Lo.self | with_reducible apply Lo.new | with_reducible apply Lo.set | with_reducible apply Lo.self1 | with_reducible apply Lo.self2)); done) | (with_reducible apply Lo.ne1'; (repeat (first | with_reducible assumption | with_reducible apply Lo.self | with_reducible apply Lo.new | with_reducible apply Lo.set | with_reducible apply Lo.self1 | with_reducible apply Lo.self2)); done)); done))) | exact obj_here rfl)) rfl rfl), ?_⟩)
          | apply dwp_seq
          | apply dwp_region
          | apply ops_nil
          | (apply ops_plain; (· exact rfl))
          | (apply ops_on; (· exact rfl); (· exact rfl); (· (first | with_reducible assumption | with_reducible rfl | decide)))
          | (apply ops_off0; (· exact rfl); (· exact rfl); (· (first | with_reducible assumption | with_reducible rfl | decide)))
          | (apply ops_split0; (· exact rfl); (· exact rfl); all_goals intro hb)
          | (apply op_call; (· exact rfl); (· exact rfl); (· exact rfl); refine call_table (g := gKc) rfl (kc_t (⟨_, _, _, rfl, hl.mono (by first | exact hab4 | exact hab3 | exact hab2)⟩ : Its _ (.sl p l.length c ex) l)) ?_; rw [hk, if_pos rfl])
          | (apply op_call; (· exact rfl); (· exact rfl); (· exact rfl); refine call_table (g := gMay1) rfl (may1_t (obj_here rfl)) ?_)
          | (apply op_call; (· exact rfl); (· exact rfl); (· exact rfl); refine (own64 _ p c ex l nx now hor (hl.mono (by first | exact hab4 | exact hab3 | exact hab2)) hn).mono ?_; rintro r H5 ⟨ab5, s5, rfl, p5, c5, e5, rfl, it5, if5⟩; have i5 : ItsF _ H5 (.sl p5 l.length c5 e5) l := ⟨p5, c5, e5, rfl, it5, if5⟩; have aa5 : Above H H5 := Above.trans (by first | exact hab4 | exact hab3 | exact hab2) ab5; have hob5 := ab5.obj (l := H.next + 1) (by first | exact lt4 | exact lt3 | exact lt2) (by first | exact hob4 | exact hob3 | exact hob2); have hox5 := ab5.obj (l := H.next) (Nat.lt_of_succ_lt (by first | exact lt4 | exact lt3 | exact lt2)) (by first | exact hox4 | exact hox3 | exact hox2); have lt5 : H.next + 1 < H5.next := Nat.lt_of_lt_of_le (by first | exact lt4 | exact lt3 | exact lt2) ab5.le; have hlb5 : Lo H5 (H.next + 1) := lo lt5; have hlx5 : Lo H5 H.next := lo (Nat.lt_of_succ_lt lt5))
          | (apply op_call; (· exact rfl); (· exact rfl); (· exact rfl); refine (CallWp.up upK5 (push_c (⟨a, k, nx, w, h, m⟩ : Item) (⟨_, _, _, rfl, hl.mono (by first | exact hab3 | exact hab2)⟩ : Its _ (.sl p l.length c ex) l) hn)).mono ?_; rintro r H4 ⟨ab4, s4, rfl, i4⟩; rw [hP]; obtain ⟨p4, c4, e4, rfl, it4, if4⟩ := i4; have hab4 : Above H H4 := Above.trans (by first | exact hab3 | exact hab2) ab4; have hob4 := ab4.obj (l := H.next + 1) (by first | exact lt3 | exact lt2) (by first | exact hob3 | exact hob2); have hox4 := ab4.obj (l := H.next) (Nat.lt_of_succ_lt (by first | exact lt3 | exact lt2)) (by first | exact hox3 | exact hox2); have lt4 : H.next + 1 < H4.next := Nat.lt_of_lt_of_le (by first | exact lt3 | exact lt2) ab4.le; have hlb4 : Lo H4 (H.next + 1) := lo lt4; have hlx4 : Lo H4 H.next := lo (Nat.lt_of_succ_lt lt4))
          | (apply op_pick_t; (· exact rfl); (· exact rfl); (· (first | with_reducible assumption | with_reducible rfl | decide)); (· exact rfl))
          | (apply op_pick_f; (· exact rfl); (· exact rfl); (· (first | with_reducible assumption | with_reducible rfl | decide)); (· exact rfl))
          | (apply op_told; (· exact rfl); (· exact hnw))
          | (apply op_load_at; (· exact rfl); (· exact rfl); (· repeat (first | with_reducible assumption | (with_reducible apply obj_here; with_reducible rfl) | with_reducible apply obj_set | (with_reducible apply obj_skip_lo; (· ((repeat (first | with_reducible assumption | with_reducible apply Lo.self | with_reducible apply Lo.new | with_reducible apply Lo.set | with_reducible apply Lo.self1 | with_reducible apply Lo.self2)); done))) | (with_reducible apply obj_past; (· ((first | with_reducible assumption | with_reducible apply ne_add1 | with_reducible apply ne_add1' | with_reducible apply ne_add2 | with_reducible apply ne_add2' | with_reducible apply ne_add12 | with_reducible apply ne_add21 | (with_reducible apply Lo.ne; (repeat (first | with_reducible assumption | with_reducible apply Lo.self | with_reducible apply Lo.new | with_reducible apply Lo.set | with_reducible apply Lo.self1 | with_reducible apply Lo.self2)); done) | (with_reducible apply Lo.ne1; (repeat (first | with_reducible assumption | with_reducible apply Lo.self | with_reducible apply Lo.new | with_reducible apply Lo.set | with_reducible apply Lo.self1 | with_reducible apply Lo.self2)); done) | (with_reducible apply Lo.ne'; (repeat (first | with_reducible assumption | with_reducible apply Lo.self | with_reducible apply Lo.new | with_reducible apply Lo.set | with_reducible apply Lo.self1 | with_reducible apply Lo.self2)); done) | (with_reducible apply Lo.ne1'; (repeat (first | with_reducible assumption | with_reducible apply Lo.self | with_reducible apply Lo.new | with_reducible apply Lo.set | with_reducible apply Lo.self1 | with_reducible apply Lo.self2)); done)); done))) | exact obj_here rfl)); (· exact rfl); (· exact rfl))
          | (apply op_store_at; (· exact rfl); (· exact rfl); (· exact rfl); (· repeat (first | with_reducible assumption | (with_reducible apply obj_here; with_reducible rfl) | with_reducible apply obj_set | (with_reducible apply obj_skip_lo; (· ((repeat (first | with_reducible assumption | with_reducible apply Lo.self | with_reducible apply Lo.new | with_reducible apply Lo.set | with_reducible apply Lo.self1 | with_reducible apply Lo.self2)); done))) | (with_reducible apply obj_past; (· ((first | with_reducible assumption | with_reducible apply ne_add1 | with_reducible apply ne_add1' | with_reducible apply ne_add2 | with_reducible apply ne_add2' | with_reducible apply ne_add12 | with_reducible apply ne_add21 | (with_reducible apply Lo.ne; (repeat (first | with_reducible assumption | with_reducible apply Lo.self | with_reducible apply Lo.new | with_reducible apply Lo.set | with_reducible apply Lo.self1 | with_reducible apply Lo.self2)); done) | (with_reducible apply Lo.ne1; (repeat (first | with_reducible assumption | with_reducible apply Lo.self | with_reducible apply Lo.new | with_reducible apply Lo.set | with_reducible apply Lo.self1 | with_reducible apply Lo.self2)); done) | (with_reducible apply Lo.ne'; (repeat (first | with_reducible assumption | with_reducible apply Lo.self | with_reducible apply Lo.new | with_reducible apply Lo.set | with_reducible apply Lo.self1 | with_reducible apply Lo.self2)); done) | (with_reducible apply Lo.ne1'; (repeat (first | with_reducible assumption | with_reducible apply Lo.self | with_reducible apply Lo.new | with_reducible apply Lo.set | with_reducible apply Lo.self1 | with_reducible apply Lo.self2)); done)); done))) | exact obj_here rfl)); (· exact rfl); (· exact rfl); (· exact rfl))
          | (apply op_at; (· exact rfl))
          | (apply dwp_cond_t; (· exact rfl); (· (first | with_reducible assumption | with_reducible rfl | decide)))
          | (apply dwp_cond_f; (· exact rfl); (· (first | with_reducible assumption | with_reducible rfl | decide)))
          | (refine dwp_cond rfl ?_ ?_ <;> intro hb)
          | apply dwp_block
          | apply dwp_skip
          | apply dwp_ret
          | fail)
        any_goals first | exact post_bad (by unfold postE; simp only [*, Bool.true_or, Bool.or_true, Bool.false_or, Bool.or_false, Bool.not_true, Bool.not_false, if_true, Bool.false_eq_true, if_false]) (by decide) (aa5.set (Nat.le_succ _) _) ((i5.set (by first | exact lt4 | exact lt3 | exact lt2)).older (by first | exact hab4.le | exact hab3.le | exact hab2.le)) | skip
        exact post_good (by unfold postE; simp only [*, Bool.true_or, Bool.or_true, Bool.false_or, Bool.or_false, Bool.not_true, Bool.not_false, if_true, Bool.false_eq_true, if_false]) (((hab4.set (Nat.le_refl _) _).set (Nat.le_refl _) _).set (Nat.le_succ _) _) ((((ItsF.set ⟨p4, c4, e4, rfl, it4, if4⟩ (Nat.lt_of_succ_lt lt3)).set (Nat.lt_of_succ_lt lt3)).set lt3).older hab3.le)
end
end Go.Det.Q

/- Kernels: the reference's Post. -/
namespace Go.Det.Q
open Go Go.Det Go.Proofs
set_option maxRecDepth 4000
set_option maxHeartbeats 8000000
set_option linter.unusedVariables false
set_option linter.unusedSimpArgs false
theorem set_other {H : DH} {l m : Nat} {o : Option DObj} (h : l ≠ m) : (H.set m o).obj l = H.obj l := by simp only [DH.set]; rw [if_neg h]
theorem obj_new_lt {H : DH} {l : Nat} {o : DObj} (h : l < H.next) : (H.new o).obj l = H.obj l := by simp only [DH.new]; rw [if_neg (Nat.ne_of_lt h)]
theorem obj_setA {H : DH} {l : Nat} {o : Option DObj} : (H.set l o).obj l = o := by simp [DH.set]
structure AfterC (H H1 : DH) (rx rb : DObj) : Prop where
  aa : Above H H1
  ob : H1.obj (H.next + 1) = some rb
  ox : H1.obj H.next = some rx
  lt : H.next + 1 < H1.next
theorem AfterC.of {H H1 : DH} {rx rb : DObj} (ab : Above ((H.new rx).new rb) H1) : AfterC H H1 rx rb :=
  ⟨(((Above.refl H).new _).new _).trans ab, ab.obj (l := H.next + 1) (Nat.lt_succ_self _) (obj_here rfl), ab.obj (l := H.next) (Nat.lt_succ_of_lt (Nat.lt_succ_self _)) (obj_skip (Nat.ne_of_lt (Nat.lt_succ_self _)) (obj_here rfl)), Nat.lt_of_lt_of_le (Nat.lt_succ_self _) ab.le⟩
section
variable {H H1 : DH} {rx rb : DObj} (F : AfterC H H1 rx rb) {o d : DObj} {o' : Option DObj}
theorem aboveQ : Above H1 ((H1.new o).set H1.next o') := ((Above.refl _).new _).set (Nat.le_refl _) _
include F
end
section
variable (H : DH) (p : Option (Nat × Nat × Nat)) (c : Nat) (ex : Bool) (l : List Item) (nx now hor a k w h m : Int) (hl : It H p c ex l) (hn : l.length ≤ 1000000) (hnx : 0 ≤ nx ∧ nx ≤ 18446744073709551615)
include hl hn hnx in
end
end Go.Det.Q
