/- slices.SortFunc at items: the kit's contract, told in my reading's terms. -/
import Derived.Shelf.SlSortCmp.WholeK
import Derived.Test.YtpgobchpnjgbdaaHMerge10
namespace Go.Proofs
open Go.Shelf Go.RowKit Go.Lib Go.Sort
-- what the kit's command 'shelf_lay_g SlLaysF0.n6 Slsf 6 at Try 59' lays, in plain words
def Try.sortItem_ren : Go.Shelf.Ren := ⟨fun | 6 => 59 | 15 => 70 | 14 => 69 | 28 => 85 | 29 => 86 | 20 => 77 | 21 => 78 | 22 => 79 | 23 => 80 | 24 => 81 | 25 => 82 | 26 => 83 | 27 => 84 | 46 => 91 | 47 => 92 | 48 => 93 | 49 => 94 | 50 => 95 | 57 => 96 | n => n, fun | 22 => 23 | 24 => 26 | 25 => 80 | 3 => 3 | 39 => 88 | 0 => 0 | 53 => 104 | 55 => 24 | 4 => 4 | 46 => 98 | 45 => 97 | 50 => 44 | 5 => 5 | 9 => 9 | 66 => 110 | 70 => 114 | 76 => 116 | 77 => 117 | n => n, fun | n => n⟩
theorem Try.sortItem : Go.Proofs.SlLaysF0.n6 Try.prog Try.sortItem_ren where
  mixed := by kernel_rfl
  f6 := ⟨"slices.SortFunc[[]pallet/api.Item,pallet/api.Item]", by decide, Try.func59.trans (congrArg some (by kernel_rfl))⟩
  f14 := ⟨"slices.pdqsortCmpFunc[pallet/api.Item]", by decide, Try.func69.trans (congrArg some (by kernel_rfl))⟩
  f15 := Try.func70.trans (congrArg some (by kernel_rfl))
  f20 := ⟨"slices.insertionSortCmpFunc[pallet/api.Item]", by decide, Try.func77.trans (congrArg some (by kernel_rfl))⟩
  f21 := ⟨"slices.heapSortCmpFunc[pallet/api.Item]", by decide, Try.func78.trans (congrArg some (by kernel_rfl))⟩
  f22 := ⟨"slices.breakPatternsCmpFunc[pallet/api.Item]", by decide, Try.func79.trans (congrArg some (by kernel_rfl))⟩
  f23 := ⟨"slices.choosePivotCmpFunc[pallet/api.Item]", by decide, Try.func80.trans (congrArg some (by kernel_rfl))⟩
  f24 := ⟨"slices.reverseRangeCmpFunc[pallet/api.Item]", by decide, Try.func81.trans (congrArg some (by kernel_rfl))⟩
  f25 := ⟨"slices.partialInsertionSortCmpFunc[pallet/api.Item]", by decide, Try.func82.trans (congrArg some (by kernel_rfl))⟩
  f26 := ⟨"slices.partitionEqualCmpFunc[pallet/api.Item]", by decide, Try.func83.trans (congrArg some (by kernel_rfl))⟩
  f27 := ⟨"slices.partitionCmpFunc[pallet/api.Item]", by decide, Try.func84.trans (congrArg some (by kernel_rfl))⟩
  f28 := Try.func85.trans (congrArg some (by kernel_rfl))
  f29 := Try.func86.trans (congrArg some (by kernel_rfl))
  f46 := ⟨"slices.siftDownCmpFunc[pallet/api.Item]", by decide, Try.func91.trans (congrArg some (by kernel_rfl))⟩
  f47 := Try.func92.trans (congrArg some (by kernel_rfl))
  f48 := Try.func93.trans (congrArg some (by kernel_rfl))
  f49 := ⟨"slices.medianAdjacentCmpFunc[pallet/api.Item]", by decide, Try.func94.trans (congrArg some (by kernel_rfl))⟩
  f50 := ⟨"slices.medianCmpFunc[pallet/api.Item]", by decide, Try.func95.trans (congrArg some (by kernel_rfl))⟩
  f57 := ⟨"slices.order2CmpFunc[pallet/api.Item]", by decide, Try.func96.trans (congrArg some (by kernel_rfl))⟩
  t0 := Try.underlying0
  a0 := Try.isAgg0
  z0 := Try.sizeOf0
  v0 := Try.zeroValue0
  t3 := Try.underlying3
  a3 := Try.isAgg3
  z3 := Try.sizeOf3
  v3 := Try.zeroValue3
  t4 := Try.underlying4
  a4 := Try.isAgg4
  z4 := Try.sizeOf4
  v4 := Try.zeroValue4
  t5 := Try.underlying5
  a5 := Try.isAgg5
  z5 := Try.sizeOf5
  v5 := Try.zeroValue5
  t9 := Try.underlying9
  a9 := Try.isAgg9
  z9 := Try.sizeOf9
  v9 := Try.zeroValue9
  t22 := Try.underlying23
  a22 := Try.isAgg23
  z22 := Try.sizeOf23
  v22 := Try.zeroValue23
  t25 := Try.underlying80
  a25 := Try.isAgg80
  z25 := Try.sizeOf80
  v25 := Try.zeroValue80
  t39 := Try.underlying88
  a39 := Try.isAgg88
  z39 := Try.sizeOf88
  v39 := Try.zeroValue88
  t45 := Try.underlying97
  a45 := Try.isAgg97
  z45 := Try.sizeOf97
  v45 := Try.zeroValue97
  t46 := Try.underlying98
  a46 := Try.isAgg98
  z46 := Try.sizeOf98
  v46 := Try.zeroValue98
  t50 := Try.underlying44
  a50 := Try.isAgg44
  z50 := Try.sizeOf44
  v50 := Try.zeroValue44
  t53 := Try.underlying104
  a53 := Try.isAgg104
  z53 := Try.sizeOf104
  v53 := Try.zeroValue104
  t55 := Try.underlying24
  a55 := Try.isAgg24
  z55 := Try.sizeOf24
  v55 := Try.zeroValue24
  t66 := Try.underlying110
  a66 := Try.isAgg110
  z66 := Try.sizeOf110
  v66 := Try.zeroValue110
  t70 := Try.underlying114
  a70 := Try.isAgg114
  z70 := Try.sizeOf114
  v70 := Try.zeroValue114
  t76 := Try.underlying116
  a76 := Try.isAgg116
  z76 := Try.sizeOf116
  v76 := Try.zeroValue116
  t77 := Try.underlying117
  a77 := Try.isAgg117
  z77 := Try.sizeOf117
  v77 := Try.zeroValue117
end Go.Proofs
namespace Go.Det.Q
open Go Go.Det Go.Proofs Go.RowKit Go.Sort
set_option maxRecDepth 4000
set_option maxHeartbeats 4000000
set_option linter.unusedVariables false
set_option linter.unusedSimpArgs false
instance : Inhabited Item := ⟨⟨0, 0, 0, 0, 0, 0⟩⟩
def encI (x : Item) : List Value := [.int .i64 x.a, .int .i64 x.c, .int .u64 x.s, .int .i64 x.w, .int .i64 x.h, .int .u64 x.n]
theorem encI_rel (ρ : Rho) (x : Item) : VRs ρ x.cells (encI x) := by
  simp [Item.cells, encI, VRs, VR]
theorem enc_at (x : Item) {r : Nat} (hr : r < 6) : ∃ d, x.cells[r]? = some d ∧ d.one = true ∧ ∀ ρ c, VR ρ d c ↔ c = (encI x)[r]! := by
  match r, hr with
  | 0, _ => exact ⟨_, rfl, rfl, fun ρ c => by simp [VR, encI]⟩
  | 1, _ => exact ⟨_, rfl, rfl, fun ρ c => by simp [VR, encI]⟩
  | 2, _ => exact ⟨_, rfl, rfl, fun ρ c => by simp [VR, encI]⟩
  | 3, _ => exact ⟨_, rfl, rfl, fun ρ c => by simp [VR, encI]⟩
  | 4, _ => exact ⟨_, rfl, rfl, fun ρ c => by simp [VR, encI]⟩
  | 5, _ => exact ⟨_, rfl, rfl, fun ρ c => by simp [VR, encI]⟩
/-- Nothing of what there was has changed: the world has grown, and has drawn. -/
theorem grow_of {ρ ρ' : Rho} {H' : DH} {W w' : World} (m : Moves ρ H0 W ρ' H' w') : ∃ q os', w' = grow (W.drewN q) os' := by
  refine ⟨w'.drawn - W.drawn, w'.heap.extract W.heap.size w'.heap.size, ?_⟩
  have h1 := m.os
  have h2 := m.tape
  have h3 := m.output
  have h4 := m.drawn
  have h5 := m.size
  have h6 : ∀ b, b < W.heap.size → w'.heap[b]? = W.heap[b]? := fun b hb => m.same b hb fun ⟨l, o, pl, ho, _⟩ => by cases ho
  cases w' with
  | mk heap tape drawn os output =>
    cases W with
    | mk heap0 tape0 drawn0 os0 output0 =>
      simp only at h1 h2 h3 h4 h5 h6
      subst h1 h2 h3
      simp only [grow, World.drewN, World.mk.injEq, and_true, true_and]
      refine ⟨?_, by omega⟩
      apply Array.ext_getElem?
      intro k
      rw [Array.getElem?_append]
      split
      · rename_i hk; exact h6 k hk
      · rename_i hk
        rw [Array.getElem?_extract]
        split
        · congr 1; omega
        · rename_i h; rw [Array.getElem?_eq_none]; omega
theorem cmp_lays (x y : Item) (W : World) : Calls Try.prog 60 #[.agg (encI x).toArray, .agg (encI y).toArray] W fun e w' => e = .returned (.int .i64 (icmp x y)) ∧ ∃ q os', w' = grow (W.drewN q) os' := by
  obtain ⟨k, r, H1, hk, rfl⟩ := (cmp60 x y).ex
  refine (calls_sound okX1 Try.func60 rfl rfl hk (empty_agree (W := W)) (vs := #[.agg (encI x).toArray, .agg (encI y).toArray]) ?_).mono fun e w' he => ?_
  · refine .cons ?_ (.one ?_)
    · simp only [VR]; exact ⟨rfl, _, rfl, encI_rel _ x⟩
    · simp only [VR]; exact ⟨rfl, _, rfl, encI_rel _ y⟩
  · cases e with
    | returned v =>
      obtain ⟨ρ', h1, h2⟩ := he
      simp only [VR] at h1
      subst h1
      exact ⟨rfl, grow_of h2⟩
    | panicked ch => exact he.elim
    | outgrown => exact he.elim
theorem swo_icmp : Go.Sort.SWO (Go.Proofs.ltOf icmp) where
  irrefl := ilt_irrefl
  trans := fun x y z h k => ilt_trans (x := x) (y := y) (z := z) h k
  ntrans := fun x y z h k => by
    have h' : ilt x y = false := h
    have k' : ilt y z = false := k
    show ilt x z = false
    cases e : ilt x z with
    | false => rfl
    | true =>
      exfalso
      cases e2 : ilt y x with
      | false => rw [ilt_total h' e2] at e; rw [e] at k'; cases k'
      | true => rw [ilt_trans e2 e] at k'; cases k'
theorem moves_grow {ρ : Rho} {H : DH} {w : World} (ha : Agree ρ H w) (m : Nat) (os : Array Obj) : Moves ρ H w ρ H (grow (Go.Sort.ahead w m) os) where
  le := Rho.le_refl _
  agree := ⟨ha.low, fun l pl h => Nat.lt_of_lt_of_le (ha.lies l pl h) (by simp [grow, Go.Sort.ahead]), fun l o h => by
    obtain ⟨pl, hp, ho⟩ := ha.obj l o h
    refine ⟨pl, hp, ?_⟩
    have : (grow (Go.Sort.ahead w m) os).heap[pl.block]? = w.heap[pl.block]? := by
      show (w.heap ++ os)[pl.block]? = _
      rw [Array.getElem?_append_left (ha.lies l pl hp)]
    rw [this]; exact ho, ha.apart⟩
  os := rfl
  tape := rfl
  output := rfl
  drawn := Nat.le_add_right _ _
  size := by simp [grow, Go.Sort.ahead]
  same := fun b hb _ => by
    show (w.heap ++ os)[b]? = _
    rw [Array.getElem?_append_left hb]
  own := fun b hb => .inl hb
  fresh := fun _ _ h => .inl h
/-- What is there, as the kit tells it. -/
theorem holds_items {ρ : Rho} {pl : Pl} {w : World} {rs : List (List DV)} {l : List Item} {i : Nat} (hb : pl.block < w.heap.size) (ho : ObjR ρ pl w.heap[pl.block]? (.rows false 6 rs)) (hl : (rs.drop i).take l.length = l.map Item.cells) (hi : i + l.length ≤ pl.tot) :
    HoldsK encI 6 w pl.block (pl.off + i * 6) l.toArray := by
  obtain ⟨hz, hlen, hrows, hloose⟩ := ho
  obtain ⟨cs, t, lo, hi', hbk, hsz, hfr⟩ := hloose rfl
  intro j hj
  rw [size_flatK, List.size_toArray] at hj
  have hq : j / 6 < l.length := by omega
  have hr : j % 6 < 6 := Nat.mod_lt _ (by omega)
  have hrow : rs[i + j / 6]? = some (l[j / 6]).cells := by
    have h := congrArg (fun z => z[j / 6]?) hl
    simp only [List.getElem?_take, List.getElem?_drop, List.getElem?_map] at h
    rw [if_pos hq, List.getElem?_eq_getElem hq] at h
    exact h
  obtain ⟨d, hd, _, hv⟩ := enc_at (l[j / 6]) hr
  obtain ⟨_, c, hc, hvr⟩ := (hrows _ _ hrow).2 _ _ hd
  have e : pl.off + (i + j / 6) * 6 + j % 6 = pl.off + i * 6 + j := by omega
  rw [e] at hc
  refine ⟨?_, ?_⟩
  · rw [cell?_eq, hc, get_flatK _ _ _ _ (by rw [List.size_toArray]; exact hj), (hv ρ c).mp hvr]
    simp only [id, Option.some.injEq]
    rw [getElem!_pos l.toArray (j / 6) (by rw [List.size_toArray]; exact hq)]
    rfl
  · simp only [World.frozen?, hbk]
    have := hfr (pl.off + i * 6 + j) (by rw [hz] at *; omega)
    simp only [Bool.and_eq_false_iff, decide_eq_false_iff_not]
    omega
theorem put_items {ρ : Rho} {pl : Pl} {w : World} {rs : List (List DV)} {l m : List Item} {i : Nat} (hb : pl.block < w.heap.size) (ho : ObjR ρ pl w.heap[pl.block]? (.rows false 6 rs)) (hl : (rs.drop i).take l.length = l.map Item.cells) (hi : i + l.length ≤ pl.tot) (hm : m.length = l.length) (h0 : 0 < l.length) :
    ObjR ρ pl (putRowK encI 6 w pl.block (pl.off + i * 6) m.toArray).heap[pl.block]? (.rows false 6 (rs.take i ++ m.map Item.cells ++ rs.drop (i + l.length))) := by
  have hH := holds_items hb ho hl hi
  obtain ⟨hz, hlen, hrows, hloose⟩ := ho
  have hil : i + l.length ≤ rs.length := by
    have h := congrArg List.length hl
    simp only [List.length_take, List.length_drop, List.length_map] at h
    omega
  have hml : (rs.take i ++ m.map Item.cells).length = i + l.length := by simp; omega
  refine ⟨hz, by simp; omega, fun q r hr => ?_, fun _ => ?_⟩
  · have cellEq : ∀ o, cellAt (putRowK encI 6 w pl.block (pl.off + i * 6) m.toArray).heap[pl.block]? o = (putRowK encI 6 w pl.block (pl.off + i * 6) m.toArray).cell? ⟨pl.block, o, none⟩ := fun o => (cell?_eq _ _ _).symm
    have cellEq0 : ∀ o, cellAt w.heap[pl.block]? o = w.cell? ⟨pl.block, o, none⟩ := fun o => (cell?_eq _ _ _).symm
    by_cases h1 : q < i
    · rw [List.append_assoc, List.getElem?_append_left (by simp; omega), List.getElem?_take, if_pos h1] at hr
      refine ⟨(hrows _ _ hr).1, fun j d hd => ?_⟩
      obtain ⟨hone, c, hc, hvr⟩ := (hrows _ _ hr).2 _ _ hd
      have hj : j < 6 := by have := (List.getElem?_eq_some_iff.mp hd).1; rw [(hrows _ _ hr).1] at this; exact this
      refine ⟨hone, c, ?_, hvr⟩
      rw [cellEq, putRowK, cell?_putRow_other _ _ _ _ _ _ (.inr (.inl (by simp only; omega))), ← cellEq0]
      exact hc
    · by_cases h2 : q < i + l.length
      · rw [List.getElem?_append_left (by rw [hml]; omega), List.getElem?_append_right (by simp; omega)] at hr
        have hq2 : q - (rs.take i).length = q - i := by rw [List.length_take]; omega
        rw [hq2, List.getElem?_map, List.getElem?_eq_getElem (by omega)] at hr
        cases hr
        refine ⟨rfl, fun j d hd => ?_⟩
        have hj : j < 6 := (List.getElem?_eq_some_iff.mp hd).1
        obtain ⟨d', hd', hone, hv⟩ := enc_at (m[q - i]'(by omega)) hj
        rw [hd] at hd'; cases hd'
        refine ⟨hone, _, ?_, (hv ρ _).mpr rfl⟩
        have hjj : (q - i) * 6 + j < m.toArray.size * 6 := by rw [List.size_toArray]; omega
        have e1 : pl.off + q * 6 + j = pl.off + i * 6 + ((q - i) * 6 + j) := by omega
        rw [cellEq, e1, putRowK, cell?_putRow id w _ _ (flatK encI 6 l.toArray) _ hH (by simp [hm]) _ (by rw [size_flatK]; exact hjj), get_flatK _ _ _ _ hjj]
        have e2 : ((q - i) * 6 + j) / 6 = q - i := by omega
        have e3 : ((q - i) * 6 + j) % 6 = j := by omega
        rw [e2, e3, getElem!_pos m.toArray (q - i) (by rw [List.size_toArray]; omega)]
        rfl
      · rw [List.getElem?_append_right (by rw [hml]; omega), hml, List.getElem?_drop] at hr
        have e : i + l.length + (q - (i + l.length)) = q := by omega
        rw [e] at hr
        refine ⟨(hrows _ _ hr).1, fun j d hd => ?_⟩
        obtain ⟨hone, c, hc, hvr⟩ := (hrows _ _ hr).2 _ _ hd
        refine ⟨hone, c, ?_, hvr⟩
        rw [cellEq, putRowK, cell?_putRow_other _ _ _ _ _ _ (.inr (.inr (by simp only [size_flatK, List.size_toArray]; omega))), ← cellEq0]
        exact hc
  · obtain ⟨cs, t, lo, hi', hbk, hsz, hfr⟩ := hloose rfl
    refine ⟨putCells id (pl.off + i * 6) (flatK encI 6 m.toArray) cs, t, lo, hi', ?_, by simpa [putCells] using hsz, hfr⟩
    simp only [putRowK, putRow, mapBlock, Array.getElem?_modify, if_pos, hbk, Option.map_some]
    rfl
theorem one_put {w : World} {b o : Nat} {d : Array Item} : OneBlock w (putRowK encI 6 w b o d) b where
  os := rfl
  tape := rfl
  output := rfl
  drawn := rfl
  size := by simp [putRowK]
  same := fun k hk => by simp only [putRowK, putRow, mapBlock, Array.getElem?_modify, if_neg (fun e => hk (Eq.symm e))]
theorem pairwise_of {l : List Item} (h : ∀ i j, i < j → j < l.length → ilt l[j]! l[i]! = false) : Sorted l := by
  unfold Sorted
  rw [List.pairwise_iff_getElem]
  intro i j hi hj hij
  have := h i j hij hj
  rw [getElem!_pos l j hj, getElem!_pos l i hi] at this
  exact this
theorem sort_some {H : DH} {loc i n c : Nat} {ex : Bool} {rs : List (List DV)} {l : List Item} (ho : H.obj loc = some (.rows false 6 rs)) (hl : (rs.drop i).take l.length = l.map Item.cells) (hn : l.length = n) (h0 : 0 < n) (hm : n ≤ 1000000)
    {ρ : Rho} {w : World} (ha : Agree ρ H w) {v : Value} (hv : VR ρ (.sl (some (loc, i, 6)) n c ex) v) :
    Calls Try.prog 59 #[v, .func (.func 60) #[] #[]] w fun e w' => e = .returned (.tuple #[]) ∧ Moves ρ H w ρ (H.set loc (some (.rows false 6 (rs.take i ++ (sortL l).map Item.cells ++ rs.drop (i + n))))) w' := by
  simp only [VR] at hv
  obtain ⟨pl, a, c', hp, hz, rfl, h1, h2, h3, h4, h5⟩ := hv
  obtain ⟨pl', hp', ho'⟩ := ha.obj loc _ ho
  rw [hp] at hp'; cases hp'
  have hb := ha.lies _ _ hp
  obtain rfl := h5.resolve_left (by omega)
  have e : pl.addr i 0 = ⟨pl.block, pl.off + i * 6, none⟩ := by unfold Pl.addr; rw [hz]; rfl
  rw [e]
  subst hn
  have hH := holds_items hb ho' hl (by omega)
  have eg : ∀ args w, (callFunc 60 args).run Try.prog w = .ok (.enter 60 args) w := enters_of Try.func60 (by kernel_rfl) rfl
  have hcmp : CmpLays Try.prog 60 #[] encI 6 icmp pl.block (pl.off + i * 6) l.toArray.size w := fun _ _ _ _ x y => cmp_lays x y _
  have hcon := AnyQ.slices_SortFunc Try.sortItem 6 Try.isAgg26 Try.sizeOf26 encI (fun _ => rfl) (fun x v hv => by simp [encI] at hv; rcases hv with rfl | rfl | rfl | rfl | rfl | rfl <;> rfl) icmp swo_icmp 60 #[] pl.block (pl.off + i * 6) c' l.toArray w eg hcmp hH hb (by rw [List.size_toArray]; omega)
  change Calls Try.prog 59 _ _ _ at hcon
  refine hcon.mono ?_
  rintro e w' ⟨rfl, d', m, os, hpm, hst, rfl⟩
  refine ⟨rfl, ?_⟩
  obtain ⟨hsz, _, hperm⟩ := hpm
  have hd : d'.toList = sortL l := by
    symm
    refine sortL_of_perm ?_ (pairwise_of fun i j hij hj => ?_)
    · rw [Array.extract_eq_self_of_le (by omega), Array.extract_eq_self_of_le (by omega)] at hperm
      exact hperm.symm
    · have hj' : j < d'.size := by simpa using hj
      have := hst i j (Nat.zero_le _) hij (by omega)
      rw [getElem!_pos d'.toList j hj, getElem!_pos d'.toList i (by omega), Array.getElem_toList, Array.getElem_toList, ← getElem!_pos d' j hj', ← getElem!_pos d' i (by omega)]
      exact this
  have hd' : d' = (sortL l).toArray := by rw [← hd]
  rw [hd']
  have hput := put_items (m := sortL l) hb ho' hl (by omega) ((sortL_perm l).length_eq) h0
  have hm1 := moves_set ha ho rfl rfl hp (one_put (d := (sortL l).toArray) (o := pl.off + i * 6)) hput
  exact hm1.trans (moves_grow hm1.agree m os)
end Go.Det.Q

/- What pushes, pops and takes come to, in one form. -/
namespace Go.Det.Q
open Go Go.Det Go.Proofs
set_option maxRecDepth 4000
set_option maxHeartbeats 4000000
set_option linter.unusedVariables false
set_option linter.unusedSimpArgs false
def zeroI : Item := ⟨0, 0, 0, 0, 0, 0⟩
theorem nilF (A H : DH) : ItsF A H (.sl none 0 0 true) [] := ⟨none, 0, true, rfl, .nil0 H, fun _ _ _ h => (by cases h)⟩
def pushE (l : List Item) : Int := if checkB l = true then (if l.length = 4096 then 7 else 0) else 1
def pushV (l : List Item) (x : Item) : List Item := if pushE l = 0 then upL (l ++ [x]) l.length else []
def popE (l : List Item) : Int := if checkB l = true then (if l = [] then 8 else 0) else 1
def popX (l : List Item) : Item := if popE l = 0 then g l 0 else zeroI
def popV (l : List Item) : List Item := if popE l = 0 then withoutL l 0 else []
theorem pushE_bad {l : List Item} (h : checkB l = false) : pushE l = 1 := by simp [pushE, h]
theorem pushE_full {l : List Item} (h : checkB l = true) (k : l.length = 4096) : pushE l = 7 := by simp [pushE, h, k]
theorem pushE_ok {l : List Item} (h : checkB l = true) (k : l.length ≠ 4096) : pushE l = 0 := by simp [pushE, h, k]
theorem popE_bad {l : List Item} (h : checkB l = false) : popE l = 1 := by simp [popE, h]
theorem popE_none {l : List Item} (h : checkB l = true) (k : l = []) : popE l = 8 := by unfold popE; rw [if_pos h, if_pos k]
theorem popE_ok {l : List Item} (h : checkB l = true) (k : l ≠ []) : popE l = 0 := by simp [popE, h, k]
theorem checkB_heap {l : List Item} : checkB l = true ↔ Heap l ∧ l.length ≤ 4096 := by
  unfold checkB
  rw [Bool.and_eq_true, heapB_heap, decide_eq_true_eq]
section
variable {H : DH} {s : DV} {l : List Item}
theorem push_c (x : Item) (h : Its H s l) (hn : l.length ≤ 1000000) : CallWp Try.prog X4 16 [s, .agg x.cells] H (fun r H' => Above H H' ∧ ∃ s', r = .tuple [s', .int .i64 (pushE l)] ∧ ItsF H H' s' (pushV l x)) := by
  obtain ⟨p, c, ex, rfl, hl⟩ := h
  refine (push16 H p c ex l x hl hn).mono ?_
  rintro r H' ⟨hab, ⟨h1, rfl⟩ | ⟨h1, h2, rfl⟩ | ⟨h1, h2, s', rfl, h3⟩⟩
  · exact ⟨hab, _, by rw [pushE_bad h1], by unfold pushV; rw [pushE_bad h1]; exact nilF _ _⟩
  · exact ⟨hab, _, by rw [pushE_full h1 h2], by unfold pushV; rw [pushE_full h1 h2]; exact nilF _ _⟩
  · exact ⟨hab, s', by rw [pushE_ok h1 h2], by unfold pushV; rw [pushE_ok h1 h2]; exact h3⟩
theorem pop_c (h : Its H s l) (hn : l.length ≤ 1000000) : CallWp Try.prog X4 19 [s] H (fun r H' => Above H H' ∧ ∃ s', r = .tuple [.agg (popX l).cells, s', .int .i64 (popE l)] ∧ ItsF H H' s' (popV l)) := by
  obtain ⟨p, c, ex, rfl, hl⟩ := h
  refine (pop19 H p c ex l hl hn).mono ?_
  rintro r H' ⟨hab, ⟨h1, rfl⟩ | ⟨h1, h2, rfl⟩ | ⟨h1, x, s', h2, rfl, h3⟩⟩
  · exact ⟨hab, _, by unfold popX; rw [popE_bad h1]; rfl, by unfold popV; rw [popE_bad h1]; exact nilF _ _⟩
  · exact ⟨hab, _, by unfold popX; rw [popE_none h1 h2]; rfl, by unfold popV; rw [popE_none h1 h2]; exact nilF _ _⟩
  · have hne : l ≠ [] := fun e => by subst e; simp at h2
    exact ⟨hab, s', by unfold popX; rw [popE_ok h1 hne, if_pos rfl, g_of h2], by unfold popV; rw [popE_ok h1 hne]; exact h3⟩
theorem build_c (h : Its H s l) (hn : l.length ≤ 4096) : CallWp Try.prog X4 24 [s] H (fun r H' => Above H H' ∧ ∃ s', r = .tuple [s', .int .i64 0] ∧ ItsF H H' s' (buildL l)) := by
  obtain ⟨p, c, ex, rfl, hl⟩ := h
  refine (build24 H p c ex l hl (by omega)).mono ?_
  rintro r H' ⟨hab, ⟨h1, rfl⟩ | ⟨h1, s', rfl, h3⟩⟩
  · omega
  · exact ⟨hab, s', rfl, h3⟩
theorem sorted_c (h : Its H s l) (hn : l.length ≤ 1000000) : CallWp Try.prog X4 22 [s] H (fun r H' => Above H H' ∧ ItsF H H' r (sortL l)) := by
  obtain ⟨p, c, ex, rfl, hl⟩ := h
  exact sorted22 H p c ex l hl hn
theorem check_t (h : Its H s l) : gCheck [s] H = some (.bool (checkB l), H) := by
  obtain ⟨p, c, ex, rfl, hl⟩ := h
  exact hl.check
theorem same_t {t : DV} {m : List Item} (h : Its H s l) (k : Its H t m) : gSame [s, t] H = some (.bool (decide (l = m)), H) := by
  obtain ⟨p, c, ex, rfl, hl⟩ := h
  obtain ⟨p', c', ex', rfl, hm⟩ := k
  exact hl.same hm
end
/-! ### what the laws ask -/
theorem pushE_zero {l : List Item} (h : pushE l = 0) : Heap l ∧ l.length < 4096 := by
  unfold pushE at h
  split at h
  · rename_i hc
    split at h
    · simp at h
    · have := checkB_heap.mp hc
      exact ⟨this.1, by omega⟩
  · simp at h
theorem pushV_heap {l : List Item} {x : Item} (h : pushE l = 0) : Heap (pushV l x) := by unfold pushV; rw [if_pos h]; exact pushL_heap (pushE_zero h).1
theorem pushV_perm {l : List Item} {x : Item} (h : pushE l = 0) : List.Perm (pushV l x) (x :: l) := by unfold pushV; rw [if_pos h]; exact (upL_perm _ _).trans (List.perm_append_singleton _ _)
theorem popE_zero {l : List Item} (h : popE l = 0) : Heap l ∧ l.length ≤ 4096 ∧ 0 < l.length := by
  unfold popE at h
  split at h
  · rename_i hc
    split at h
    · simp at h
    · rename_i hne
      have := checkB_heap.mp hc
      exact ⟨this.1, this.2, List.length_pos_iff.mpr hne⟩
  · simp at h
theorem popV_heap {l : List Item} (h : popE l = 0) : Heap (popV l) := by unfold popV; rw [if_pos h]; exact withoutL_heap (popE_zero h).1 (popE_zero h).2.2
theorem popV_perm {l : List Item} (h : popE l = 0) : List.Perm l (popX l :: popV l) := by
  unfold popV popX
  rw [if_pos h, if_pos h]
  exact (erase_perm (g_at (popE_zero h).2.2)).trans ((withoutL_perm (popE_zero h).2.2).symm.cons _)
theorem pop_first {l : List Item} (h : popE l = 0) : ∀ z ∈ l, ilt z (popX l) = false := by
  intro z hz
  unfold popX
  rw [if_pos h]
  obtain ⟨i, hi, rfl⟩ := List.getElem_of_mem hz
  have := heap_first (popE_zero h).1 i hi
  rw [g_of (List.getElem?_eq_getElem hi)] at this
  exact this
end Go.Det.Q

/- More tables: what is told by fewer is told by more. -/
namespace Go.Det
section
variable {P : Program}
/-- One set of tables tells no less than another. -/
def ExtLe (X X' : Ext) : Prop := ∀ f, (X f = none → X' f = none) ∧ ∀ g, X f = some g → ∃ g', X' f = some g' ∧ ∀ a H r, g a H = some r → g' a H = some r
theorem callD_ext {X X' : Ext} (hx : ExtLe X X') : ∀ (k : Nat), CFle (callD P X k) (callD P X' k) := by
  intro k
  induction k with
  | zero => intro f a H r e; simp [callD] at e
  | succ k ih =>
    intro f a H r e
    simp only [callD] at e ⊢
    cases hg : X f with
    | some g =>
      obtain ⟨g', hg', hle⟩ := (hx f).2 g hg
      rw [hg] at e
      rw [hg']
      exact hle _ _ _ e
    | none =>
      rw [hg] at e
      rw [(hx f).1 hg]
      simp only at e ⊢
      split
      · rename_i fn hf
        rw [hf] at e
        simp only at e
        split
        · rename_i c hc
          rw [hc] at e
          simp only at e
          split at e
          · rename_i st he
            rw [execD_mono ih _ _ (Nat.le_refl _) _ _ _ he]
            exact e
          · rename_i st he
            rw [execD_mono ih _ _ (Nat.le_refl _) _ _ _ he]
            exact e
          · cases e
        · rename_i hc; rw [hc] at e; cases e
      · rename_i hf; rw [hf] at e; cases e
theorem CallWp.up {X X' : Ext} (hx : ExtLe X X') {f : FuncId} {a : List DV} {H : DH} {K : DV → DH → Prop} (h : CallWp P X f a H K) : CallWp P X' f a H K := by
  obtain ⟨k, r, H', hk, hr⟩ := h.ex
  exact ⟨k, r, H', callD_ext hx k _ _ _ _ hk, hr⟩
/-- One table more, for a function that had none and no text. -/
theorem extLe_one {L : List FuncId} {E : List (FuncId × (List DV → DH → Option (DV × DH)))} {f0 : FuncId} {g0 : List DV → DH → Option (DV × DH)} (h0 : Xof L E f0 = some fun _ _ => none) : ExtLe (Xof L E) (Xof L ((f0, g0) :: E)) := by
  intro f
  by_cases e : f = f0
  · subst e
    refine ⟨fun h => by (rw [h0] at h; cases h), fun g h => ⟨g0, by unfold Xof; simp [List.lookup], ?_⟩⟩
    rw [h0] at h
    cases h
    intro a H r h
    cases h
  · have e2 : Xof L ((f0, g0) :: E) f = Xof L E f := by
      unfold Xof
      have : (f == f0) = false := by simpa using e
      simp only [List.lookup, this]
    rw [e2]
    exact ⟨id, fun g h => ⟨g, h, fun _ _ _ k => k⟩⟩
end
end Go.Det

/- slices.SortFunc at items as a table; heap.Sorted. -/
namespace Go.Det.Q
open Go Go.Det Go.Proofs
set_option maxRecDepth 4000
set_option maxHeartbeats 4000000
set_option linter.unusedVariables false
set_option linter.unusedSimpArgs false
def gSort : G := fun args H => match args with
  | [.sl p n c ex, .func (.func 60) [] []] => if n = 0 then some (.tuple [], H) else match p with
    | some (loc, i, z) => match H.obj loc with
      | some (.rows false sz rs) => if sz = 6 ∧ z = 6 ∧ n ≤ 1000000 ∧ i + n ≤ rs.length then (match itemsL ((rs.drop i).take n) with
          | some l => some (.tuple [], H.set loc (some (.rows false 6 (rs.take i ++ (sortL l).map Item.cells ++ rs.drop (i + n)))))
          | none => none) else none
      | _ => none
    | none => none
  | _ => none
def XS : Ext := Xof (59 :: L) []
theorem okXS : ProgOk Try.prog XS := progOk_of2 mixed (by kernel_rfl) push_code (by simp)
theorem sort_none (p : Option (Nat × Nat × Nat)) (c : Nat) (ex : Bool) (H : DH) : callD Try.prog XS 100 59 [.sl p 0 c ex, .func (.func 60) [] []] H = some (.tuple [], H) := by kernel_rfl
theorem ok59 : ExtSound Try.prog gSort 59 := by
  intro args H r H' h ρ w vs ha hv
  unfold gSort at h
  split at h
  · rename_i p n c ex
    have hv' := hv
    simp only [VRs] at hv
    obtain ⟨v, r1, e1, h1, u, r2, e2, h2, e3⟩ := hv
    subst e2 e3
    have hvs : vs = #[v, u] := by rw [← Array.toArray_toList (xs := vs), e1]
    simp only [VR, VRs] at h2
    obtain ⟨a, b, rfl, ha', hb'⟩ := h2
    obtain rfl : a = #[] := by cases a; simp at ha'; rw [ha']
    obtain rfl : b = #[] := by cases b; simp at hb'; rw [hb']
    subst hvs
    split at h
    · rename_i h0
      subst h0
      cases h
      refine callOk_of_calls Try.func59 (by kernel_rfl) rfl ((calls_sound okXS Try.func59 rfl rfl (sort_none p c ex H) ha hv').mono fun e w' he => ?_)
      cases e <;> exact he
    · rename_i h0
      split at h
      · rename_i loc i z
        split at h
        · rename_i sz rs ho
          split at h
          · rename_i hc
            obtain ⟨rfl, rfl, hm, hlen⟩ := hc
            split at h
            · rename_i l hl
              cases h
              have hl' := map_itemsL hl
              have hn : l.length = n := by
                have := congrArg List.length hl'
                simp only [List.length_take, List.length_drop, List.length_map] at this
                omega
              refine callOk_of_calls Try.func59 (by kernel_rfl) rfl ((sort_some (H := H) ho (by rw [hn]; exact hl') hn (by omega) hm ha h1).mono fun e w' he => ?_)
              obtain ⟨rfl, hmv⟩ := he
              exact ⟨ρ, by simp [VR, VRs], hmv⟩
            · cases h
          · cases h
        · cases h
      · cases h
  · cases h
def X5 : Ext := Xof L ((59, gSort) :: E4)
theorem okX5 : ProgOk Try.prog X5 := progOk_of2 mixed okL push_code (by
  intro f g h
  rw [List.mem_cons] at h
  rcases h with h | h
  · cases h; exact ok59
  · exact okE4 f g h)
theorem up5 : ExtLe X4 X5 := extLe_one rfl
theorem sort59 {A H : DH} {r : DV} {l : List Item} {K : DV → DH → Prop} (ha : Above A H) (hm : Mine A H 6 (l.map Item.cells) r) (hn : l.length ≤ 1000000)
    (hk : ∀ H', Above A H' → Mine A H' 6 ((sortL l).map Item.cells) r → K (.tuple []) H') : CallWp Try.prog X5 59 [r, .func (.func 60) [] []] H K := by
  have hsl := (sortL_perm l).length_eq
  generalize hR : l.map Item.cells = R at hm
  have hRl : R.length = l.length := by rw [← hR, List.length_map]
  cases hm with
  | nil h =>
    obtain rfl : l = [] := by cases l with | nil => rfl | cons x l => rw [h] at hR; cases hR
    exact call_table (g := gSort) rfl (r := .tuple []) (H' := H) (by simp [gSort]) (hk H ha (.nil rfl))
  | empty h h1 h2 h3 =>
    obtain rfl : l = [] := by cases l with | nil => rfl | cons x l => rw [h] at hR; cases hR
    exact call_table (g := gSort) rfl (r := .tuple []) (H' := H) (by simp [gSort]) (hk H ha (.empty rfl h1 h2 h3))
  | «at» h1 h2 h3 =>
    rename_i loc ex
    by_cases h0 : R.length = 0
    · obtain rfl : l = [] := List.length_eq_zero_iff.mp (by omega)
      have e0 : R = [] := List.length_eq_zero_iff.mp h0
      subst e0
      exact call_table (g := gSort) rfl (r := .tuple []) (H' := H) (by simp [gSort]) (hk H ha (.at h1 h2 h3))
    · refine call_table (g := gSort) rfl (r := .tuple []) (H' := H.set loc (some (.rows false 6 ((sortL l).map Item.cells)))) ?_ (hk _ (ha.set h1 _) ?_)
      · subst hR
        simp only [gSort]
        rw [if_neg h0]
        simp only [h3]
        rw [if_pos ⟨trivial, trivial, by omega, by simp⟩]
        simp only [List.drop_zero, List.take_of_length_le (Nat.le_refl _), itemsL_map, List.take_zero, List.nil_append, Nat.zero_add, List.drop_length, List.append_nil]
      · have e : R.length = ((sortL l).map Item.cells).length := by rw [List.length_map]; omega
        rw [e]
        exact .at h1 h2 obj_set
theorem sorted30 (H : DH) (s : DV) (l : List Item) (hl : Its H s l) (hn : l.length ≤ 1000000) : CallWp Try.prog X5 30 [s] H (fun r H' => Above H H' ∧ ItsF H H' r (sortL l)) := by
  obtain ⟨p, c, ex, rfl, hl⟩ := hl
  refine enter rfl Try.func30 rfl Try.ntmps30 rfl ?_
  dsimp only [List.cons_append, List.nil_append, List.length_cons, List.length_nil, List.replicate_succ, List.replicate_zero, Nat.reduceAdd, Nat.reduceSub]
  repeat' (first
    | dsimp only [putD, DV.cells, DH.new_next, DH.set_next, List.length_cons, List.length_nil, Nat.reduceAdd, List.set_cons_zero, List.set_cons_succ, getD_zero, getD_succ, fieldAt_zero, fieldAt_succ, thenD, blockD, retR]
    | apply dwp_seq
    | apply dwp_region
    | apply ops_nil
    | (apply ops_plain; (· exact rfl))
    | (apply ops_on; (· exact rfl); (· exact rfl); (· (first | with_reducible assumption | with_reducible rfl | decide)))
    | (apply ops_off1; (· exact rfl); (· exact rfl); (· (first | with_reducible assumption | with_reducible rfl | decide)))
    | (apply ops_off0; (· exact rfl); (· exact rfl); (· (first | with_reducible assumption | with_reducible rfl | decide)))
    | (apply ops_offn; (· exact rfl); (· exact rfl))
    | (apply ops_split1; (· exact rfl); (· exact rfl); all_goals intro hb)
    | (apply ops_split0; (· exact rfl); (· exact rfl); all_goals intro hb)
    | (apply op_call; (· exact rfl); (· exact rfl); (· exact rfl); refine (CallWp.up up5 (clone54 _ p c ex l hl hn)).mono ?_; rintro r H1 ⟨ab1, hm1, hf1⟩)
    | (apply op_call; (· exact rfl); (· exact rfl); (· exact rfl); refine sort59 ab1 hm1 (by omega) ?_; intro H2 ab2 hm2)
    | (apply op_pick_t; (· exact rfl); (· exact rfl); (· (first | with_reducible assumption | with_reducible rfl | decide)); (· exact rfl))
    | (apply op_pick_f; (· exact rfl); (· exact rfl); (· (first | with_reducible assumption | with_reducible rfl | decide)); (· exact rfl))
    | (apply op_load_at; (· exact rfl); (· exact rfl); (· repeat (first | with_reducible assumption | (with_reducible apply obj_here; with_reducible rfl) | with_reducible apply obj_set | (with_reducible apply obj_skip_lo; (· ((repeat (first | with_reducible assumption | with_reducible apply Lo.self | with_reducible apply Lo.new | with_reducible apply Lo.set | with_reducible apply Lo.self1 | with_reducible apply Lo.self2)); done))) | (with_reducible apply obj_past; (· ((first | with_reducible assumption | with_reducible apply ne_add1 | with_reducible apply ne_add1' | with_reducible apply ne_add2 | with_reducible apply ne_add2' | with_reducible apply ne_add12 | with_reducible apply ne_add21 | (with_reducible apply Lo.ne; (repeat (first | with_reducible assumption | with_reducible apply Lo.self | with_reducible apply Lo.new | with_reducible apply Lo.set | with_reducible apply Lo.self1 | with_reducible apply Lo.self2)); done) | (with_reducible apply Lo.ne1; (repeat (first | with_reducible assumption | with_reducible apply Lo.self | with_reducible apply Lo.new | with_reducible apply Lo.set | with_reducible apply Lo.self1 | with_reducible apply Lo.self2)); done) | (with_reducible apply Lo.ne'; (repeat (first | with_reducible assumption | with_reducible apply Lo.self | with_reducible apply Lo.new | with_reducible apply Lo.set | with_reducible apply Lo.self1 | with_reducible apply Lo.self2)); done) | (with_reducible apply Lo.ne1'; (repeat (first | with_reducible assumption | with_reducible apply Lo.self | with_reducible apply Lo.new | with_reducible apply Lo.set | with_reducible apply Lo.self1 | with_reducible apply Lo.self2)); done)); done))))); (· exact rfl); (· exact rfl))
    | (apply op_store_at; (· exact rfl); (· exact rfl); (· exact rfl); (· repeat (first | with_reducible assumption | (with_reducible apply obj_here; with_reducible rfl) | with_reducible apply obj_set | (with_reducible apply obj_skip_lo; (· ((repeat (first | with_reducible assumption | with_reducible apply Lo.self | with_reducible apply Lo.new | with_reducible apply Lo.set | with_reducible apply Lo.self1 | with_reducible apply Lo.self2)); done))) | (with_reducible apply obj_past; (· ((first | with_reducible assumption | with_reducible apply ne_add1 | with_reducible apply ne_add1' | with_reducible apply ne_add2 | with_reducible apply ne_add2' | with_reducible apply ne_add12 | with_reducible apply ne_add21 | (with_reducible apply Lo.ne; (repeat (first | with_reducible assumption | with_reducible apply Lo.self | with_reducible apply Lo.new | with_reducible apply Lo.set | with_reducible apply Lo.self1 | with_reducible apply Lo.self2)); done) | (with_reducible apply Lo.ne1; (repeat (first | with_reducible assumption | with_reducible apply Lo.self | with_reducible apply Lo.new | with_reducible apply Lo.set | with_reducible apply Lo.self1 | with_reducible apply Lo.self2)); done) | (with_reducible apply Lo.ne'; (repeat (first | with_reducible assumption | with_reducible apply Lo.self | with_reducible apply Lo.new | with_reducible apply Lo.set | with_reducible apply Lo.self1 | with_reducible apply Lo.self2)); done) | (with_reducible apply Lo.ne1'; (repeat (first | with_reducible assumption | with_reducible apply Lo.self | with_reducible apply Lo.new | with_reducible apply Lo.set | with_reducible apply Lo.self1 | with_reducible apply Lo.self2)); done)); done))))); (· exact rfl); (· exact rfl); (· exact rfl))
    | (apply op_at; (· exact opD_eqb rfl rfl rfl rfl))
    | (apply op_at; (· exact opD_neqb rfl rfl rfl rfl))
    | (apply op_at; (· exact rfl))
    | (apply dwp_cond_t; (· exact rfl); (· (first | with_reducible assumption | with_reducible rfl | decide)))
    | (apply dwp_cond_f; (· exact rfl); (· (first | with_reducible assumption | with_reducible rfl | decide)))
    | (refine dwp_cond rfl ?_ ?_ <;> intro hb)
    | apply dwp_block
    | apply dwp_skip
    | apply dwp_ret
    | apply dwp_exit
    | (refine ⟨_, rfl, ?_⟩)
    | fail)
  refine ⟨ab2, ?_⟩
  obtain ⟨p2, c2, ex2, rfl, hi⟩ := it_of_mine hm2 (by have := (sortL_perm l).length_eq; unfold maxLen; omega)
  exact ⟨p2, c2, ex2, rfl, hi, fun loc i z e => hf1 loc ⟨i, z, _, _, _, by rw [e]⟩⟩
end Go.Det.Q

/- Arguments. -/
namespace Go.Det.Q
open Go Go.Det Go.Proofs
set_option maxRecDepth 4000
set_option linter.unusedVariables false
set_option linter.unusedSimpArgs false
def i64ok (x : Int) : Prop := -9223372036854775808 ≤ x ∧ x ≤ 9223372036854775807
def u64ok (x : Int) : Prop := 0 ≤ x ∧ x ≤ 18446744073709551615
theorem i64_of {x : Int} (h : (Lit.int .i64 x).wf = true) : i64ok x := by
  simp [Lit.wf, IntKind.min, IntKind.max, IntKind.signed, IntKind.bits] at h
  exact h
theorem u64_of {x : Int} (h : (Lit.int .u64 x).wf = true) : u64ok x := by
  simp [Lit.wf, IntKind.min, IntKind.max, IntKind.signed, IntKind.bits] at h
  unfold u64ok
  omega
structure Item.ok (x : Item) : Prop where
  a : i64ok x.a
  c : i64ok x.c
  s : u64ok x.s
  w : i64ok x.w
  h : i64ok x.h
  n : u64ok x.n
theorem item_in {H : DH} {cs : List DV} (h : Typed Try.prog H 26 cs) : ∃ x : Item, cs = x.cells ∧ x.ok := by
  obtain ⟨h1, h2⟩ := typed_struct (fs := _) Try.underlying26 h
  have hsz : Try.prog.cellsOf 26 = 6 := by kernel_rfl
  have c2 : Try.prog.cellsOf 2 = 1 := by kernel_rfl
  have c3 : Try.prog.cellsOf 3 = 1 := by kernel_rfl
  have c24 : Try.prog.cellsOf 24 = 1 := by kernel_rfl
  rw [hsz] at h1
  obtain ⟨x0, x1, x2, x3, x4, x5, rfl⟩ := len6 h1
  simp only [List.forall_mem_cons, c2, c3, c24, List.drop_zero, List.drop_succ_cons, List.take_succ_cons, List.take_zero] at h2
  obtain ⟨t0, t1, t2, t3, t4, t5, _⟩ := h2
  obtain ⟨a, e0, w0⟩ := typed_int Try.underlying2 t0
  obtain ⟨b, e1, w1⟩ := typed_int Try.underlying3 t1
  obtain ⟨c, e2, w2⟩ := typed_int Try.underlying24 t2
  obtain ⟨d, e3, w3⟩ := typed_int Try.underlying3 t3
  obtain ⟨e, e4, w4⟩ := typed_int Try.underlying3 t4
  obtain ⟨f, e5, w5⟩ := typed_int Try.underlying24 t5
  cases e0; cases e1; cases e2; cases e3; cases e4; cases e5
  exact ⟨⟨a, b, c, d, e, f⟩, rfl, ⟨i64_of w0, i64_of w1, u64_of w2, i64_of w3, i64_of w4, u64_of w5⟩⟩
theorem items_rows {H : DH} : ∀ (rs : List (List DV)), (∀ r ∈ rs, Typed Try.prog H 26 r) → ∃ l : List Item, rs = l.map Item.cells ∧ ∀ x ∈ l, x.ok
  | [], _ => ⟨[], rfl, fun a h => by cases h⟩
  | r :: rs, h => by
    obtain ⟨x, hx, hok⟩ := item_in (h r (by simp))
    obtain ⟨l, hl, hall⟩ := items_rows rs fun r' hr => h r' (by simp [hr])
    exact ⟨x :: l, by rw [hx, hl]; rfl, fun y hy => by
      rcases List.mem_cons.mp hy with rfl | hy
      · exact hok
      · exact hall y hy⟩
theorem items_typed {H : DH} (hw : WF H) {d : DV} (h' : Typed Try.prog H 23 [d]) : ∃ p c ex l, d = .sl p l.length c ex ∧ It H p c ex l ∧ ∀ x ∈ l, x.ok := by
  have hsz : Try.prog.cellsOf 26 = 6 := by kernel_rfl
  rcases typed_slice Try.underlying23 h' with h | ⟨l, n, rs, h, ho, hn, hm, hr⟩
  · cases h
    exact ⟨none, 0, true, [], rfl, .nil0 H, fun a ha => by cases ha⟩
  · rw [hsz] at h ho
    cases h
    obtain ⟨L, hL, hall⟩ := items_rows (rs.take n) (fun r hr' => by
      obtain ⟨i, hi, rfl⟩ := List.getElem_of_mem (List.mem_of_mem_take hr')
      exact hr i _ (List.getElem?_eq_getElem hi))
    have hlen : L.length = n := by
      have := congrArg List.length hL
      rw [List.length_map, List.length_take] at this
      omega
    exact ⟨some (l, 0, 6), rs.length, true, L, by rw [hlen], ⟨.at (hw _ _ ho) ho (by rw [List.length_map, hlen]; omega) (by rw [List.length_map, hlen, List.drop_zero, hL]), fun h => (by cases h), by rw [hlen]; omega, by rw [hlen]; exact hn⟩, hall⟩
theorem items_in {H : DH} (hw : WF H) {d : DV} (h : TArg Try.prog H 23 d) : ∃ p c ex l, d = .sl p l.length c ex ∧ It H p c ex l ∧ ∀ x ∈ l, x.ok :=
  items_typed hw (targ_one (by rw [Try.underlying23]; simp) (by rw [Try.underlying23]; simp) h)
end Go.Det.Q

/- A row out of what the deterministic reading comes to: slices' weights handed on. -/
namespace Go.Det
set_option linter.unusedVariables false
set_option linter.unusedSimpArgs false
open Go.ChangeShapes Go.WideShapes Go.RowKit
section
variable {P : Program} {A : Type} {enc : TypeId × Value → A} {W : World}
theorem trod_at : ∀ {ts : List TypeId} {vs : List Value} {ds : List (DataW A)} {p : List MemPlace}, DataW.TrodAll enc P W 0 (fun _ => true) true ts vs ds p → ∀ {j : Nat} {t : TypeId} {v : Value}, ts[j]? = some t → vs[j]? = some v →
    ∃ d q, ds[j]? = some d ∧ DataW.Trod enc P W 0 (fun _ => true) true t v d q
  | [], vs, ds, p, h, j, t, v, ht, hv => by simp at ht
  | t0 :: ts, vs, ds, p, h, j, t, v, ht, hv => by
    obtain ⟨v', vs', d, ds', p, q, rfl, rfl, rfl, h1, h2⟩ := trodAll_cons h
    cases j with
    | zero => simp at ht hv; subst ht hv; exact ⟨d, _, rfl, h1⟩
    | succ j => simp at ht hv; simpa using trod_at h2 ht hv
/-- A row whose call answers true, whatever it is handed. -/
theorem row_lawW {C : Checked} {os : Os} {f : FuncId} {fn : Func} {c : Code} {s : ChangeSpec} {conds : List PathCond} {X : Ext} {ts : List TypeId} {rt : TypeId} {n : Nat}
    (own : ownKnob C.prog.godebug = none) (started : os.Started) (noInit : C.prog.inits.idxOf? f = none) (hfn : C.prog.funcs[f]? = some fn)
    (witness : ∃ (w : World) (tape : Tape) (i : Input), w.os = os ∧ (w.forCall tape i).Shaped C.prog ∧ i.vars = [] ∧ Input.okWide C.prog (w.forCall tape i) .any w.heap.size f i ∧
      s.pre6 enc C.prog fn conds false (w.forCall tape i).memory i.args ∧ Assume.holds {} C.prog (lone (Frame.enter C.prog f i.args .normal) [] (w.forCall tape i)))
    (hb : fn.body = some c) (hX : ProgOk C.prog X) (hx : X f = none) (hts : fn.params = ts.toArray) (hrt : fn.resultTypes = #[rt]) (hrb : C.prog.underlying rt = some .bool)
    (hok : (ts.all fun t => okTy C.prog n t) = true) (hread : (ts.all fun t => C.prog.readableRec t && decide (t < C.prog.types.size)) = true) (hlaid : laidOutB C.prog = true)
    (hvars : s.vars = []) (hs : ∀ ds : List (DataW A), ds.length = ts.length → s.fn A ds = { results := [.lit (.bool true)], args := ds })
    (law : ∀ H xs, RO H → WF H → TArgs C.prog H ts xs → (∀ (j : Nat) (t e : TypeId) (p : Option (Nat × Nat × Nat)) (n c : Nat) (ex : Bool), ts[j]? = some t → C.prog.underlying t = some (.slice e) → xs[j]? = some (.sl p n c ex) → n * C.prog.bytesOf e ≤ reachBytes) → ∃ k H', callD C.prog X k f xs H = some (.bool true, H')) :
    ReturnsInHanded {} C os f .any (s.pre6 enc C.prog fn conds false) (s.post enc C.prog fn false true false false) := by
  refine returnsInHanded_of_change_sized own started noInit hfn witness ?_
  intro W base args ds gs before hval hW hcnd hsz hhold
  have hW' := hW
  obtain ⟨p, q, hA, hV, rfl, hfz, hnd⟩ := hW
  rw [hvars] at hV
  obtain ⟨rfl, rfl⟩ := trodVars_none hV
  have hts' : fn.params.toList = ts := by rw [hts]
  have hA' := hA
  rw [hts'] at hA'
  obtain ⟨ρ, H, xs, g, v1, t1⟩ := args_in (n := n) ts args.toList ds p (fun j t v h1 h2 => hval j t v (by rw [hts]; simpa using h1) (by simpa using h2)) hA' hok (empty_agree (W := W)) (fun l o h => by cases h)
  obtain ⟨k, H', hcall⟩ := law H xs g.ro g.agree.wf t1 (by
    intro j t e p n c ex ht hu hx
    obtain ⟨v, hv, hvr⟩ := VRs.get j v1 hx
    obtain ⟨d, q, hd, htr⟩ := trod_at hA' ht hv
    have hvs : ∃ a c', v = .slice a n c' ∧ (a = none → n = 0) := by
      cases p with
      | none => simp only [VR] at hvr; obtain ⟨rfl, _, rfl⟩ := hvr; exact ⟨none, _, rfl, fun _ => rfl⟩
      | some p => obtain ⟨l, i, z⟩ := p; simp only [VR] at hvr; obtain ⟨pl, a, c', _, _, rfl, _⟩ := hvr; exact ⟨some a, _, rfl, fun h => by cases h⟩
    obtain ⟨a, c', rfl, ha⟩ := hvs
    obtain ⟨fuel, htr⟩ := htr
    rcases DataW.trod_slice hu htr with ⟨e1, _⟩ | ⟨a', len, cap, elems, rest, m, hm, e1, e2, _, _, _, hl, _⟩
    · have : a = none := by cases a with | none => rfl | some a => simp [Value.cells] at e1
      rw [ha this]; simp
    · have h3 : n = len := by simp [Value.cells] at e1; exact e1.2.1
      cases e2
      have := sized_slice hsz (j := j) (t := t) (e := e) (elems := elems.map (·.1)) (spare := rest.map (·.1)) (by rw [hts', List.getElem?_append_left (List.getElem?_eq_some_iff.mp ht).1]; exact ht) (by rw [List.getElem?_append_left (List.getElem?_eq_some_iff.mp hd).1]; exact hd) hu
      have h2 : n = (elems.map (·.1)).length := by rw [List.length_map]; omega
      rw [h2]
      exact Nat.le_trans (Nat.mul_le_mul_right _ (Nat.le_add_right _ _)) this)
  have hlen : ds.length = ts.length := by
    clear hval hW' hcnd hsz hhold hA hok hread t1 law hs
    revert hA'
    generalize args.toList = vs
    clear v1
    intro hA'
    have : ∀ (ts : List TypeId) (vs : List Value) (ds : List (DataW A)) (p : List MemPlace), DataW.TrodAll enc C.prog W 0 (fun _ => true) true ts vs ds p → ds.length = ts.length := by
      intro ts
      induction ts with
      | nil => intro vs ds p h; obtain ⟨_, rfl, _⟩ := trodAll_nil h; rfl
      | cons t ts ih =>
        intro vs ds p h
        obtain ⟨v, vs', d, ds', p, q, rfl, rfl, rfl, h1, h2⟩ := trodAll_cons h
        simp [ih _ _ _ h2]
    exact this ts vs ds p hA'
  refine (calls_sound hX hfn hb hx hcall g.agree v1).mono fun e W' he => ?_
  cases e with
  | returned v =>
    obtain ⟨ρ', hv, hm⟩ := he
    simp only [VR] at hv
    subst hv
    have hbel := hm.below g.ro
    obtain ⟨pa, hpa⟩ := trodAll_below hlaid hbel ts args.toList ds p hread hA'
    refine ⟨_, rfl, ds, [], _, [], pa, [], hW', ?_, ?_, ?_, hbel.frame _, fun h => by cases h⟩
    · rw [List.append_nil, hs ds hlen, hrt]
      exact trodAll_mk1 (shut_bool hrb true)
    · rw [List.append_nil, hs ds hlen, hts']
      exact hpa
    · rw [hvars]
      simp only [DataW.TrodVars, List.append_nil, hs ds hlen]
  | panicked ch => exact he.elim
  | outgrown => exact he.elim
end
end Go.Det

/- HeapMerges: the law's own text. -/
namespace Go.Det.Q
open Go Go.Det Go.Proofs
set_option maxRecDepth 4000
set_option maxHeartbeats 4000000
set_option linter.unusedVariables false
set_option linter.unusedSimpArgs false
theorem next_is {h S : List Item} {y : Item} (hE : popE h = 0) (hp : List.Perm h (y :: S)) (hs : Sorted (y :: S)) : popX h = y ∧ List.Perm (popV h) S := by
  have hq := popV_perm hE
  have hm : popX h ∈ y :: S := hp.mem_iff.mp (hq.mem_iff.mpr (List.mem_cons_self ..))
  have h1 : ilt y (popX h) = false := pop_first hE y (hp.mem_iff.mpr (List.mem_cons_self ..))
  have h2 : ilt (popX h) y = false := by
    rcases List.mem_cons.mp hm with e | hm
    · rw [e]; exact ilt_irrefl y
    · exact (List.pairwise_cons.mp hs).1 _ hm
  have e := ilt_total h2 h1
  exact ⟨e, List.Perm.cons_inv (a := y) (by rw [e] at hq; exact hq.symm.trans hp)⟩
theorem law7 (H : DH) (p p' : Option (Nat × Nat × Nat)) (c c' : Nat) (ex ex' : Bool) (l m : List Item) (hl : It H p c ex l) (hm : It H p' c' ex' m) (hsum : l.length + m.length < 2 ^ 63) :
    CallWp Try.prog X5 7 [.sl p l.length c ex, .sl p' m.length c' ex'] H (fun r H' => r = .bool true) := by
  have hsm : DV.int .i64 (IntKind.i64.wrap ((l.length : Int) + (m.length : Int))) = .int .i64 ((l.length + m.length : Nat) : Int) := by rw [wrapI (by omega)]; rfl
  by_cases h150 : decide (((l.length + m.length : Nat) : Int) > 150) = true
  · skip
    refine enter rfl Try.func7 rfl Try.ntmps7 rfl ?_
    dsimp only [List.cons_append, List.nil_append, List.length_cons, List.length_nil, List.replicate_succ, List.replicate_zero, Nat.reduceAdd, Nat.reduceSub]
    repeat' (first
      | dsimp only [putD, DV.cells, DH.new_next, DH.set_next, List.length_cons, List.length_nil, Nat.reduceAdd, List.set_cons_zero, List.set_cons_succ, getD_zero, getD_succ, fieldAt_zero, fieldAt_succ, thenD, blockD, retR]
      | apply dwp_seq
      | apply dwp_region
      | apply ops_nil
      | (apply ops_plain; (· exact rfl))
      | (apply ops_on; (· exact rfl); (· exact rfl); (· (first | with_reducible assumption | with_reducible rfl | decide)))
      | (apply ops_off1; (· exact rfl); (· exact rfl); (· (first | with_reducible assumption | with_reducible rfl | decide)))
      | (apply ops_off0; (· exact rfl); (· exact rfl); (· (first | with_reducible assumption | with_reducible rfl | decide)))
      | (apply ops_offn; (· exact rfl); (· exact rfl))
      | (apply ops_split1; (· exact rfl); (· exact rfl); all_goals intro hb)
      | (apply ops_split0; (· exact rfl); (· exact rfl); all_goals intro hb)
      | (apply op_call; (· exact rfl); (· exact rfl); (· exact rfl); refine call_table (g := gLive) rfl rfl ?_)
      | (apply op_pick_t; (· exact rfl); (· exact rfl); (· (first | with_reducible assumption | with_reducible rfl | decide)); (· exact rfl))
      | (apply op_pick_f; (· exact rfl); (· exact rfl); (· (first | with_reducible assumption | with_reducible rfl | decide)); (· exact rfl))
      | (apply op_told; (· exact rfl); (· exact hsm))
      | (apply op_load_at; (· exact rfl); (· exact rfl); (· repeat (first | with_reducible assumption | (with_reducible apply obj_here; with_reducible rfl) | with_reducible apply obj_set | (with_reducible apply obj_skip_lo; (· ((repeat (first | with_reducible assumption | with_reducible apply Lo.self | with_reducible apply Lo.new | with_reducible apply Lo.set | with_reducible apply Lo.self1 | with_reducible apply Lo.self2)); done))) | (with_reducible apply obj_past; (· ((first | with_reducible assumption | with_reducible apply ne_add1 | with_reducible apply ne_add1' | with_reducible apply ne_add2 | with_reducible apply ne_add2' | with_reducible apply ne_add12 | with_reducible apply ne_add21 | (with_reducible apply Lo.ne; (repeat (first | with_reducible assumption | with_reducible apply Lo.self | with_reducible apply Lo.new | with_reducible apply Lo.set | with_reducible apply Lo.self1 | with_reducible apply Lo.self2)); done) | (with_reducible apply Lo.ne1; (repeat (first | with_reducible assumption | with_reducible apply Lo.self | with_reducible apply Lo.new | with_reducible apply Lo.set | with_reducible apply Lo.self1 | with_reducible apply Lo.self2)); done) | (with_reducible apply Lo.ne'; (repeat (first | with_reducible assumption | with_reducible apply Lo.self | with_reducible apply Lo.new | with_reducible apply Lo.set | with_reducible apply Lo.self1 | with_reducible apply Lo.self2)); done) | (with_reducible apply Lo.ne1'; (repeat (first | with_reducible assumption | with_reducible apply Lo.self | with_reducible apply Lo.new | with_reducible apply Lo.set | with_reducible apply Lo.self1 | with_reducible apply Lo.self2)); done)); done))))); (· exact rfl); (· exact rfl))
      | (apply op_store_at; (· exact rfl); (· exact rfl); (· exact rfl); (· repeat (first | with_reducible assumption | (with_reducible apply obj_here; with_reducible rfl) | with_reducible apply obj_set | (with_reducible apply obj_skip_lo; (· ((repeat (first | with_reducible assumption | with_reducible apply Lo.self | with_reducible apply Lo.new | with_reducible apply Lo.set | with_reducible apply Lo.self1 | with_reducible apply Lo.self2)); done))) | (with_reducible apply obj_past; (· ((first | with_reducible assumption | with_reducible apply ne_add1 | with_reducible apply ne_add1' | with_reducible apply ne_add2 | with_reducible apply ne_add2' | with_reducible apply ne_add12 | with_reducible apply ne_add21 | (with_reducible apply Lo.ne; (repeat (first | with_reducible assumption | with_reducible apply Lo.self | with_reducible apply Lo.new | with_reducible apply Lo.set | with_reducible apply Lo.self1 | with_reducible apply Lo.self2)); done) | (with_reducible apply Lo.ne1; (repeat (first | with_reducible assumption | with_reducible apply Lo.self | with_reducible apply Lo.new | with_reducible apply Lo.set | with_reducible apply Lo.self1 | with_reducible apply Lo.self2)); done) | (with_reducible apply Lo.ne'; (repeat (first | with_reducible assumption | with_reducible apply Lo.self | with_reducible apply Lo.new | with_reducible apply Lo.set | with_reducible apply Lo.self1 | with_reducible apply Lo.self2)); done) | (with_reducible apply Lo.ne1'; (repeat (first | with_reducible assumption | with_reducible apply Lo.self | with_reducible apply Lo.new | with_reducible apply Lo.set | with_reducible apply Lo.self1 | with_reducible apply Lo.self2)); done)); done))))); (· exact rfl); (· exact rfl); (· exact rfl))
      | (apply op_at; (· exact opD_eqb rfl rfl rfl rfl))
      | (apply op_at; (· exact opD_neqb rfl rfl rfl rfl))
      | (apply op_at; (· exact rfl))
      | (apply dwp_cond_t; (· exact rfl); (· (first | with_reducible assumption | with_reducible rfl | decide)))
      | (apply dwp_cond_f; (· exact rfl); (· (first | with_reducible assumption | with_reducible rfl | decide)))
      | (refine dwp_cond rfl ?_ ?_ <;> intro hb)
      | apply dwp_block
      | apply dwp_skip
      | apply dwp_ret
      | apply dwp_exit
      | (refine ⟨_, rfl, ?_⟩)
      | fail)
  · have h150' : decide (((l.length + m.length : Nat) : Int) > 150) = false := by simpa using h150
    have hn : l.length + m.length ≤ 150 := by simp only [decide_eq_false_iff_not] at h150'; omega
    have hlm : (l ++ m).length = l.length + m.length := List.length_append
    refine enter rfl Try.func7 rfl Try.ntmps7 rfl ?_
    dsimp only [List.cons_append, List.nil_append, List.length_cons, List.length_nil, List.replicate_succ, List.replicate_zero, Nat.reduceAdd, Nat.reduceSub]
    repeat' (first
      | dsimp only [putD, DV.cells, DH.new_next, DH.set_next, List.length_cons, List.length_nil, Nat.reduceAdd, List.set_cons_zero, List.set_cons_succ, getD_zero, getD_succ, fieldAt_zero, fieldAt_succ, thenD, blockD, retR]
      | apply dwp_seq
      | apply dwp_region
      | apply ops_nil
      | (apply ops_plain; (· exact rfl))
      | (apply ops_on; (· exact rfl); (· exact rfl); (· (first | with_reducible assumption | with_reducible rfl | decide)))
      | (apply ops_off1; (· exact rfl); (· exact rfl); (· (first | with_reducible assumption | with_reducible rfl | decide)))
      | (apply ops_off0; (· exact rfl); (· exact rfl); (· (first | with_reducible assumption | with_reducible rfl | decide)))
      | (apply ops_offn; (· exact rfl); (· exact rfl))
      | (apply ops_split1; (· exact rfl); (· exact rfl); all_goals intro hb)
      | (apply ops_split0; (· exact rfl); (· exact rfl); all_goals intro hb)
      | (apply op_call; (· exact rfl); (· exact rfl); (· exact rfl); refine call_table (g := gLive) rfl rfl ?_)
      | (apply op_call; (· exact rfl); (· exact rfl); (· exact rfl); refine (CallWp.up up5 (build_c i2 (by omega))).mono ?_; rintro r H3 ⟨ab3, s3, rfl, i3⟩)
      | (apply op_call; (· exact rfl); (· exact rfl); (· exact rfl); refine (CallWp.up up5 (build_c (hl2.mono ab3) (by omega))).mono ?_; rintro r H4 ⟨ab4, s4, rfl, i4⟩; obtain ⟨p4, c4, e4, rfl, it4, if4⟩ := i4; have ab24 := ab3.trans ab4)
      | (apply op_pick_t; (· exact rfl); (· exact rfl); (· (first | with_reducible assumption | with_reducible rfl | decide)); (· exact rfl))
      | (apply op_pick_f; (· exact rfl); (· exact rfl); (· (first | with_reducible assumption | with_reducible rfl | decide)); (· exact rfl))
      | (apply op_told; (· exact rfl); (· exact hsm))
      | (refine op_append_fresh (xt := 23) rfl rfl rfl E23 (hl.appended Try.underlying23) (cells_all l) (by rw [List.length_map]; unfold mostD; omega) ?_; intro s1 H1 hm1 ab1 hfr1)
      | (refine op_append2 (xt := 23) rfl rfl rfl E23 hm1 ab1 ((hm.mono ab1).appended Try.underlying23) (cells_all m) (by rw [List.length_map, List.length_map]; unfold mostD; omega) ?_; intro s2 H2 hm2 ab2 hax2 hld2; have i2 : Its H2 s2 (l ++ m) := it_of_mine (by rw [List.map_append]; exact hm2) (by unfold maxLen; omega); have hl2 : Its H2 (.sl p l.length c ex) l := ⟨_, _, _, rfl, hl.mono ab2⟩)
      | (apply op_load_at; (· exact rfl); (· exact rfl); (· repeat (first | with_reducible assumption | (with_reducible apply obj_here; with_reducible rfl) | with_reducible apply obj_set | (with_reducible apply obj_skip_lo; (· ((repeat (first | with_reducible assumption | with_reducible apply Lo.self | with_reducible apply Lo.new | with_reducible apply Lo.set | with_reducible apply Lo.self1 | with_reducible apply Lo.self2)); done))) | (with_reducible apply obj_past; (· ((first | with_reducible assumption | with_reducible apply ne_add1 | with_reducible apply ne_add1' | with_reducible apply ne_add2 | with_reducible apply ne_add2' | with_reducible apply ne_add12 | with_reducible apply ne_add21 | (with_reducible apply Lo.ne; (repeat (first | with_reducible assumption | with_reducible apply Lo.self | with_reducible apply Lo.new | with_reducible apply Lo.set | with_reducible apply Lo.self1 | with_reducible apply Lo.self2)); done) | (with_reducible apply Lo.ne1; (repeat (first | with_reducible assumption | with_reducible apply Lo.self | with_reducible apply Lo.new | with_reducible apply Lo.set | with_reducible apply Lo.self1 | with_reducible apply Lo.self2)); done) | (with_reducible apply Lo.ne'; (repeat (first | with_reducible assumption | with_reducible apply Lo.self | with_reducible apply Lo.new | with_reducible apply Lo.set | with_reducible apply Lo.self1 | with_reducible apply Lo.self2)); done) | (with_reducible apply Lo.ne1'; (repeat (first | with_reducible assumption | with_reducible apply Lo.self | with_reducible apply Lo.new | with_reducible apply Lo.set | with_reducible apply Lo.self1 | with_reducible apply Lo.self2)); done)); done))))); (· exact rfl); (· exact rfl))
      | (apply op_store_at; (· exact rfl); (· exact rfl); (· exact rfl); (· repeat (first | with_reducible assumption | (with_reducible apply obj_here; with_reducible rfl) | with_reducible apply obj_set | (with_reducible apply obj_skip_lo; (· ((repeat (first | with_reducible assumption | with_reducible apply Lo.self | with_reducible apply Lo.new | with_reducible apply Lo.set | with_reducible apply Lo.self1 | with_reducible apply Lo.self2)); done))) | (with_reducible apply obj_past; (· ((first | with_reducible assumption | with_reducible apply ne_add1 | with_reducible apply ne_add1' | with_reducible apply ne_add2 | with_reducible apply ne_add2' | with_reducible apply ne_add12 | with_reducible apply ne_add21 | (with_reducible apply Lo.ne; (repeat (first | with_reducible assumption | with_reducible apply Lo.self | with_reducible apply Lo.new | with_reducible apply Lo.set | with_reducible apply Lo.self1 | with_reducible apply Lo.self2)); done) | (with_reducible apply Lo.ne1; (repeat (first | with_reducible assumption | with_reducible apply Lo.self | with_reducible apply Lo.new | with_reducible apply Lo.set | with_reducible apply Lo.self1 | with_reducible apply Lo.self2)); done) | (with_reducible apply Lo.ne'; (repeat (first | with_reducible assumption | with_reducible apply Lo.self | with_reducible apply Lo.new | with_reducible apply Lo.set | with_reducible apply Lo.self1 | with_reducible apply Lo.self2)); done) | (with_reducible apply Lo.ne1'; (repeat (first | with_reducible assumption | with_reducible apply Lo.self | with_reducible apply Lo.new | with_reducible apply Lo.set | with_reducible apply Lo.self1 | with_reducible apply Lo.self2)); done)); done))))); (· exact rfl); (· exact rfl); (· exact rfl))
      | (apply op_at; (· exact opD_eqb rfl rfl rfl rfl))
      | (apply op_at; (· exact opD_neqb rfl rfl rfl rfl))
      | (apply op_at; (· exact rfl))
      | (apply dwp_cond_t; (· exact rfl); (· (first | with_reducible assumption | with_reducible rfl | decide)))
      | (apply dwp_cond_f; (· exact rfl); (· (first | with_reducible assumption | with_reducible rfl | decide)))
      | (refine dwp_cond rfl ?_ ?_ <;> intro hb)
      | apply dwp_block
      | apply dwp_skip
      | apply dwp_ret
      | apply dwp_exit
      | (refine ⟨_, rfl, ?_⟩)
      | fail)
    refine dwp_loop (fun st => ∃ (Hk : DH) (k : Nat) (p9 : Option (Nat × Nat × Nat)) (c9 : Nat) (e9 : Bool) (h : List Item), ∃ J : Nat → DV, (k ≤ m.length ∧ Above H4 Hk ∧ It Hk p9 c9 e9 h ∧ Heap h ∧ List.Perm h (l ++ m.take k)) ∧ st = ⟨(.sl p l.length c ex :: .sl p' m.length c' ex' :: J 2 :: J 3 :: J 4 :: .bool true :: s2 :: s3 :: .int .i64 0 :: .sl p9 h.length c9 e9 :: .int .i64 0 :: J 11 :: J 12 :: J 13 :: J 14 :: J 15 :: J 16 :: J 17 :: J 18 :: J 19 :: J 20 :: J 21 :: J 22 :: J 23 :: J 24 :: J 25 :: J 26 :: J 27 :: J 28 :: J 29 :: J 30 :: J 31 :: J 32 :: J 33 :: J 34 :: J 35 :: J 36 :: J 37 :: J 38 :: J 39 :: J 40 :: J 41 :: .sl p' m.length c' ex' :: .int .i64 m.length :: .int .i64 (k : Int) :: J 45 :: J 46 :: J 47 :: J 48 :: J 49 :: J 50 :: J 51 :: J 52 :: J 53 :: J 54 :: J 55 :: J 56 :: J 57 :: J 58 :: J 59 :: J 60 :: J 61 :: J 62 :: J 63 :: J 64 :: J 65 :: J 66 :: J 67 :: J 68 :: J 69 :: J 70 :: J 71 :: J 72 :: J 73 :: J 74 :: J 75 :: J 76 :: J 77 :: J 78 :: J 79 :: J 80 :: J 81 :: J 82 :: J 83 :: J 84 :: J 85 :: J 86 :: J 87 :: J 88 :: J 89 :: J 90 :: J 91 :: J 92 :: J 93 :: J 94 :: J 95 :: J 96 :: J 97 :: J 98 :: J 99 :: J 100 :: J 101 :: J 102 :: J 103 :: J 104 :: J 105 :: J 106 :: J 107 :: J 108 :: []), Hk⟩) (fun st => m.length - kOf st 44) (⟨H4, 0, p4, c4, e4, buildL l, junk_facts (⟨Nat.zero_le _, Above.refl _, it4, buildL_heap l, by rw [List.take_zero, List.append_nil]; exact buildL_perm l⟩) rfl rfl⟩) ?_
    rintro st ⟨Hk, k, p9, c9, e9, h, J, ⟨hk, hab, hit, hhp, hpm⟩, rfl⟩
    have hpl := hpm.length_eq
    rw [List.length_append, List.length_take] at hpl
    by_cases hlt : k < m.length
    · obtain ⟨x, hx⟩ : ∃ x, m[k]? = some x := ⟨m[k], List.getElem?_eq_getElem hlt⟩
      obtain ⟨loc, i0, ro, rs, rfl, hloc, ho, hrx⟩ := hm.rd hx
      have ho0 := ((ab2.trans ab24).trans hab).obj hloc ho
      have hr1 : rs[i0 + ((k : Int)).toNat]? = some x.cells := by rw [Int.toNat_natCast]; exact hrx
      have hc : decide ((k : Int) < (m.length : Int)) = true := by simp [hlt]
      have hin1 : 0 ≤ (k : Int) ∧ (k : Int) < (m.length : Int) := by omega
      have hw := wrapNat (k := k) (by omega)
      have hE : pushE h = 0 := pushE_ok (checkB_heap.mpr ⟨hhp, by omega⟩) (by omega)
      have hup : ∀ {o o'}, Above Hk ((Hk.new o).set Hk.next o') := fun {o o'} => ((Above.refl Hk).new _).set (Nat.le_refl _) _
      have hp1 : List.Perm (pushV h x) (l ++ m.take (k + 1)) := by
        rw [List.take_add_one, hx, ← List.append_assoc]
        exact (pushV_perm hE).trans ((hpm.cons x).trans (List.perm_append_singleton _ _).symm)
      repeat' (first
        | dsimp only [putD, DV.cells, DH.new_next, DH.set_next, List.length_cons, List.length_nil, Nat.reduceAdd, List.set_cons_zero, List.set_cons_succ, getD_zero, getD_succ, fieldAt_zero, fieldAt_succ, thenD, blockD, retR]
        | apply dwp_seq
        | apply dwp_region
        | apply ops_nil
        | (apply ops_plain; (· exact rfl))
        | (apply ops_on; (· exact rfl); (· exact rfl); (· (first | with_reducible assumption | with_reducible rfl | decide)))
        | (apply ops_off1; (· exact rfl); (· exact rfl); (· (first | with_reducible assumption | with_reducible rfl | decide)))
        | (apply ops_off0; (· exact rfl); (· exact rfl); (· (first | with_reducible assumption | with_reducible rfl | decide)))
        | (apply ops_offn; (· exact rfl); (· exact rfl))
        | (apply ops_split1; (· exact rfl); (· exact rfl); all_goals intro hb)
        | (apply ops_split0; (· exact rfl); (· exact rfl); all_goals intro hb)
        | (apply op_call; (· exact rfl); (· exact rfl); (· exact rfl); refine (CallWp.up up5 (push_c x (⟨_, _, _, rfl, hit.mono hup⟩ : Its _ (.sl p9 h.length c9 e9) h) (by omega))).mono ?_; rintro r H5 ⟨ab5, s5, rfl, i5⟩; rw [hE]; obtain ⟨p5, c5, e5, rfl, it5, if5⟩ := i5; have aa5 := hup.trans ab5)
        | (apply op_pick_t; (· exact rfl); (· exact rfl); (· (first | with_reducible assumption | with_reducible rfl | decide)); (· exact rfl))
        | (apply op_pick_f; (· exact rfl); (· exact rfl); (· (first | with_reducible assumption | with_reducible rfl | decide)); (· exact rfl))
        | (apply op_index_at; (· exact rfl); (· exact rfl); (· exact rfl); (· with_reducible exact hin1); (· exact rfl); (· exact rfl))
        | (apply op_load_at; (· exact rfl); (· exact rfl); (· with_reducible exact ho0); (· with_reducible exact hr1); (· exact (item_part x)))
        | (apply op_load_at; (· exact rfl); (· exact rfl); (· repeat (first | with_reducible assumption | (with_reducible apply obj_here; with_reducible rfl) | with_reducible apply obj_set | (with_reducible apply obj_skip_lo; (· ((repeat (first | with_reducible assumption | with_reducible apply Lo.self | with_reducible apply Lo.new | with_reducible apply Lo.set | with_reducible apply Lo.self1 | with_reducible apply Lo.self2)); done))) | (with_reducible apply obj_past; (· ((first | with_reducible assumption | with_reducible apply ne_add1 | with_reducible apply ne_add1' | with_reducible apply ne_add2 | with_reducible apply ne_add2' | with_reducible apply ne_add12 | with_reducible apply ne_add21 | (with_reducible apply Lo.ne; (repeat (first | with_reducible assumption | with_reducible apply Lo.self | with_reducible apply Lo.new | with_reducible apply Lo.set | with_reducible apply Lo.self1 | with_reducible apply Lo.self2)); done) | (with_reducible apply Lo.ne1; (repeat (first | with_reducible assumption | with_reducible apply Lo.self | with_reducible apply Lo.new | with_reducible apply Lo.set | with_reducible apply Lo.self1 | with_reducible apply Lo.self2)); done) | (with_reducible apply Lo.ne'; (repeat (first | with_reducible assumption | with_reducible apply Lo.self | with_reducible apply Lo.new | with_reducible apply Lo.set | with_reducible apply Lo.self1 | with_reducible apply Lo.self2)); done) | (with_reducible apply Lo.ne1'; (repeat (first | with_reducible assumption | with_reducible apply Lo.self | with_reducible apply Lo.new | with_reducible apply Lo.set | with_reducible apply Lo.self1 | with_reducible apply Lo.self2)); done)); done))))); (· exact rfl); (· exact item_part x))
        | (apply op_load_at; (· exact rfl); (· exact rfl); (· repeat (first | with_reducible assumption | (with_reducible apply obj_here; with_reducible rfl) | with_reducible apply obj_set | (with_reducible apply obj_skip_lo; (· ((repeat (first | with_reducible assumption | with_reducible apply Lo.self | with_reducible apply Lo.new | with_reducible apply Lo.set | with_reducible apply Lo.self1 | with_reducible apply Lo.self2)); done))) | (with_reducible apply obj_past; (· ((first | with_reducible assumption | with_reducible apply ne_add1 | with_reducible apply ne_add1' | with_reducible apply ne_add2 | with_reducible apply ne_add2' | with_reducible apply ne_add12 | with_reducible apply ne_add21 | (with_reducible apply Lo.ne; (repeat (first | with_reducible assumption | with_reducible apply Lo.self | with_reducible apply Lo.new | with_reducible apply Lo.set | with_reducible apply Lo.self1 | with_reducible apply Lo.self2)); done) | (with_reducible apply Lo.ne1; (repeat (first | with_reducible assumption | with_reducible apply Lo.self | with_reducible apply Lo.new | with_reducible apply Lo.set | with_reducible apply Lo.self1 | with_reducible apply Lo.self2)); done) | (with_reducible apply Lo.ne'; (repeat (first | with_reducible assumption | with_reducible apply Lo.self | with_reducible apply Lo.new | with_reducible apply Lo.set | with_reducible apply Lo.self1 | with_reducible apply Lo.self2)); done) | (with_reducible apply Lo.ne1'; (repeat (first | with_reducible assumption | with_reducible apply Lo.self | with_reducible apply Lo.new | with_reducible apply Lo.set | with_reducible apply Lo.self1 | with_reducible apply Lo.self2)); done)); done))))); (· exact rfl); (· exact rfl))
        | (apply op_store_at; (· exact rfl); (· exact rfl); (· exact rfl); (· repeat (first | with_reducible assumption | (with_reducible apply obj_here; with_reducible rfl) | with_reducible apply obj_set | (with_reducible apply obj_skip_lo; (· ((repeat (first | with_reducible assumption | with_reducible apply Lo.self | with_reducible apply Lo.new | with_reducible apply Lo.set | with_reducible apply Lo.self1 | with_reducible apply Lo.self2)); done))) | (with_reducible apply obj_past; (· ((first | with_reducible assumption | with_reducible apply ne_add1 | with_reducible apply ne_add1' | with_reducible apply ne_add2 | with_reducible apply ne_add2' | with_reducible apply ne_add12 | with_reducible apply ne_add21 | (with_reducible apply Lo.ne; (repeat (first | with_reducible assumption | with_reducible apply Lo.self | with_reducible apply Lo.new | with_reducible apply Lo.set | with_reducible apply Lo.self1 | with_reducible apply Lo.self2)); done) | (with_reducible apply Lo.ne1; (repeat (first | with_reducible assumption | with_reducible apply Lo.self | with_reducible apply Lo.new | with_reducible apply Lo.set | with_reducible apply Lo.self1 | with_reducible apply Lo.self2)); done) | (with_reducible apply Lo.ne'; (repeat (first | with_reducible assumption | with_reducible apply Lo.self | with_reducible apply Lo.new | with_reducible apply Lo.set | with_reducible apply Lo.self1 | with_reducible apply Lo.self2)); done) | (with_reducible apply Lo.ne1'; (repeat (first | with_reducible assumption | with_reducible apply Lo.self | with_reducible apply Lo.new | with_reducible apply Lo.set | with_reducible apply Lo.self1 | with_reducible apply Lo.self2)); done)); done))))); (· exact rfl); (· exact rfl); (· exact rfl))
        | (apply op_at; (· exact opD_eqb rfl rfl rfl rfl))
        | (apply op_at; (· exact opD_neqb rfl rfl rfl rfl))
        | (apply op_at; (· exact rfl))
        | (apply dwp_cond_t; (· exact rfl); (· (first | with_reducible assumption | with_reducible rfl | decide)))
        | (apply dwp_cond_f; (· exact rfl); (· (first | with_reducible assumption | with_reducible rfl | decide)))
        | (refine dwp_cond rfl ?_ ?_ <;> intro hb)
        | apply dwp_block
        | apply dwp_skip
        | apply dwp_ret
        | apply dwp_exit
        | (refine ⟨_, rfl, ?_⟩)
        | fail)
      rw [hw]
      refine ⟨⟨_, k + 1, _, _, _, _, junk_facts (⟨by omega, hab.trans aa5, it5, pushV_heap hE, hp1⟩) rfl rfl⟩, ?_⟩
      show m.length - ((k + 1 : Nat) : Int).toNat < m.length - (k : Int).toNat
      omega
    · obtain rfl : k = m.length := by omega
      rw [List.take_length] at hpm
      have hc : decide ((m.length : Int) < (m.length : Int)) = false := by simp
      have hcb1 : checkB (buildL (l ++ m)) = true := checkB_heap.mpr ⟨buildL_heap _, by rw [(buildL_perm _).length_eq]; omega⟩
      have hcb2 : checkB h = true := checkB_heap.mpr ⟨hhp, by omega⟩
      have hss : decide (sortL (buildL (l ++ m)) = sortL h) = true := by rw [decide_eq_true_eq]; exact sortL_congr ((buildL_perm _).trans hpm.symm)
      have i7 := (i3.its.mono ab4).mono hab
      have i9 : Its Hk (.sl p9 h.length c9 e9) h := ⟨_, _, _, rfl, hit⟩
      have hSl : (sortL (l ++ m)).length = l.length + m.length := by rw [(sortL_perm _).length_eq]; exact hlm
      repeat' (first
        | dsimp only [putD, DV.cells, DH.new_next, DH.set_next, List.length_cons, List.length_nil, Nat.reduceAdd, List.set_cons_zero, List.set_cons_succ, getD_zero, getD_succ, fieldAt_zero, fieldAt_succ, thenD, blockD, retR]
        | apply dwp_seq
        | apply dwp_region
        | apply ops_nil
        | (apply ops_plain; (· exact rfl))
        | (apply ops_on; (· exact rfl); (· exact rfl); (· (first | with_reducible assumption | with_reducible rfl | decide)))
        | (apply ops_off1; (· exact rfl); (· exact rfl); (· (first | with_reducible assumption | with_reducible rfl | decide)))
        | (apply ops_off0; (· exact rfl); (· exact rfl); (· (first | with_reducible assumption | with_reducible rfl | decide)))
        | (apply ops_offn; (· exact rfl); (· exact rfl))
        | (apply ops_split1; (· exact rfl); (· exact rfl); all_goals intro hb)
        | (apply ops_split0; (· exact rfl); (· exact rfl); all_goals intro hb)
        | (apply op_call; (· exact rfl); (· exact rfl); (· exact rfl); refine call_table (g := gCheck) rfl (check_t i7) ?_; rw [hcb1])
        | (apply op_call; (· exact rfl); (· exact rfl); (· exact rfl); refine call_table (g := gCheck) rfl (check_t i9) ?_; rw [hcb2])
        | (apply op_call; (· exact rfl); (· exact rfl); (· exact rfl); refine (CallWp.up up5 (sorted_c i7 (by rw [(buildL_perm _).length_eq]; omega))).mono ?_; rintro r6 H6 ⟨ab6, i6⟩)
        | (apply op_call; (· exact rfl); (· exact rfl); (· exact rfl); refine (CallWp.up up5 (sorted_c (i9.mono ab6) (by omega))).mono ?_; rintro r8 H8 ⟨ab8, i8⟩)
        | (apply op_call; (· exact rfl); (· exact rfl); (· exact rfl); refine call_table (g := gSame) rfl (same_t (i6.its.mono ab8) i8.its) ?_; rw [hss])
        | (apply op_call; (· exact rfl); (· exact rfl); (· exact rfl); refine (sorted30 _ _ (l ++ m) (((i2.mono ab24).mono hab).mono (ab6.trans ab8)) (by omega)).mono ?_; rintro r H9 ⟨ab9, i10⟩; obtain ⟨p3, c3, e3, rfl, it3, if3⟩ := i10; have it9 := hit.mono ((ab6.trans ab8).trans ab9))
        | (apply op_pick_t; (· exact rfl); (· exact rfl); (· (first | with_reducible assumption | with_reducible rfl | decide)); (· exact rfl))
        | (apply op_pick_f; (· exact rfl); (· exact rfl); (· (first | with_reducible assumption | with_reducible rfl | decide)); (· exact rfl))
        | (apply op_load_at; (· exact rfl); (· exact rfl); (· repeat (first | with_reducible assumption | (with_reducible apply obj_here; with_reducible rfl) | with_reducible apply obj_set | (with_reducible apply obj_skip_lo; (· ((repeat (first | with_reducible assumption | with_reducible apply Lo.self | with_reducible apply Lo.new | with_reducible apply Lo.set | with_reducible apply Lo.self1 | with_reducible apply Lo.self2)); done))) | (with_reducible apply obj_past; (· ((first | with_reducible assumption | with_reducible apply ne_add1 | with_reducible apply ne_add1' | with_reducible apply ne_add2 | with_reducible apply ne_add2' | with_reducible apply ne_add12 | with_reducible apply ne_add21 | (with_reducible apply Lo.ne; (repeat (first | with_reducible assumption | with_reducible apply Lo.self | with_reducible apply Lo.new | with_reducible apply Lo.set | with_reducible apply Lo.self1 | with_reducible apply Lo.self2)); done) | (with_reducible apply Lo.ne1; (repeat (first | with_reducible assumption | with_reducible apply Lo.self | with_reducible apply Lo.new | with_reducible apply Lo.set | with_reducible apply Lo.self1 | with_reducible apply Lo.self2)); done) | (with_reducible apply Lo.ne'; (repeat (first | with_reducible assumption | with_reducible apply Lo.self | with_reducible apply Lo.new | with_reducible apply Lo.set | with_reducible apply Lo.self1 | with_reducible apply Lo.self2)); done) | (with_reducible apply Lo.ne1'; (repeat (first | with_reducible assumption | with_reducible apply Lo.self | with_reducible apply Lo.new | with_reducible apply Lo.set | with_reducible apply Lo.self1 | with_reducible apply Lo.self2)); done)); done))))); (· exact rfl); (· exact rfl))
        | (apply op_store_at; (· exact rfl); (· exact rfl); (· exact rfl); (· repeat (first | with_reducible assumption | (with_reducible apply obj_here; with_reducible rfl) | with_reducible apply obj_set | (with_reducible apply obj_skip_lo; (· ((repeat (first | with_reducible assumption | with_reducible apply Lo.self | with_reducible apply Lo.new | with_reducible apply Lo.set | with_reducible apply Lo.self1 | with_reducible apply Lo.self2)); done))) | (with_reducible apply obj_past; (· ((first | with_reducible assumption | with_reducible apply ne_add1 | with_reducible apply ne_add1' | with_reducible apply ne_add2 | with_reducible apply ne_add2' | with_reducible apply ne_add12 | with_reducible apply ne_add21 | (with_reducible apply Lo.ne; (repeat (first | with_reducible assumption | with_reducible apply Lo.self | with_reducible apply Lo.new | with_reducible apply Lo.set | with_reducible apply Lo.self1 | with_reducible apply Lo.self2)); done) | (with_reducible apply Lo.ne1; (repeat (first | with_reducible assumption | with_reducible apply Lo.self | with_reducible apply Lo.new | with_reducible apply Lo.set | with_reducible apply Lo.self1 | with_reducible apply Lo.self2)); done) | (with_reducible apply Lo.ne'; (repeat (first | with_reducible assumption | with_reducible apply Lo.self | with_reducible apply Lo.new | with_reducible apply Lo.set | with_reducible apply Lo.self1 | with_reducible apply Lo.self2)); done) | (with_reducible apply Lo.ne1'; (repeat (first | with_reducible assumption | with_reducible apply Lo.self | with_reducible apply Lo.new | with_reducible apply Lo.set | with_reducible apply Lo.self1 | with_reducible apply Lo.self2)); done)); done))))); (· exact rfl); (· exact rfl); (· exact rfl))
        | (apply op_at; (· exact opD_eqb rfl rfl rfl rfl))
        | (apply op_at; (· exact opD_neqb rfl rfl rfl rfl))
        | (apply op_at; (· exact rfl))
        | (apply dwp_cond_t; (· exact rfl); (· (first | with_reducible assumption | with_reducible rfl | decide)))
        | (apply dwp_cond_f; (· exact rfl); (· (first | with_reducible assumption | with_reducible rfl | decide)))
        | (refine dwp_cond rfl ?_ ?_ <;> intro hb)
        | apply dwp_block
        | apply dwp_skip
        | apply dwp_ret
        | apply dwp_exit
        | (refine ⟨_, rfl, ?_⟩)
        | fail)
      refine dwp_loop (fun st => ∃ (Hk : DH) (k : Nat) (p9 : Option (Nat × Nat × Nat)) (c9 : Nat) (e9 : Bool) (h : List Item), ∃ J : Nat → DV, (k ≤ (sortL (l ++ m)).length ∧ Above H9 Hk ∧ It Hk p9 c9 e9 h ∧ Heap h ∧ List.Perm h ((sortL (l ++ m)).drop k)) ∧ st = ⟨(J 0 :: J 1 :: J 2 :: J 3 :: J 4 :: .bool true :: J 6 :: J 7 :: J 8 :: .sl p9 h.length c9 e9 :: J 10 :: J 11 :: J 12 :: J 13 :: J 14 :: J 15 :: J 16 :: J 17 :: J 18 :: J 19 :: J 20 :: J 21 :: J 22 :: J 23 :: J 24 :: J 25 :: J 26 :: J 27 :: J 28 :: J 29 :: J 30 :: J 31 :: J 32 :: J 33 :: J 34 :: J 35 :: J 36 :: J 37 :: J 38 :: J 39 :: J 40 :: J 41 :: J 42 :: J 43 :: J 44 :: J 45 :: J 46 :: J 47 :: J 48 :: J 49 :: J 50 :: J 51 :: J 52 :: J 53 :: J 54 :: J 55 :: J 56 :: J 57 :: J 58 :: J 59 :: J 60 :: J 61 :: J 62 :: J 63 :: J 64 :: J 65 :: J 66 :: J 67 :: J 68 :: J 69 :: J 70 :: J 71 :: J 72 :: J 73 :: J 74 :: J 75 :: J 76 :: J 77 :: J 78 :: J 79 :: J 80 :: J 81 :: .sl p3 (sortL (l ++ m)).length c3 e3 :: .int .i64 (sortL (l ++ m)).length :: .int .i64 (k : Int) :: J 85 :: J 86 :: J 87 :: J 88 :: J 89 :: J 90 :: J 91 :: J 92 :: J 93 :: J 94 :: J 95 :: J 96 :: J 97 :: J 98 :: J 99 :: J 100 :: J 101 :: J 102 :: J 103 :: J 104 :: J 105 :: J 106 :: J 107 :: J 108 :: []), Hk⟩) (fun st => (sortL (l ++ m)).length - kOf st 84) (⟨H9, 0, p9, c9, e9, h, junk_facts (⟨Nat.zero_le _, Above.refl _, it9, hhp, by rw [List.drop_zero]; exact hpm.trans (sortL_perm _).symm⟩) rfl rfl⟩) ?_
      rintro st ⟨Hq, k, q9, d9, f9, g, J, ⟨hk, habq, hitq, hhq, hpq⟩, rfl⟩
      have hgl := hpq.length_eq
      rw [List.length_drop] at hgl
      by_cases hlt : k < (sortL (l ++ m)).length
      · obtain ⟨y, hy⟩ : ∃ y, (sortL (l ++ m))[k]? = some y := ⟨(sortL (l ++ m))[k], List.getElem?_eq_getElem hlt⟩
        obtain ⟨loc, i0, ro, rs, rfl, hloc, ho, hrx⟩ := it3.rd hy
        have ho0 := habq.obj hloc ho
        have hr1 : rs[i0 + ((k : Int)).toNat]? = some y.cells := by rw [Int.toNat_natCast]; exact hrx
        have hc2 : decide ((k : Int) < ((sortL (l ++ m)).length : Int)) = true := by simp [hlt]
        have hin1 : 0 ≤ (k : Int) ∧ (k : Int) < ((sortL (l ++ m)).length : Int) := by omega
        have hw := wrapNat (k := k) (by omega)
        have hge : g ≠ [] := fun e => by subst e; simp at hgl; omega
        have hE : popE g = 0 := popE_ok (checkB_heap.mpr ⟨hhq, by omega⟩) hge
        have hdr : (sortL (l ++ m)).drop k = y :: (sortL (l ++ m)).drop (k + 1) := by
          rw [List.drop_eq_getElem_cons hlt, List.getElem?_eq_getElem hlt] at *
          simp at hy
          rw [hy]
        have hso : Sorted (y :: (sortL (l ++ m)).drop (k + 1)) := by rw [← hdr]; exact (sortL_sorted _).sublist (List.drop_sublist _ _)
        rw [hdr] at hpq
        obtain ⟨hx, hpv⟩ := next_is hE hpq hso
        have hup : ∀ {o o'}, Above Hq ((Hq.new o).set Hq.next o') := fun {o o'} => ((Above.refl Hq).new _).set (Nat.le_refl _) _
        have npy : (!decide (y = y)) = false := by simp
        repeat' (first
          | dsimp only [putD, DV.cells, DH.new_next, DH.set_next, List.length_cons, List.length_nil, Nat.reduceAdd, List.set_cons_zero, List.set_cons_succ, getD_zero, getD_succ, fieldAt_zero, fieldAt_succ, thenD, blockD, retR]
          | apply dwp_seq
          | apply dwp_region
          | apply ops_nil
          | (apply ops_plain; (· exact rfl))
          | (apply ops_on; (· exact rfl); (· exact rfl); (· (first | with_reducible assumption | with_reducible rfl | decide)))
          | (apply ops_off1; (· exact rfl); (· exact rfl); (· (first | with_reducible assumption | with_reducible rfl | decide)))
          | (apply ops_off0; (· exact rfl); (· exact rfl); (· (first | with_reducible assumption | with_reducible rfl | decide)))
          | (apply ops_offn; (· exact rfl); (· exact rfl))
          | (apply ops_split1; (· exact rfl); (· exact rfl); all_goals intro hb)
          | (apply ops_split0; (· exact rfl); (· exact rfl); all_goals intro hb)
          | (apply op_call; (· exact rfl); (· exact rfl); (· exact rfl); refine (CallWp.up up5 (pop_c (⟨_, _, _, rfl, hitq.mono hup⟩ : Its _ (.sl q9 g.length d9 f9) g) (by omega))).mono ?_; rintro r H5 ⟨ab5, s5, rfl, i5⟩; rw [hE, hx]; obtain ⟨p5, c5, e5, rfl, it5, if5⟩ := i5; have hy5 := ab5.obj (l := Hq.next) (Nat.lt_succ_self _) obj_set; have hly5 : Lo H5 Hq.next := lo (Nat.lt_of_lt_of_le (Nat.lt_succ_self _) ab5.le); have hup5 : ∀ {o o'}, Above H5 ((H5.new o).set H5.next o') := fun {o o'} => ((Above.refl H5).new _).set (Nat.le_refl _) _; have aa5 := hup.trans ab5)
          | (apply op_pick_t; (· exact rfl); (· exact rfl); (· (first | with_reducible assumption | with_reducible rfl | decide)); (· exact rfl))
          | (apply op_pick_f; (· exact rfl); (· exact rfl); (· (first | with_reducible assumption | with_reducible rfl | decide)); (· exact rfl))
          | (apply op_index_at; (· exact rfl); (· exact rfl); (· exact rfl); (· with_reducible exact hin1); (· exact rfl); (· exact rfl))
          | (apply op_load_at; (· exact rfl); (· exact rfl); (· with_reducible exact ho0); (· with_reducible exact hr1); (· exact (item_part y)))
          | (apply op_load_at; (· exact rfl); (· exact rfl); (· repeat (first | with_reducible assumption | (with_reducible apply obj_here; with_reducible rfl) | with_reducible apply obj_set | (with_reducible apply obj_skip_lo; (· ((repeat (first | with_reducible assumption | with_reducible apply Lo.self | with_reducible apply Lo.new | with_reducible apply Lo.set | with_reducible apply Lo.self1 | with_reducible apply Lo.self2)); done))) | (with_reducible apply obj_past; (· ((first | with_reducible assumption | with_reducible apply ne_add1 | with_reducible apply ne_add1' | with_reducible apply ne_add2 | with_reducible apply ne_add2' | with_reducible apply ne_add12 | with_reducible apply ne_add21 | (with_reducible apply Lo.ne; (repeat (first | with_reducible assumption | with_reducible apply Lo.self | with_reducible apply Lo.new | with_reducible apply Lo.set | with_reducible apply Lo.self1 | with_reducible apply Lo.self2)); done) | (with_reducible apply Lo.ne1; (repeat (first | with_reducible assumption | with_reducible apply Lo.self | with_reducible apply Lo.new | with_reducible apply Lo.set | with_reducible apply Lo.self1 | with_reducible apply Lo.self2)); done) | (with_reducible apply Lo.ne'; (repeat (first | with_reducible assumption | with_reducible apply Lo.self | with_reducible apply Lo.new | with_reducible apply Lo.set | with_reducible apply Lo.self1 | with_reducible apply Lo.self2)); done) | (with_reducible apply Lo.ne1'; (repeat (first | with_reducible assumption | with_reducible apply Lo.self | with_reducible apply Lo.new | with_reducible apply Lo.set | with_reducible apply Lo.self1 | with_reducible apply Lo.self2)); done)); done))))); (· exact rfl); (· exact item_part y))
          | (apply op_at; (· exact opD_neql rfl rfl rfl (eqItem y y)))
          | (apply op_load_at; (· exact rfl); (· exact rfl); (· repeat (first | with_reducible assumption | (with_reducible apply obj_here; with_reducible rfl) | with_reducible apply obj_set | (with_reducible apply obj_skip_lo; (· ((repeat (first | with_reducible assumption | with_reducible apply Lo.self | with_reducible apply Lo.new | with_reducible apply Lo.set | with_reducible apply Lo.self1 | with_reducible apply Lo.self2)); done))) | (with_reducible apply obj_past; (· ((first | with_reducible assumption | with_reducible apply ne_add1 | with_reducible apply ne_add1' | with_reducible apply ne_add2 | with_reducible apply ne_add2' | with_reducible apply ne_add12 | with_reducible apply ne_add21 | (with_reducible apply Lo.ne; (repeat (first | with_reducible assumption | with_reducible apply Lo.self | with_reducible apply Lo.new | with_reducible apply Lo.set | with_reducible apply Lo.self1 | with_reducible apply Lo.self2)); done) | (with_reducible apply Lo.ne1; (repeat (first | with_reducible assumption | with_reducible apply Lo.self | with_reducible apply Lo.new | with_reducible apply Lo.set | with_reducible apply Lo.self1 | with_reducible apply Lo.self2)); done) | (with_reducible apply Lo.ne'; (repeat (first | with_reducible assumption | with_reducible apply Lo.self | with_reducible apply Lo.new | with_reducible apply Lo.set | with_reducible apply Lo.self1 | with_reducible apply Lo.self2)); done) | (with_reducible apply Lo.ne1'; (repeat (first | with_reducible assumption | with_reducible apply Lo.self | with_reducible apply Lo.new | with_reducible apply Lo.set | with_reducible apply Lo.self1 | with_reducible apply Lo.self2)); done)); done))))); (· exact rfl); (· exact rfl))
          | (apply op_store_at; (· exact rfl); (· exact rfl); (· exact rfl); (· repeat (first | with_reducible assumption | (with_reducible apply obj_here; with_reducible rfl) | with_reducible apply obj_set | (with_reducible apply obj_skip_lo; (· ((repeat (first | with_reducible assumption | with_reducible apply Lo.self | with_reducible apply Lo.new | with_reducible apply Lo.set | with_reducible apply Lo.self1 | with_reducible apply Lo.self2)); done))) | (with_reducible apply obj_past; (· ((first | with_reducible assumption | with_reducible apply ne_add1 | with_reducible apply ne_add1' | with_reducible apply ne_add2 | with_reducible apply ne_add2' | with_reducible apply ne_add12 | with_reducible apply ne_add21 | (with_reducible apply Lo.ne; (repeat (first | with_reducible assumption | with_reducible apply Lo.self | with_reducible apply Lo.new | with_reducible apply Lo.set | with_reducible apply Lo.self1 | with_reducible apply Lo.self2)); done) | (with_reducible apply Lo.ne1; (repeat (first | with_reducible assumption | with_reducible apply Lo.self | with_reducible apply Lo.new | with_reducible apply Lo.set | with_reducible apply Lo.self1 | with_reducible apply Lo.self2)); done) | (with_reducible apply Lo.ne'; (repeat (first | with_reducible assumption | with_reducible apply Lo.self | with_reducible apply Lo.new | with_reducible apply Lo.set | with_reducible apply Lo.self1 | with_reducible apply Lo.self2)); done) | (with_reducible apply Lo.ne1'; (repeat (first | with_reducible assumption | with_reducible apply Lo.self | with_reducible apply Lo.new | with_reducible apply Lo.set | with_reducible apply Lo.self1 | with_reducible apply Lo.self2)); done)); done))))); (· exact rfl); (· exact rfl); (· exact rfl))
          | (apply op_at; (· exact opD_eqb rfl rfl rfl rfl))
          | (apply op_at; (· exact opD_neqb rfl rfl rfl rfl))
          | (apply op_at; (· exact rfl))
          | (apply dwp_cond_t; (· exact rfl); (· (first | with_reducible assumption | with_reducible rfl | decide)))
          | (apply dwp_cond_f; (· exact rfl); (· (first | with_reducible assumption | with_reducible rfl | decide)))
          | (refine dwp_cond rfl ?_ ?_ <;> intro hb)
          | apply dwp_block
          | apply dwp_skip
          | apply dwp_ret
          | apply dwp_exit
          | (refine ⟨_, rfl, ?_⟩)
          | fail)
        rw [hw]
        refine ⟨⟨_, k + 1, _, _, _, _, junk_facts (⟨by omega, habq.trans (aa5.trans hup5), it5.mono hup5, popV_heap hE, hpv⟩) rfl rfl⟩, ?_⟩
        show (sortL (l ++ m)).length - ((k + 1 : Nat) : Int).toNat < (sortL (l ++ m)).length - (k : Int).toNat
        omega
      · obtain rfl : k = (sortL (l ++ m)).length := by omega
        have hc2 : decide (((sortL (l ++ m)).length : Int) < ((sortL (l ++ m)).length : Int)) = false := by simp
        have hg0 : g.length = 0 := by omega
        have hz : ((g.length : Int) == 0) = true := by simp [hg0]
        repeat' (first
          | dsimp only [putD, DV.cells, DH.new_next, DH.set_next, List.length_cons, List.length_nil, Nat.reduceAdd, List.set_cons_zero, List.set_cons_succ, getD_zero, getD_succ, fieldAt_zero, fieldAt_succ, thenD, blockD, retR]
          | apply dwp_seq
          | apply dwp_region
          | apply ops_nil
          | (apply ops_plain; (· exact rfl))
          | (apply ops_on; (· exact rfl); (· exact rfl); (· (first | with_reducible assumption | with_reducible rfl | decide)))
          | (apply ops_off1; (· exact rfl); (· exact rfl); (· (first | with_reducible assumption | with_reducible rfl | decide)))
          | (apply ops_off0; (· exact rfl); (· exact rfl); (· (first | with_reducible assumption | with_reducible rfl | decide)))
          | (apply ops_offn; (· exact rfl); (· exact rfl))
          | (apply ops_split1; (· exact rfl); (· exact rfl); all_goals intro hb)
          | (apply ops_split0; (· exact rfl); (· exact rfl); all_goals intro hb)
          | (apply op_pick_t; (· exact rfl); (· exact rfl); (· (first | with_reducible assumption | with_reducible rfl | decide)); (· exact rfl))
          | (apply op_pick_f; (· exact rfl); (· exact rfl); (· (first | with_reducible assumption | with_reducible rfl | decide)); (· exact rfl))
          | (apply op_load_at; (· exact rfl); (· exact rfl); (· repeat (first | with_reducible assumption | (with_reducible apply obj_here; with_reducible rfl) | with_reducible apply obj_set | (with_reducible apply obj_skip_lo; (· ((repeat (first | with_reducible assumption | with_reducible apply Lo.self | with_reducible apply Lo.new | with_reducible apply Lo.set | with_reducible apply Lo.self1 | with_reducible apply Lo.self2)); done))) | (with_reducible apply obj_past; (· ((first | with_reducible assumption | with_reducible apply ne_add1 | with_reducible apply ne_add1' | with_reducible apply ne_add2 | with_reducible apply ne_add2' | with_reducible apply ne_add12 | with_reducible apply ne_add21 | (with_reducible apply Lo.ne; (repeat (first | with_reducible assumption | with_reducible apply Lo.self | with_reducible apply Lo.new | with_reducible apply Lo.set | with_reducible apply Lo.self1 | with_reducible apply Lo.self2)); done) | (with_reducible apply Lo.ne1; (repeat (first | with_reducible assumption | with_reducible apply Lo.self | with_reducible apply Lo.new | with_reducible apply Lo.set | with_reducible apply Lo.self1 | with_reducible apply Lo.self2)); done) | (with_reducible apply Lo.ne'; (repeat (first | with_reducible assumption | with_reducible apply Lo.self | with_reducible apply Lo.new | with_reducible apply Lo.set | with_reducible apply Lo.self1 | with_reducible apply Lo.self2)); done) | (with_reducible apply Lo.ne1'; (repeat (first | with_reducible assumption | with_reducible apply Lo.self | with_reducible apply Lo.new | with_reducible apply Lo.set | with_reducible apply Lo.self1 | with_reducible apply Lo.self2)); done)); done))))); (· exact rfl); (· exact rfl))
          | (apply op_store_at; (· exact rfl); (· exact rfl); (· exact rfl); (· repeat (first | with_reducible assumption | (with_reducible apply obj_here; with_reducible rfl) | with_reducible apply obj_set | (with_reducible apply obj_skip_lo; (· ((repeat (first | with_reducible assumption | with_reducible apply Lo.self | with_reducible apply Lo.new | with_reducible apply Lo.set | with_reducible apply Lo.self1 | with_reducible apply Lo.self2)); done))) | (with_reducible apply obj_past; (· ((first | with_reducible assumption | with_reducible apply ne_add1 | with_reducible apply ne_add1' | with_reducible apply ne_add2 | with_reducible apply ne_add2' | with_reducible apply ne_add12 | with_reducible apply ne_add21 | (with_reducible apply Lo.ne; (repeat (first | with_reducible assumption | with_reducible apply Lo.self | with_reducible apply Lo.new | with_reducible apply Lo.set | with_reducible apply Lo.self1 | with_reducible apply Lo.self2)); done) | (with_reducible apply Lo.ne1; (repeat (first | with_reducible assumption | with_reducible apply Lo.self | with_reducible apply Lo.new | with_reducible apply Lo.set | with_reducible apply Lo.self1 | with_reducible apply Lo.self2)); done) | (with_reducible apply Lo.ne'; (repeat (first | with_reducible assumption | with_reducible apply Lo.self | with_reducible apply Lo.new | with_reducible apply Lo.set | with_reducible apply Lo.self1 | with_reducible apply Lo.self2)); done) | (with_reducible apply Lo.ne1'; (repeat (first | with_reducible assumption | with_reducible apply Lo.self | with_reducible apply Lo.new | with_reducible apply Lo.set | with_reducible apply Lo.self1 | with_reducible apply Lo.self2)); done)); done))))); (· exact rfl); (· exact rfl); (· exact rfl))
          | (apply op_at; (· exact opD_eqb rfl rfl rfl rfl))
          | (apply op_at; (· exact opD_neqb rfl rfl rfl rfl))
          | (apply op_at; (· exact rfl))
          | (apply dwp_cond_t; (· exact rfl); (· (first | with_reducible assumption | with_reducible rfl | decide)))
          | (apply dwp_cond_f; (· exact rfl); (· (first | with_reducible assumption | with_reducible rfl | decide)))
          | (refine dwp_cond rfl ?_ ?_ <;> intro hb)
          | apply dwp_block
          | apply dwp_skip
          | apply dwp_ret
          | apply dwp_exit
          | (refine ⟨_, rfl, ?_⟩)
          | fail)
        rw [hz]
theorem row7 (H : DH) (hr : RO H) (hw : WF H) (xs : List DV) (hx : TArgs Try.prog H [23, 23] xs)
    (hwt : ∀ (j : Nat) (t e : TypeId) (p : Option (Nat × Nat × Nat)) (n c : Nat) (ex : Bool), [23, 23][j]? = some t → Try.prog.underlying t = some (.slice e) → xs[j]? = some (.sl p n c ex) → n * Try.prog.bytesOf e ≤ reachBytes) : ∃ k H', callD Try.prog X5 k 7 xs H = some (.bool true, H') := by
  match xs, hx with
  | [a, b], ⟨h1, h2, _⟩ =>
    obtain ⟨p, c, ex, l, rfl, hl, _⟩ := items_in hw h1
    obtain ⟨p', c', ex', m, rfl, hm, _⟩ := items_in hw h2
    have hb : Try.prog.bytesOf 26 = 48 := by kernel_rfl
    have w1 := hwt 0 23 26 p l.length c ex rfl Try.underlying23 rfl
    have w2 := hwt 1 23 26 p' m.length c' ex' rfl Try.underlying23 rfl
    rw [hb] at w1 w2
    unfold reachBytes at w1 w2
    obtain ⟨k, r, H', hk, rfl⟩ := (law7 H p p' c c' ex ex' l m hl hm (by omega)).ex
    exact ⟨k, H', hk⟩
end Go.Det.Q

/- HeapMerges answers true, whatever it is handed; nothing is asked of the arguments but their types. -/
namespace Go.Proofs.Ytpgobchpnjgbdaa.heapMerges
open Go Go.Det Go.Det.Q Go.ChangeShapes Go.WideShapes Go.ChangeAt Go.RowKit
set_option linter.unusedVariables false
set_option linter.unusedSimpArgs false
theorem own : ownKnob Try.prog.godebug = none := by kernel_rfl
theorem laidOut : laidOutB Try.prog = true := by kernel_rfl
set_option maxRecDepth 100000 in
theorem lifted (os : Os) (started : os.Started) (H : Type) (enc : TypeId × Value → H) :
    ReturnsInHanded {} Try.checked os 7 .any (Rows.heapMergesSpec.pre6 enc Try.prog Try.f7 Rows.heapMergesRow.domain false) (Rows.heapMergesSpec.post enc Try.prog Try.f7 false true false false) := by
  exact row_lawW (C := Try.checked) (X := X5) (ts := [23, 23]) (rt := 4) (n := 5) own started (by kernel_rfl) Try.func7
    (ChangeSpec.witness6 (enc := enc) (C := Try.checked) false ⟨#[], #[.slice none 0 0, .slice none 0 0], []⟩ 8 (by kernel_rfl) (by kernel_rfl) (by kernel_rfl) (by kernel_rfl))
    rfl okX5 rfl Try.params7 rfl Try.underlying4 (by kernel_rfl) (by kernel_rfl) laidOut rfl
    (by intro ds h; match ds, h with | [_, _], _ => rfl)
    (fun H xs hr hw hx hwt => row7 H hr hw xs hx hwt)
theorem over : Rows.heapMergesRow.holds Try.pinned (OpenSpec.ofChange Rows.heapMergesSpec) :=
  OpenClaim.holds_of_wide 7 Try.f7 rfl rfl rfl rfl rfl rfl rfl ⟨rfl, rfl, rfl, rfl, rfl⟩ rfl rfl rfl rfl rfl (by kernel_rfl) Try.func7 (by kernel_rfl)
    (of_decide_eq_true (by kernel_rfl)) (by unfold Func.isWrapper; first | (rw [if_pos (by decide +kernel)]; kernel_rfl) | (rw [if_neg (by decide +kernel)]; exact ⟨rfl, rfl⟩))
    (fun os started H enc _ => lifted os started H enc)
theorem proved : Rows.HeapMergesSaid := over
end Go.Proofs.Ytpgobchpnjgbdaa.heapMerges
namespace Go.Proofs.Ytpgobchpnjgbdaa
/-- The row, under a short name, for the claim. -/
theorem heapMerges_holds : Rows.HeapMergesSaid := heapMerges.proved
#print axioms heapMerges_holds
end Go.Proofs.Ytpgobchpnjgbdaa
