/- slices.SortFunc at items: the kit's contract, told in my reading's terms. -/
import Derived.Shelf.SlSortCmp.WholeK
import Derived.Test.YtpgobchpnjgbdaaHTell9
namespace Go.Proofs
open Go.Shelf Go.RowKit Go.Lib Go.Sort
-- what the kit's command 'shelf_lay_g SlLaysF0.n6 Slsf 6 at Try 59' lays, in plain words
def Try.sortItem_ren : Go.Shelf.Ren := ⟨fun | 6 => 59 | 15 => 70 | 14 => 69 | 28 => 85 | 29 => 86 | 20 => 77 | 21 => 78 | 22 => 79 | 23 => 80 | 24 => 81 | 25 => 82 | 26 => 83 | 27 => 84 | 46 => 91 | 47 => 92 | 48 => 93 | 49 => 94 | 50 => 95 | 57 => 96 | n => n, fun | 22 => 23 | 24 => 26 | 25 => 80 | 3 => 3 | 39 => 88 | 0 => 0 | 53 => 104 | 55 => 24 | 4 => 4 | 46 => 98 | 45 => 97 | 50 => 44 | 5 => 5 | 9 => 9 | 66 => 110 | 70 => 114 | 76 => 116 | 77 => 117 | n => n, fun | n => n⟩
theorem Try.sortItem : Go.Proofs.SlLaysF0.n6 Try.prog Try.sortItem_ren where
  mixed := by kernel_rfl
  f6 := ⟨"slices.SortFunc[[]pallet/api.Item,pallet/api.Item]", by decide, Try.func59.trans (congrArg some (by kernel_rfl))⟩
  f14 := ⟨"slices.pdqsortCmpFunc[pallet/api.Item]", by decide, Try.func69.trans (congrArg some (by kernel_rfl))⟩
  f15 := Try.func70.trans (congrArg some (by kernel_rfl))
  f20 := ⟨"slices.insertionSortCmpFunc[pallet/api.Item]", by decide, Try.func77.trans (congrArg some (by kernel_rfl))⟩
  f21 := ⟨"slices.heapSortCmpFunc[pallet/api.Item]", by decide, Try.func78.trans (congrArg some (by kernel_rfl))⟩
  f22 := ⟨"slices.breakPatternsCmpFunc[pallet/api.Item]", by decide, Try.func79.trans (congrArg some (by kernel_rfl))⟩
  f23 := ⟨"slices.choosePivotCmpFunc[pallet/api.Item]", by decide, Try.func80.trans (congrArg some (by kernel_rfl))⟩
  f24 := ⟨"slices.reverseRangeCmpFunc[pallet/api.Item]", by decide, Try.func81.trans (congrArg some (by kernel_rfl))⟩
  f25 := ⟨"slices.partialInsertionSortCmpFunc[pallet/api.Item]", by decide, Try.func82.trans (congrArg some (by kernel_rfl))⟩
  f26 := ⟨"slices.partitionEqualCmpFunc[pallet/api.Item]", by decide, Try.func83.trans (congrArg some (by kernel_rfl))⟩
  f27 := ⟨"slices.partitionCmpFunc[pallet/api.Item]", by decide, Try.func84.trans (congrArg some (by kernel_rfl))⟩
  f28 := Try.func85.trans (congrArg some (by kernel_rfl))
  f29 := Try.func86.trans (congrArg some (by kernel_rfl))
  f46 := ⟨"slices.siftDownCmpFunc[pallet/api.Item]", by decide, Try.func91.trans (congrArg some (by kernel_rfl))⟩
  f47 := Try.func92.trans (congrArg some (by kernel_rfl))
  f48 := Try.func93.trans (congrArg some (by kernel_rfl))
  f49 := ⟨"slices.medianAdjacentCmpFunc[pallet/api.Item]", by decide, Try.func94.trans (congrArg some (by kernel_rfl))⟩
  f50 := ⟨"slices.medianCmpFunc[pallet/api.Item]", by decide, Try.func95.trans (congrArg some (by kernel_rfl))⟩
  f57 := ⟨"slices.order2CmpFunc[pallet/api.Item]", by decide, Try.func96.trans (congrArg some (by kernel_rfl))⟩
  t0 := Try.underlying0
  a0 := Try.isAgg0
  z0 := Try.sizeOf0
  v0 := Try.zeroValue0
  t3 := Try.underlying3
  a3 := Try.isAgg3
  z3 := Try.sizeOf3
  v3 := Try.zeroValue3
  t4 := Try.underlying4
  a4 := Try.isAgg4
  z4 := Try.sizeOf4
  v4 := Try.zeroValue4
  t5 := Try.underlying5
  a5 := Try.isAgg5
  z5 := Try.sizeOf5
  v5 := Try.zeroValue5
  t9 := Try.underlying9
  a9 := Try.isAgg9
  z9 := Try.sizeOf9
  v9 := Try.zeroValue9
  t22 := Try.underlying23
  a22 := Try.isAgg23
  z22 := Try.sizeOf23
  v22 := Try.zeroValue23
  t25 := Try.underlying80
  a25 := Try.isAgg80
  z25 := Try.sizeOf80
  v25 := Try.zeroValue80
  t39 := Try.underlying88
  a39 := Try.isAgg88
  z39 := Try.sizeOf88
  v39 := Try.zeroValue88
  t45 := Try.underlying97
  a45 := Try.isAgg97
  z45 := Try.sizeOf97
  v45 := Try.zeroValue97
  t46 := Try.underlying98
  a46 := Try.isAgg98
  z46 := Try.sizeOf98
  v46 := Try.zeroValue98
  t50 := Try.underlying44
  a50 := Try.isAgg44
  z50 := Try.sizeOf44
  v50 := Try.zeroValue44
  t53 := Try.underlying104
  a53 := Try.isAgg104
  z53 := Try.sizeOf104
  v53 := Try.zeroValue104
  t55 := Try.underlying24
  a55 := Try.isAgg24
  z55 := Try.sizeOf24
  v55 := Try.zeroValue24
  t66 := Try.underlying110
  a66 := Try.isAgg110
  z66 := Try.sizeOf110
  v66 := Try.zeroValue110
  t70 := Try.underlying114
  a70 := Try.isAgg114
  z70 := Try.sizeOf114
  v70 := Try.zeroValue114
  t76 := Try.underlying116
  a76 := Try.isAgg116
  z76 := Try.sizeOf116
  v76 := Try.zeroValue116
  t77 := Try.underlying117
  a77 := Try.isAgg117
  z77 := Try.sizeOf117
  v77 := Try.zeroValue117
end Go.Proofs
namespace Go.Det.Q
open Go Go.Det Go.Proofs Go.RowKit Go.Sort
set_option maxRecDepth 4000
set_option maxHeartbeats 4000000
set_option linter.unusedVariables false
set_option linter.unusedSimpArgs false
instance : Inhabited Item := ⟨⟨0, 0, 0, 0, 0, 0⟩⟩
def encI (x : Item) : List Value := [.int .i64 x.a, .int .i64 x.c, .int .u64 x.s, .int .i64 x.w, .int .i64 x.h, .int .u64 x.n]
theorem encI_rel (ρ : Rho) (x : Item) : VRs ρ x.cells (encI x) := by
  simp [Item.cells, encI, VRs, VR]
theorem enc_at (x : Item) {r : Nat} (hr : r < 6) : ∃ d, x.cells[r]? = some d ∧ d.one = true ∧ ∀ ρ c, VR ρ d c ↔ c = (encI x)[r]! := by
  match r, hr with
  | 0, _ => exact ⟨_, rfl, rfl, fun ρ c => by simp [VR, encI]⟩
  | 1, _ => exact ⟨_, rfl, rfl, fun ρ c => by simp [VR, encI]⟩
  | 2, _ => exact ⟨_, rfl, rfl, fun ρ c => by simp [VR, encI]⟩
  | 3, _ => exact ⟨_, rfl, rfl, fun ρ c => by simp [VR, encI]⟩
  | 4, _ => exact ⟨_, rfl, rfl, fun ρ c => by simp [VR, encI]⟩
  | 5, _ => exact ⟨_, rfl, rfl, fun ρ c => by simp [VR, encI]⟩
/-- Nothing of what there was has changed: the world has grown, and has drawn. -/
theorem grow_of {ρ ρ' : Rho} {H' : DH} {W w' : World} (m : Moves ρ H0 W ρ' H' w') : ∃ q os', w' = grow (W.drewN q) os' := by
  refine ⟨w'.drawn - W.drawn, w'.heap.extract W.heap.size w'.heap.size, ?_⟩
  have h1 := m.os
  have h2 := m.tape
  have h3 := m.output
  have h4 := m.drawn
  have h5 := m.size
  have h6 : ∀ b, b < W.heap.size → w'.heap[b]? = W.heap[b]? := fun b hb => m.same b hb fun ⟨l, o, pl, ho, _⟩ => by cases ho
  cases w' with
  | mk heap tape drawn os output =>
    cases W with
    | mk heap0 tape0 drawn0 os0 output0 =>
      simp only at h1 h2 h3 h4 h5 h6
      subst h1 h2 h3
      simp only [grow, World.drewN, World.mk.injEq, and_true, true_and]
      refine ⟨?_, by omega⟩
      apply Array.ext_getElem?
      intro k
      rw [Array.getElem?_append]
      split
      · rename_i hk; exact h6 k hk
      · rename_i hk
        rw [Array.getElem?_extract]
        split
        · congr 1; omega
        · rename_i h; rw [Array.getElem?_eq_none]; omega
theorem cmp_lays (x y : Item) (W : World) : Calls Try.prog 60 #[.agg (encI x).toArray, .agg (encI y).toArray] W fun e w' => e = .returned (.int .i64 (icmp x y)) ∧ ∃ q os', w' = grow (W.drewN q) os' := by
  obtain ⟨k, r, H1, hk, rfl⟩ := (cmp60 x y).ex
  refine (calls_sound okX1 Try.func60 rfl rfl hk (empty_agree (W := W)) (vs := #[.agg (encI x).toArray, .agg (encI y).toArray]) ?_).mono fun e w' he => ?_
  · refine .cons ?_ (.one ?_)
    · simp only [VR]; exact ⟨rfl, _, rfl, encI_rel _ x⟩
    · simp only [VR]; exact ⟨rfl, _, rfl, encI_rel _ y⟩
  · cases e with
    | returned v =>
      obtain ⟨ρ', h1, h2⟩ := he
      simp only [VR] at h1
      subst h1
      exact ⟨rfl, grow_of h2⟩
    | panicked ch => exact he.elim
    | outgrown => exact he.elim
theorem swo_icmp : Go.Sort.SWO (Go.Proofs.ltOf icmp) where
  irrefl := ilt_irrefl
  trans := fun x y z h k => ilt_trans (x := x) (y := y) (z := z) h k
  ntrans := fun x y z h k => by
    have h' : ilt x y = false := h
    have k' : ilt y z = false := k
    show ilt x z = false
    cases e : ilt x z with
    | false => rfl
    | true =>
      exfalso
      cases e2 : ilt y x with
      | false => rw [ilt_total h' e2] at e; rw [e] at k'; cases k'
      | true => rw [ilt_trans e2 e] at k'; cases k'
theorem moves_grow {ρ : Rho} {H : DH} {w : World} (ha : Agree ρ H w) (m : Nat) (os : Array Obj) : Moves ρ H w ρ H (grow (Go.Sort.ahead w m) os) where
  le := Rho.le_refl _
  agree := ⟨ha.low, fun l pl h => Nat.lt_of_lt_of_le (ha.lies l pl h) (by simp [grow, Go.Sort.ahead]), fun l o h => by
    obtain ⟨pl, hp, ho⟩ := ha.obj l o h
    refine ⟨pl, hp, ?_⟩
    have : (grow (Go.Sort.ahead w m) os).heap[pl.block]? = w.heap[pl.block]? := by
      show (w.heap ++ os)[pl.block]? = _
      rw [Array.getElem?_append_left (ha.lies l pl hp)]
    rw [this]; exact ho, ha.apart⟩
  os := rfl
  tape := rfl
  output := rfl
  drawn := Nat.le_add_right _ _
  size := by simp [grow, Go.Sort.ahead]
  same := fun b hb _ => by
    show (w.heap ++ os)[b]? = _
    rw [Array.getElem?_append_left hb]
  own := fun b hb => .inl hb
  fresh := fun _ _ h => .inl h
/-- What is there, as the kit tells it. -/
theorem holds_items {ρ : Rho} {pl : Pl} {w : World} {rs : List (List DV)} {l : List Item} {i : Nat} (hb : pl.block < w.heap.size) (ho : ObjR ρ pl w.heap[pl.block]? (.rows false 6 rs)) (hl : (rs.drop i).take l.length = l.map Item.cells) (hi : i + l.length ≤ pl.tot) :
    HoldsK encI 6 w pl.block (pl.off + i * 6) l.toArray := by
  obtain ⟨hz, hlen, hrows, hloose⟩ := ho
  obtain ⟨cs, t, lo, hi', hbk, hsz, hfr⟩ := hloose rfl
  intro j hj
  rw [size_flatK, List.size_toArray] at hj
  have hq : j / 6 < l.length := by omega
  have hr : j % 6 < 6 := Nat.mod_lt _ (by omega)
  have hrow : rs[i + j / 6]? = some (l[j / 6]).cells := by
    have h := congrArg (fun z => z[j / 6]?) hl
    simp only [List.getElem?_take, List.getElem?_drop, List.getElem?_map] at h
    rw [if_pos hq, List.getElem?_eq_getElem hq] at h
    exact h
  obtain ⟨d, hd, _, hv⟩ := enc_at (l[j / 6]) hr
  obtain ⟨_, c, hc, hvr⟩ := (hrows _ _ hrow).2 _ _ hd
  have e : pl.off + (i + j / 6) * 6 + j % 6 = pl.off + i * 6 + j := by omega
  rw [e] at hc
  refine ⟨?_, ?_⟩
  · rw [cell?_eq, hc, get_flatK _ _ _ _ (by rw [List.size_toArray]; exact hj), (hv ρ c).mp hvr]
    simp only [id, Option.some.injEq]
    rw [getElem!_pos l.toArray (j / 6) (by rw [List.size_toArray]; exact hq)]
    rfl
  · simp only [World.frozen?, hbk]
    have := hfr (pl.off + i * 6 + j) (by rw [hz] at *; omega)
    simp only [Bool.and_eq_false_iff, decide_eq_false_iff_not]
    omega
theorem put_items {ρ : Rho} {pl : Pl} {w : World} {rs : List (List DV)} {l m : List Item} {i : Nat} (hb : pl.block < w.heap.size) (ho : ObjR ρ pl w.heap[pl.block]? (.rows false 6 rs)) (hl : (rs.drop i).take l.length = l.map Item.cells) (hi : i + l.length ≤ pl.tot) (hm : m.length = l.length) (h0 : 0 < l.length) :
    ObjR ρ pl (putRowK encI 6 w pl.block (pl.off + i * 6) m.toArray).heap[pl.block]? (.rows false 6 (rs.take i ++ m.map Item.cells ++ rs.drop (i + l.length))) := by
  have hH := holds_items hb ho hl hi
  obtain ⟨hz, hlen, hrows, hloose⟩ := ho
  have hil : i + l.length ≤ rs.length := by
    have h := congrArg List.length hl
    simp only [List.length_take, List.length_drop, List.length_map] at h
    omega
  have hml : (rs.take i ++ m.map Item.cells).length = i + l.length := by simp; omega
  refine ⟨hz, by simp; omega, fun q r hr => ?_, fun _ => ?_⟩
  · have cellEq : ∀ o, cellAt (putRowK encI 6 w pl.block (pl.off + i * 6) m.toArray).heap[pl.block]? o = (putRowK encI 6 w pl.block (pl.off + i * 6) m.toArray).cell? ⟨pl.block, o, none⟩ := fun o => (cell?_eq _ _ _).symm
    have cellEq0 : ∀ o, cellAt w.heap[pl.block]? o = w.cell? ⟨pl.block, o, none⟩ := fun o => (cell?_eq _ _ _).symm
    by_cases h1 : q < i
    · rw [List.append_assoc, List.getElem?_append_left (by simp; omega), List.getElem?_take, if_pos h1] at hr
      refine ⟨(hrows _ _ hr).1, fun j d hd => ?_⟩
      obtain ⟨hone, c, hc, hvr⟩ := (hrows _ _ hr).2 _ _ hd
      have hj : j < 6 := by have := (List.getElem?_eq_some_iff.mp hd).1; rw [(hrows _ _ hr).1] at this; exact this
      refine ⟨hone, c, ?_, hvr⟩
      rw [cellEq, putRowK, cell?_putRow_other _ _ _ _ _ _ (.inr (.inl (by simp only; omega))), ← cellEq0]
      exact hc
    · by_cases h2 : q < i + l.length
      · rw [List.getElem?_append_left (by rw [hml]; omega), List.getElem?_append_right (by simp; omega)] at hr
        have hq2 : q - (rs.take i).length = q - i := by rw [List.length_take]; omega
        rw [hq2, List.getElem?_map, List.getElem?_eq_getElem (by omega)] at hr
        cases hr
        refine ⟨rfl, fun j d hd => ?_⟩
        have hj : j < 6 := (List.getElem?_eq_some_iff.mp hd).1
        obtain ⟨d', hd', hone, hv⟩ := enc_at (m[q - i]'(by omega)) hj
        rw [hd] at hd'; cases hd'
        refine ⟨hone, _, ?_, (hv ρ _).mpr rfl⟩
        have hjj : (q - i) * 6 + j < m.toArray.size * 6 := by rw [List.size_toArray]; omega
        have e1 : pl.off + q * 6 + j = pl.off + i * 6 + ((q - i) * 6 + j) := by omega
        rw [cellEq, e1, putRowK, cell?_putRow id w _ _ (flatK encI 6 l.toArray) _ hH (by simp [hm]) _ (by rw [size_flatK]; exact hjj), get_flatK _ _ _ _ hjj]
        have e2 : ((q - i) * 6 + j) / 6 = q - i := by omega
        have e3 : ((q - i) * 6 + j) % 6 = j := by omega
        rw [e2, e3, getElem!_pos m.toArray (q - i) (by rw [List.size_toArray]; omega)]
        rfl
      · rw [List.getElem?_append_right (by rw [hml]; omega), hml, List.getElem?_drop] at hr
        have e : i + l.length + (q - (i + l.length)) = q := by omega
        rw [e] at hr
        refine ⟨(hrows _ _ hr).1, fun j d hd => ?_⟩
        obtain ⟨hone, c, hc, hvr⟩ := (hrows _ _ hr).2 _ _ hd
        refine ⟨hone, c, ?_, hvr⟩
        rw [cellEq, putRowK, cell?_putRow_other _ _ _ _ _ _ (.inr (.inr (by simp only [size_flatK, List.size_toArray]; omega))), ← cellEq0]
        exact hc
  · obtain ⟨cs, t, lo, hi', hbk, hsz, hfr⟩ := hloose rfl
    refine ⟨putCells id (pl.off + i * 6) (flatK encI 6 m.toArray) cs, t, lo, hi', ?_, by simpa [putCells] using hsz, hfr⟩
    simp only [putRowK, putRow, mapBlock, Array.getElem?_modify, if_pos, hbk, Option.map_some]
    rfl
theorem one_put {w : World} {b o : Nat} {d : Array Item} : OneBlock w (putRowK encI 6 w b o d) b where
  os := rfl
  tape := rfl
  output := rfl
  drawn := rfl
  size := by simp [putRowK]
  same := fun k hk => by simp only [putRowK, putRow, mapBlock, Array.getElem?_modify, if_neg (fun e => hk (Eq.symm e))]
theorem pairwise_of {l : List Item} (h : ∀ i j, i < j → j < l.length → ilt l[j]! l[i]! = false) : Sorted l := by
  unfold Sorted
  rw [List.pairwise_iff_getElem]
  intro i j hi hj hij
  have := h i j hij hj
  rw [getElem!_pos l j hj, getElem!_pos l i hi] at this
  exact this
theorem sort_some {H : DH} {loc i n c : Nat} {ex : Bool} {rs : List (List DV)} {l : List Item} (ho : H.obj loc = some (.rows false 6 rs)) (hl : (rs.drop i).take l.length = l.map Item.cells) (hn : l.length = n) (h0 : 0 < n) (hm : n ≤ 1000000)
    {ρ : Rho} {w : World} (ha : Agree ρ H w) {v : Value} (hv : VR ρ (.sl (some (loc, i, 6)) n c ex) v) :
    Calls Try.prog 59 #[v, .func (.func 60) #[] #[]] w fun e w' => e = .returned (.tuple #[]) ∧ Moves ρ H w ρ (H.set loc (some (.rows false 6 (rs.take i ++ (sortL l).map Item.cells ++ rs.drop (i + n))))) w' := by
  simp only [VR] at hv
  obtain ⟨pl, a, c', hp, hz, rfl, h1, h2, h3, h4, h5⟩ := hv
  obtain ⟨pl', hp', ho'⟩ := ha.obj loc _ ho
  rw [hp] at hp'; cases hp'
  have hb := ha.lies _ _ hp
  obtain rfl := h5.resolve_left (by omega)
  have e : pl.addr i 0 = ⟨pl.block, pl.off + i * 6, none⟩ := by unfold Pl.addr; rw [hz]; rfl
  rw [e]
  subst hn
  have hH := holds_items hb ho' hl (by omega)
  have eg : ∀ args w, (callFunc 60 args).run Try.prog w = .ok (.enter 60 args) w := enters_of Try.func60 (by kernel_rfl) rfl
  have hcmp : CmpLays Try.prog 60 #[] encI 6 icmp pl.block (pl.off + i * 6) l.toArray.size w := fun _ _ _ _ x y => cmp_lays x y _
  have hcon := AnyQ.slices_SortFunc Try.sortItem 6 Try.isAgg26 Try.sizeOf26 encI (fun _ => rfl) (fun x v hv => by simp [encI] at hv; rcases hv with rfl | rfl | rfl | rfl | rfl | rfl <;> rfl) icmp swo_icmp 60 #[] pl.block (pl.off + i * 6) c' l.toArray w eg hcmp hH hb (by rw [List.size_toArray]; omega)
  change Calls Try.prog 59 _ _ _ at hcon
  refine hcon.mono ?_
  rintro e w' ⟨rfl, d', m, os, hpm, hst, rfl⟩
  refine ⟨rfl, ?_⟩
  obtain ⟨hsz, _, hperm⟩ := hpm
  have hd : d'.toList = sortL l := by
    symm
    refine sortL_of_perm ?_ (pairwise_of fun i j hij hj => ?_)
    · rw [Array.extract_eq_self_of_le (by omega), Array.extract_eq_self_of_le (by omega)] at hperm
      exact hperm.symm
    · have hj' : j < d'.size := by simpa using hj
      have := hst i j (Nat.zero_le _) hij (by omega)
      rw [getElem!_pos d'.toList j hj, getElem!_pos d'.toList i (by omega), Array.getElem_toList, Array.getElem_toList, ← getElem!_pos d' j hj', ← getElem!_pos d' i (by omega)]
      exact this
  have hd' : d' = (sortL l).toArray := by rw [← hd]
  rw [hd']
  have hput := put_items (m := sortL l) hb ho' hl (by omega) ((sortL_perm l).length_eq) h0
  have hm1 := moves_set ha ho rfl rfl hp (one_put (d := (sortL l).toArray) (o := pl.off + i * 6)) hput
  exact hm1.trans (moves_grow hm1.agree m os)
end Go.Det.Q

/- What pushes, pops and takes come to, in one form. -/
namespace Go.Det.Q
open Go Go.Det Go.Proofs
set_option maxRecDepth 4000
set_option maxHeartbeats 4000000
set_option linter.unusedVariables false
set_option linter.unusedSimpArgs false
section
variable {H : DH} {s : DV} {l : List Item}
theorem sorted_c (h : Its H s l) (hn : l.length ≤ 1000000) : CallWp Try.prog X4 22 [s] H (fun r H' => Above H H' ∧ ItsF H H' r (sortL l)) := by
  obtain ⟨p, c, ex, rfl, hl⟩ := h
  exact sorted22 H p c ex l hl hn
theorem check_t (h : Its H s l) : gCheck [s] H = some (.bool (checkB l), H) := by
  obtain ⟨p, c, ex, rfl, hl⟩ := h
  exact hl.check
theorem same_t {t : DV} {m : List Item} (h : Its H s l) (k : Its H t m) : gSame [s, t] H = some (.bool (decide (l = m)), H) := by
  obtain ⟨p, c, ex, rfl, hl⟩ := h
  obtain ⟨p', c', ex', rfl, hm⟩ := k
  exact hl.same hm
end
/-! ### what the laws ask -/
end Go.Det.Q

/- More tables: what is told by fewer is told by more. -/
namespace Go.Det
section
variable {P : Program}
/-- One set of tables tells no less than another. -/
def ExtLe (X X' : Ext) : Prop := ∀ f, (X f = none → X' f = none) ∧ ∀ g, X f = some g → ∃ g', X' f = some g' ∧ ∀ a H r, g a H = some r → g' a H = some r
theorem callD_ext {X X' : Ext} (hx : ExtLe X X') : ∀ (k : Nat), CFle (callD P X k) (callD P X' k) := by
  intro k
  induction k with
  | zero => intro f a H r e; simp [callD] at e
  | succ k ih =>
    intro f a H r e
    simp only [callD] at e ⊢
    cases hg : X f with
    | some g =>
      obtain ⟨g', hg', hle⟩ := (hx f).2 g hg
      rw [hg] at e
      rw [hg']
      exact hle _ _ _ e
    | none =>
      rw [hg] at e
      rw [(hx f).1 hg]
      simp only at e ⊢
      split
      · rename_i fn hf
        rw [hf] at e
        simp only at e
        split
        · rename_i c hc
          rw [hc] at e
          simp only at e
          split at e
          · rename_i st he
            rw [execD_mono ih _ _ (Nat.le_refl _) _ _ _ he]
            exact e
          · rename_i st he
            rw [execD_mono ih _ _ (Nat.le_refl _) _ _ _ he]
            exact e
          · cases e
        · rename_i hc; rw [hc] at e; cases e
      · rename_i hf; rw [hf] at e; cases e
theorem CallWp.up {X X' : Ext} (hx : ExtLe X X') {f : FuncId} {a : List DV} {H : DH} {K : DV → DH → Prop} (h : CallWp P X f a H K) : CallWp P X' f a H K := by
  obtain ⟨k, r, H', hk, hr⟩ := h.ex
  exact ⟨k, r, H', callD_ext hx k _ _ _ _ hk, hr⟩
/-- One table more, for a function that had none and no text. -/
theorem extLe_one {L : List FuncId} {E : List (FuncId × (List DV → DH → Option (DV × DH)))} {f0 : FuncId} {g0 : List DV → DH → Option (DV × DH)} (h0 : Xof L E f0 = some fun _ _ => none) : ExtLe (Xof L E) (Xof L ((f0, g0) :: E)) := by
  intro f
  by_cases e : f = f0
  · subst e
    refine ⟨fun h => by (rw [h0] at h; cases h), fun g h => ⟨g0, by unfold Xof; simp [List.lookup], ?_⟩⟩
    rw [h0] at h
    cases h
    intro a H r h
    cases h
  · have e2 : Xof L ((f0, g0) :: E) f = Xof L E f := by
      unfold Xof
      have : (f == f0) = false := by simpa using e
      simp only [List.lookup, this]
    rw [e2]
    exact ⟨id, fun g h => ⟨g, h, fun _ _ _ k => k⟩⟩
end
end Go.Det

/- slices.SortFunc at items as a table; heap.Sorted. -/
namespace Go.Det.Q
open Go Go.Det Go.Proofs
set_option maxRecDepth 4000
set_option maxHeartbeats 4000000
set_option linter.unusedVariables false
set_option linter.unusedSimpArgs false
def gSort : G := fun args H => match args with
  | [.sl p n c ex, .func (.func 60) [] []] => if n = 0 then some (.tuple [], H) else match p with
    | some (loc, i, z) => match H.obj loc with
      | some (.rows false sz rs) => if sz = 6 ∧ z = 6 ∧ n ≤ 1000000 ∧ i + n ≤ rs.length then (match itemsL ((rs.drop i).take n) with
          | some l => some (.tuple [], H.set loc (some (.rows false 6 (rs.take i ++ (sortL l).map Item.cells ++ rs.drop (i + n)))))
          | none => none) else none
      | _ => none
    | none => none
  | _ => none
def XS : Ext := Xof (59 :: L) []
theorem okXS : ProgOk Try.prog XS := progOk_of2 mixed (by kernel_rfl) push_code (by simp)
theorem sort_none (p : Option (Nat × Nat × Nat)) (c : Nat) (ex : Bool) (H : DH) : callD Try.prog XS 100 59 [.sl p 0 c ex, .func (.func 60) [] []] H = some (.tuple [], H) := by kernel_rfl
theorem ok59 : ExtSound Try.prog gSort 59 := by
  intro args H r H' h ρ w vs ha hv
  unfold gSort at h
  split at h
  · rename_i p n c ex
    have hv' := hv
    simp only [VRs] at hv
    obtain ⟨v, r1, e1, h1, u, r2, e2, h2, e3⟩ := hv
    subst e2 e3
    have hvs : vs = #[v, u] := by rw [← Array.toArray_toList (xs := vs), e1]
    simp only [VR, VRs] at h2
    obtain ⟨a, b, rfl, ha', hb'⟩ := h2
    obtain rfl : a = #[] := by cases a; simp at ha'; rw [ha']
    obtain rfl : b = #[] := by cases b; simp at hb'; rw [hb']
    subst hvs
    split at h
    · rename_i h0
      subst h0
      cases h
      refine callOk_of_calls Try.func59 (by kernel_rfl) rfl ((calls_sound okXS Try.func59 rfl rfl (sort_none p c ex H) ha hv').mono fun e w' he => ?_)
      cases e <;> exact he
    · rename_i h0
      split at h
      · rename_i loc i z
        split at h
        · rename_i sz rs ho
          split at h
          · rename_i hc
            obtain ⟨rfl, rfl, hm, hlen⟩ := hc
            split at h
            · rename_i l hl
              cases h
              have hl' := map_itemsL hl
              have hn : l.length = n := by
                have := congrArg List.length hl'
                simp only [List.length_take, List.length_drop, List.length_map] at this
                omega
              refine callOk_of_calls Try.func59 (by kernel_rfl) rfl ((sort_some (H := H) ho (by rw [hn]; exact hl') hn (by omega) hm ha h1).mono fun e w' he => ?_)
              obtain ⟨rfl, hmv⟩ := he
              exact ⟨ρ, by simp [VR, VRs], hmv⟩
            · cases h
          · cases h
        · cases h
      · cases h
  · cases h
def X5 : Ext := Xof L ((59, gSort) :: E4)
theorem okX5 : ProgOk Try.prog X5 := progOk_of2 mixed okL push_code (by
  intro f g h
  rw [List.mem_cons] at h
  rcases h with h | h
  · cases h; exact ok59
  · exact okE4 f g h)
theorem up5 : ExtLe X4 X5 := extLe_one rfl
theorem sort59 {A H : DH} {r : DV} {l : List Item} {K : DV → DH → Prop} (ha : Above A H) (hm : Mine A H 6 (l.map Item.cells) r) (hn : l.length ≤ 1000000)
    (hk : ∀ H', Above A H' → Mine A H' 6 ((sortL l).map Item.cells) r → K (.tuple []) H') : CallWp Try.prog X5 59 [r, .func (.func 60) [] []] H K := by
  have hsl := (sortL_perm l).length_eq
  generalize hR : l.map Item.cells = R at hm
  have hRl : R.length = l.length := by rw [← hR, List.length_map]
  cases hm with
  | nil h =>
    obtain rfl : l = [] := by cases l with | nil => rfl | cons x l => rw [h] at hR; cases hR
    exact call_table (g := gSort) rfl (r := .tuple []) (H' := H) (by simp [gSort]) (hk H ha (.nil rfl))
  | empty h h1 h2 h3 =>
    obtain rfl : l = [] := by cases l with | nil => rfl | cons x l => rw [h] at hR; cases hR
    exact call_table (g := gSort) rfl (r := .tuple []) (H' := H) (by simp [gSort]) (hk H ha (.empty rfl h1 h2 h3))
  | «at» h1 h2 h3 =>
    rename_i loc ex
    by_cases h0 : R.length = 0
    · obtain rfl : l = [] := List.length_eq_zero_iff.mp (by omega)
      have e0 : R = [] := List.length_eq_zero_iff.mp h0
      subst e0
      exact call_table (g := gSort) rfl (r := .tuple []) (H' := H) (by simp [gSort]) (hk H ha (.at h1 h2 h3))
    · refine call_table (g := gSort) rfl (r := .tuple []) (H' := H.set loc (some (.rows false 6 ((sortL l).map Item.cells)))) ?_ (hk _ (ha.set h1 _) ?_)
      · subst hR
        simp only [gSort]
        rw [if_neg h0]
        simp only [h3]
        rw [if_pos ⟨trivial, trivial, by omega, by simp⟩]
        simp only [List.drop_zero, List.take_of_length_le (Nat.le_refl _), itemsL_map, List.take_zero, List.nil_append, Nat.zero_add, List.drop_length, List.append_nil]
      · have e : R.length = ((sortL l).map Item.cells).length := by rw [List.length_map]; omega
        rw [e]
        exact .at h1 h2 obj_set
theorem sorted30 (H : DH) (s : DV) (l : List Item) (hl : Its H s l) (hn : l.length ≤ 1000000) : CallWp Try.prog X5 30 [s] H (fun r H' => Above H H' ∧ ItsF H H' r (sortL l)) := by
  obtain ⟨p, c, ex, rfl, hl⟩ := hl
  refine enter rfl Try.func30 rfl Try.ntmps30 rfl ?_
  dsimp only [List.cons_append, List.nil_append, List.length_cons, List.length_nil, List.replicate_succ, List.replicate_zero, Nat.reduceAdd, Nat.reduceSub]
  repeat' (first
    | dsimp only [putD, DV.cells, DH.new_next, DH.set_next, List.length_cons, List.length_nil, Nat.reduceAdd, List.set_cons_zero, List.set_cons_succ, getD_zero, getD_succ, fieldAt_zero, fieldAt_succ, thenD, blockD, retR]
    | apply dwp_seq
    | apply dwp_region
    | apply ops_nil
    | (apply ops_plain; (· exact rfl))
    | (apply ops_on; (· exact rfl); (· exact rfl); (· (first | with_reducible assumption | with_reducible rfl | decide)))
    | (apply ops_off1; (· exact rfl); (· exact rfl); (· (first | with_reducible assumption | with_reducible rfl | decide)))
    | (apply ops_off0; (· exact rfl); (· exact rfl); (· (first | with_reducible assumption | with_reducible rfl | decide)))
    | (apply ops_offn; (· exact rfl); (· exact rfl))
    | (apply ops_split1; (· exact rfl); (· exact rfl); all_goals intro hb)
    | (apply ops_split0; (· exact rfl); (· exact rfl); all_goals intro hb)
    | (apply op_call; (· exact rfl); (· exact rfl); (· exact rfl); refine (CallWp.up up5 (clone54 _ p c ex l hl hn)).mono ?_; rintro r H1 ⟨ab1, hm1, hf1⟩)
    | (apply op_call; (· exact rfl); (· exact rfl); (· exact rfl); refine sort59 ab1 hm1 (by omega) ?_; intro H2 ab2 hm2)
    | (apply op_pick_t; (· exact rfl); (· exact rfl); (· (first | with_reducible assumption | with_reducible rfl | decide)); (· exact rfl))
    | (apply op_pick_f; (· exact rfl); (· exact rfl); (· (first | with_reducible assumption | with_reducible rfl | decide)); (· exact rfl))
    | (apply op_load_at; (· exact rfl); (· exact rfl); (· repeat (first | with_reducible assumption | (with_reducible apply obj_here; with_reducible rfl) | with_reducible apply obj_set | (with_reducible apply obj_skip_lo; (· ((repeat (first | with_reducible assumption | with_reducible apply Lo.self | with_reducible apply Lo.new | with_reducible apply Lo.set | with_reducible apply Lo.self1 | with_reducible apply Lo.self2)); done))) | (with_reducible apply obj_past; (· ((first | with_reducible assumption | with_reducible apply ne_add1 | with_reducible apply ne_add1' | with_reducible apply ne_add2 | with_reducible apply ne_add2' | with_reducible apply ne_add12 | with_reducible apply ne_add21 | (with_reducible apply Lo.ne; (repeat (first | with_reducible assumption | with_reducible apply Lo.self | with_reducible apply Lo.new | with_reducible apply Lo.set | with_reducible apply Lo.self1 | with_reducible apply Lo.self2)); done) | (with_reducible apply Lo.ne1; (repeat (first | with_reducible assumption | with_reducible apply Lo.self | with_reducible apply Lo.new | with_reducible apply Lo.set | with_reducible apply Lo.self1 | with_reducible apply Lo.self2)); done) | (with_reducible apply Lo.ne'; (repeat (first | with_reducible assumption | with_reducible apply Lo.self | with_reducible apply Lo.new | with_reducible apply Lo.set | with_reducible apply Lo.self1 | with_reducible apply Lo.self2)); done) | (with_reducible apply Lo.ne1'; (repeat (first | with_reducible assumption | with_reducible apply Lo.self | with_reducible apply Lo.new | with_reducible apply Lo.set | with_reducible apply Lo.self1 | with_reducible apply Lo.self2)); done)); done))))); (· exact rfl); (· exact rfl))
    | (apply op_store_at; (· exact rfl); (· exact rfl); (· exact rfl); (· repeat (first | with_reducible assumption | (with_reducible apply obj_here; with_reducible rfl) | with_reducible apply obj_set | (with_reducible apply obj_skip_lo; (· ((repeat (first | with_reducible assumption | with_reducible apply Lo.self | with_reducible apply Lo.new | with_reducible apply Lo.set | with_reducible apply Lo.self1 | with_reducible apply Lo.self2)); done))) | (with_reducible apply obj_past; (· ((first | with_reducible assumption | with_reducible apply ne_add1 | with_reducible apply ne_add1' | with_reducible apply ne_add2 | with_reducible apply ne_add2' | with_reducible apply ne_add12 | with_reducible apply ne_add21 | (with_reducible apply Lo.ne; (repeat (first | with_reducible assumption | with_reducible apply Lo.self | with_reducible apply Lo.new | with_reducible apply Lo.set | with_reducible apply Lo.self1 | with_reducible apply Lo.self2)); done) | (with_reducible apply Lo.ne1; (repeat (first | with_reducible assumption | with_reducible apply Lo.self | with_reducible apply Lo.new | with_reducible apply Lo.set | with_reducible apply Lo.self1 | with_reducible apply Lo.self2)); done) | (with_reducible apply Lo.ne'; (repeat (first | with_reducible assumption | with_reducible apply Lo.self | with_reducible apply Lo.new | with_reducible apply Lo.set | with_reducible apply Lo.self1 | with_reducible apply Lo.self2)); done) | (with_reducible apply Lo.ne1'; (repeat (first | with_reducible assumption | with_reducible apply Lo.self | with_reducible apply Lo.new | with_reducible apply Lo.set | with_reducible apply Lo.self1 | with_reducible apply Lo.self2)); done)); done))))); (· exact rfl); (· exact rfl); (· exact rfl))
    | (apply op_at; (· exact opD_eqb rfl rfl rfl rfl))
    | (apply op_at; (· exact opD_neqb rfl rfl rfl rfl))
    | (apply op_at; (· exact rfl))
    | (apply dwp_cond_t; (· exact rfl); (· (first | with_reducible assumption | with_reducible rfl | decide)))
    | (apply dwp_cond_f; (· exact rfl); (· (first | with_reducible assumption | with_reducible rfl | decide)))
    | (refine dwp_cond rfl ?_ ?_ <;> intro hb)
    | apply dwp_block
    | apply dwp_skip
    | apply dwp_ret
    | apply dwp_exit
    | (refine ⟨_, rfl, ?_⟩)
    | fail)
  refine ⟨ab2, ?_⟩
  obtain ⟨p2, c2, ex2, rfl, hi⟩ := it_of_mine hm2 (by have := (sortL_perm l).length_eq; unfold maxLen; omega)
  exact ⟨p2, c2, ex2, rfl, hi, fun loc i z e => hf1 loc ⟨i, z, _, _, _, by rw [e]⟩⟩
end Go.Det.Q

/- heap.Find: the first thing of a number. -/
namespace Go.Det.Q
open Go Go.Det Go.Proofs
set_option maxRecDepth 4000
set_option maxHeartbeats 4000000
set_option linter.unusedVariables false
set_option linter.unusedSimpArgs false
theorem find_at {pf : Item → Bool} {l : List Item} {k : Nat} {a : Item} (ha : l[k]? = some a) (hb : pf a = true) (hbefore : ∀ (j : Nat) (b : Item), j < k → l[j]? = some b → pf b = false) : l.findIdx? pf = some k := by
  obtain ⟨hk, rfl⟩ := List.getElem?_eq_some_iff.mp ha
  rw [List.findIdx?_eq_some_iff_getElem]
  exact ⟨hk, hb, fun j hj => by rw [hbefore j _ hj (List.getElem?_eq_getElem (by omega))]; simp⟩
theorem find_none {pf : Item → Bool} {l : List Item} (h : ∀ (j : Nat) (b : Item), l[j]? = some b → pf b = false) : l.findIdx? pf = none := by
  rw [List.findIdx?_eq_none_iff]
  intro a ha
  obtain ⟨j, hj, rfl⟩ := List.getElem_of_mem ha
  exact h j _ (List.getElem?_eq_getElem hj)
def idxI (pf : Item → Bool) (l : List Item) : Int := match l.findIdx? pf with | some k => (k : Int) | none => -1
theorem index61 {X : Ext} (hx : X 61 = none) {F : FuncId} {cap : List DV} {pf : Item → Bool} (H : DH) (hF : ∀ (a : Item) (H' : DH), Above H H' → CallWp Try.prog X F (.agg a.cells :: cap) H' (fun r H'' => r = .bool (pf a) ∧ Above H' H''))
    (q : Option (Nat × Nat × Nat)) (c : Nat) (ex : Bool) (l : List Item) (hl : It H q c ex l) :
    CallWp Try.prog X 61 [.sl q l.length c ex, .func (.func F) [] cap] H (fun r H' => r = .int .i64 (idxI pf l) ∧ Above H H') := by
  refine enter hx Try.func61 rfl Try.ntmps61 rfl ?_
  dsimp only [List.cons_append, List.nil_append, List.length_cons, List.length_nil, List.replicate_succ, List.replicate_zero, Nat.reduceAdd, Nat.reduceSub]
  repeat' (first
    | dsimp only [putD, DV.cells, DH.new_next, DH.set_next, List.length_cons, List.length_nil, Nat.reduceAdd, List.set_cons_zero, List.set_cons_succ, getD_zero, getD_succ, fieldAt_zero, fieldAt_succ, thenD, blockD, retR]
    | apply dwp_seq
    | apply dwp_region
    | apply ops_nil
    | (apply ops_plain; (· exact rfl))
    | (apply ops_on; (· exact rfl); (· exact rfl); (· (first | with_reducible assumption | with_reducible rfl | decide)))
    | (apply ops_off1; (· exact rfl); (· exact rfl); (· (first | with_reducible assumption | with_reducible rfl | decide)))
    | (apply ops_off0; (· exact rfl); (· exact rfl); (· (first | with_reducible assumption | with_reducible rfl | decide)))
    | (apply ops_offn; (· exact rfl); (· exact rfl))
    | (apply ops_split1; (· exact rfl); (· exact rfl); all_goals intro hb)
    | (apply ops_split0; (· exact rfl); (· exact rfl); all_goals intro hb)
    | (apply op_pick_t; (· exact rfl); (· exact rfl); (· (first | with_reducible assumption | with_reducible rfl | decide)); (· exact rfl))
    | (apply op_pick_f; (· exact rfl); (· exact rfl); (· (first | with_reducible assumption | with_reducible rfl | decide)); (· exact rfl))
    | (apply op_load_at; (· exact rfl); (· exact rfl); (· repeat (first | with_reducible assumption | (with_reducible apply obj_here; with_reducible rfl) | with_reducible apply obj_set | (with_reducible apply obj_skip_lo; (· ((repeat (first | with_reducible assumption | with_reducible apply Lo.self | with_reducible apply Lo.new | with_reducible apply Lo.set | with_reducible apply Lo.self1 | with_reducible apply Lo.self2)); done))) | (with_reducible apply obj_past; (· ((first | with_reducible assumption | with_reducible apply ne_add1 | with_reducible apply ne_add1' | with_reducible apply ne_add2 | with_reducible apply ne_add2' | with_reducible apply ne_add12 | with_reducible apply ne_add21 | (with_reducible apply Lo.ne; (repeat (first | with_reducible assumption | with_reducible apply Lo.self | with_reducible apply Lo.new | with_reducible apply Lo.set | with_reducible apply Lo.self1 | with_reducible apply Lo.self2)); done) | (with_reducible apply Lo.ne1; (repeat (first | with_reducible assumption | with_reducible apply Lo.self | with_reducible apply Lo.new | with_reducible apply Lo.set | with_reducible apply Lo.self1 | with_reducible apply Lo.self2)); done) | (with_reducible apply Lo.ne'; (repeat (first | with_reducible assumption | with_reducible apply Lo.self | with_reducible apply Lo.new | with_reducible apply Lo.set | with_reducible apply Lo.self1 | with_reducible apply Lo.self2)); done) | (with_reducible apply Lo.ne1'; (repeat (first | with_reducible assumption | with_reducible apply Lo.self | with_reducible apply Lo.new | with_reducible apply Lo.set | with_reducible apply Lo.self1 | with_reducible apply Lo.self2)); done)); done))))); (· exact rfl); (· exact rfl))
    | (apply op_store_at; (· exact rfl); (· exact rfl); (· exact rfl); (· repeat (first | with_reducible assumption | (with_reducible apply obj_here; with_reducible rfl) | with_reducible apply obj_set | (with_reducible apply obj_skip_lo; (· ((repeat (first | with_reducible assumption | with_reducible apply Lo.self | with_reducible apply Lo.new | with_reducible apply Lo.set | with_reducible apply Lo.self1 | with_reducible apply Lo.self2)); done))) | (with_reducible apply obj_past; (· ((first | with_reducible assumption | with_reducible apply ne_add1 | with_reducible apply ne_add1' | with_reducible apply ne_add2 | with_reducible apply ne_add2' | with_reducible apply ne_add12 | with_reducible apply ne_add21 | (with_reducible apply Lo.ne; (repeat (first | with_reducible assumption | with_reducible apply Lo.self | with_reducible apply Lo.new | with_reducible apply Lo.set | with_reducible apply Lo.self1 | with_reducible apply Lo.self2)); done) | (with_reducible apply Lo.ne1; (repeat (first | with_reducible assumption | with_reducible apply Lo.self | with_reducible apply Lo.new | with_reducible apply Lo.set | with_reducible apply Lo.self1 | with_reducible apply Lo.self2)); done) | (with_reducible apply Lo.ne'; (repeat (first | with_reducible assumption | with_reducible apply Lo.self | with_reducible apply Lo.new | with_reducible apply Lo.set | with_reducible apply Lo.self1 | with_reducible apply Lo.self2)); done) | (with_reducible apply Lo.ne1'; (repeat (first | with_reducible assumption | with_reducible apply Lo.self | with_reducible apply Lo.new | with_reducible apply Lo.set | with_reducible apply Lo.self1 | with_reducible apply Lo.self2)); done)); done))))); (· exact rfl); (· exact rfl); (· exact rfl))
    | (apply op_at; (· exact opD_eqb rfl rfl rfl rfl))
    | (apply op_at; (· exact opD_neqb rfl rfl rfl rfl))
    | (apply op_at; (· exact rfl))
    | (apply dwp_cond_t; (· exact rfl); (· (first | with_reducible assumption | with_reducible rfl | decide)))
    | (apply dwp_cond_f; (· exact rfl); (· (first | with_reducible assumption | with_reducible rfl | decide)))
    | (refine dwp_cond rfl ?_ ?_ <;> intro hb)
    | apply dwp_block
    | apply dwp_skip
    | apply dwp_ret
    | apply dwp_exit
    | (refine ⟨_, rfl, ?_⟩)
    | fail)
  refine dwp_loop (fun st => ∃ (Hk : DH) (k : Nat), ∃ J : Nat → DV, (k ≤ l.length ∧ Above H Hk ∧ (∀ (j : Nat) (a : Item), j < k → l[j]? = some a → pf a = false)) ∧ st = ⟨[.sl q l.length c ex, .func (.func F) [] cap, J 2, J 3, J 4, J 5, .sl q l.length c ex, .int .i64 l.length, .int .i64 (k : Int), J 9, J 10, J 11, J 12, J 13, J 14, J 15, J 16, J 17, J 18], Hk⟩) (fun st => l.length - kOf st 8) (⟨H, 0, junk_facts (⟨Nat.zero_le _, Above.refl H, (fun j a h => absurd h (Nat.not_lt_zero _))⟩) rfl rfl⟩) ?_
  rintro st ⟨Hk, k, J, ⟨hk, hab, hbefore⟩, rfl⟩
  by_cases hlt : k < l.length
  · obtain ⟨a, ha⟩ : ∃ a, l[k]? = some a := ⟨l[k], List.getElem?_eq_getElem hlt⟩
    obtain ⟨loc, i, ro, rs, rfl, hloc, ho, hrow⟩ := hl.rd ha
    have hok' := hab.obj hloc ho
    have hrk : rs[i + ((k : Int)).toNat]? = some a.cells := by rw [Int.toNat_natCast]; exact hrow
    have hc : decide ((k : Int) < (l.length : Int)) = true := by simp [hlt]
    have hin : 0 ≤ (k : Int) ∧ (k : Int) < (l.length : Int) := by omega
    have hw' := wrapNat (k := k) (by have := hl.len; unfold maxLen at this; omega)
    repeat' (first
      | dsimp only [putD, DV.cells, DH.new_next, DH.set_next, List.length_cons, List.length_nil, Nat.reduceAdd, List.set_cons_zero, List.set_cons_succ, getD_zero, getD_succ, fieldAt_zero, fieldAt_succ, thenD, blockD, retR]
      | apply dwp_seq
      | apply dwp_region
      | apply ops_nil
      | (apply ops_plain; (· exact rfl))
      | (apply ops_on; (· exact rfl); (· exact rfl); (· (first | with_reducible assumption | with_reducible rfl | decide)))
      | (apply ops_off1; (· exact rfl); (· exact rfl); (· (first | with_reducible assumption | with_reducible rfl | decide)))
      | (apply ops_off0; (· exact rfl); (· exact rfl); (· (first | with_reducible assumption | with_reducible rfl | decide)))
      | (apply ops_offn; (· exact rfl); (· exact rfl))
      | (apply ops_split1; (· exact rfl); (· exact rfl); all_goals intro hb)
      | (apply ops_split0; (· exact rfl); (· exact rfl); all_goals intro hb)
      | (apply op_call; (· exact rfl); (· exact rfl); (· exact rfl); refine (hF a _ hab).mono ?_; rintro r H1 ⟨rfl, hab1⟩)
      | (apply op_pick_t; (· exact rfl); (· exact rfl); (· (first | with_reducible assumption | with_reducible rfl | decide)); (· exact rfl))
      | (apply op_pick_f; (· exact rfl); (· exact rfl); (· (first | with_reducible assumption | with_reducible rfl | decide)); (· exact rfl))
      | (apply op_index_at; (· exact rfl); (· exact rfl); (· exact rfl); (· with_reducible exact hin); (· exact rfl); (· exact rfl))
      | (apply op_load_at; (· exact rfl); (· exact rfl); (· with_reducible exact hok'); (· with_reducible exact hrk); (· exact (item_part a)))
      | (apply op_load_at; (· exact rfl); (· exact rfl); (· repeat (first | with_reducible assumption | (with_reducible apply obj_here; with_reducible rfl) | with_reducible apply obj_set | (with_reducible apply obj_skip_lo; (· ((repeat (first | with_reducible assumption | with_reducible apply Lo.self | with_reducible apply Lo.new | with_reducible apply Lo.set | with_reducible apply Lo.self1 | with_reducible apply Lo.self2)); done))) | (with_reducible apply obj_past; (· ((first | with_reducible assumption | with_reducible apply ne_add1 | with_reducible apply ne_add1' | with_reducible apply ne_add2 | with_reducible apply ne_add2' | with_reducible apply ne_add12 | with_reducible apply ne_add21 | (with_reducible apply Lo.ne; (repeat (first | with_reducible assumption | with_reducible apply Lo.self | with_reducible apply Lo.new | with_reducible apply Lo.set | with_reducible apply Lo.self1 | with_reducible apply Lo.self2)); done) | (with_reducible apply Lo.ne1; (repeat (first | with_reducible assumption | with_reducible apply Lo.self | with_reducible apply Lo.new | with_reducible apply Lo.set | with_reducible apply Lo.self1 | with_reducible apply Lo.self2)); done) | (with_reducible apply Lo.ne'; (repeat (first | with_reducible assumption | with_reducible apply Lo.self | with_reducible apply Lo.new | with_reducible apply Lo.set | with_reducible apply Lo.self1 | with_reducible apply Lo.self2)); done) | (with_reducible apply Lo.ne1'; (repeat (first | with_reducible assumption | with_reducible apply Lo.self | with_reducible apply Lo.new | with_reducible apply Lo.set | with_reducible apply Lo.self1 | with_reducible apply Lo.self2)); done)); done))))); (· exact rfl); (· exact rfl))
      | (apply op_store_at; (· exact rfl); (· exact rfl); (· exact rfl); (· repeat (first | with_reducible assumption | (with_reducible apply obj_here; with_reducible rfl) | with_reducible apply obj_set | (with_reducible apply obj_skip_lo; (· ((repeat (first | with_reducible assumption | with_reducible apply Lo.self | with_reducible apply Lo.new | with_reducible apply Lo.set | with_reducible apply Lo.self1 | with_reducible apply Lo.self2)); done))) | (with_reducible apply obj_past; (· ((first | with_reducible assumption | with_reducible apply ne_add1 | with_reducible apply ne_add1' | with_reducible apply ne_add2 | with_reducible apply ne_add2' | with_reducible apply ne_add12 | with_reducible apply ne_add21 | (with_reducible apply Lo.ne; (repeat (first | with_reducible assumption | with_reducible apply Lo.self | with_reducible apply Lo.new | with_reducible apply Lo.set | with_reducible apply Lo.self1 | with_reducible apply Lo.self2)); done) | (with_reducible apply Lo.ne1; (repeat (first | with_reducible assumption | with_reducible apply Lo.self | with_reducible apply Lo.new | with_reducible apply Lo.set | with_reducible apply Lo.self1 | with_reducible apply Lo.self2)); done) | (with_reducible apply Lo.ne'; (repeat (first | with_reducible assumption | with_reducible apply Lo.self | with_reducible apply Lo.new | with_reducible apply Lo.set | with_reducible apply Lo.self1 | with_reducible apply Lo.self2)); done) | (with_reducible apply Lo.ne1'; (repeat (first | with_reducible assumption | with_reducible apply Lo.self | with_reducible apply Lo.new | with_reducible apply Lo.set | with_reducible apply Lo.self1 | with_reducible apply Lo.self2)); done)); done))))); (· exact rfl); (· exact rfl); (· exact rfl))
      | (apply op_at; (· exact opD_eqb rfl rfl rfl rfl))
      | (apply op_at; (· exact opD_neqb rfl rfl rfl rfl))
      | (apply op_at; (· exact rfl))
      | (apply dwp_cond_t; (· exact rfl); (· (first | with_reducible assumption | with_reducible rfl | decide)))
      | (apply dwp_cond_f; (· exact rfl); (· (first | with_reducible assumption | with_reducible rfl | decide)))
      | (refine dwp_cond rfl ?_ ?_ <;> intro hb)
      | apply dwp_block
      | apply dwp_skip
      | apply dwp_ret
      | apply dwp_exit
      | (refine ⟨_, rfl, ?_⟩)
      | fail)
    · refine ⟨?_, hab.trans hab1⟩
      have : idxI pf l = (k : Int) := by unfold idxI; rw [find_at ha hb hbefore]
      rw [this]
    · rw [hw']
      refine ⟨⟨_, k + 1, junk_facts (⟨by omega, hab.trans hab1, fun j b hj hjb => ?_⟩) rfl rfl⟩, ?_⟩
      · rcases Nat.lt_succ_iff_lt_or_eq.mp hj with h | rfl
        · exact hbefore j b h hjb
        · rw [ha] at hjb; cases hjb; exact hb
      · show l.length - ((k + 1 : Nat) : Int).toNat < l.length - (k : Int).toNat
        omega
  · have hc : decide ((k : Int) < (l.length : Int)) = false := by simp; omega
    have hkl : k = l.length := by omega
    subst hkl
    repeat' (first
      | dsimp only [putD, DV.cells, DH.new_next, DH.set_next, List.length_cons, List.length_nil, Nat.reduceAdd, List.set_cons_zero, List.set_cons_succ, getD_zero, getD_succ, fieldAt_zero, fieldAt_succ, thenD, blockD, retR]
      | apply dwp_seq
      | apply dwp_region
      | apply ops_nil
      | (apply ops_plain; (· exact rfl))
      | (apply ops_on; (· exact rfl); (· exact rfl); (· (first | with_reducible assumption | with_reducible rfl | decide)))
      | (apply ops_off1; (· exact rfl); (· exact rfl); (· (first | with_reducible assumption | with_reducible rfl | decide)))
      | (apply ops_off0; (· exact rfl); (· exact rfl); (· (first | with_reducible assumption | with_reducible rfl | decide)))
      | (apply ops_offn; (· exact rfl); (· exact rfl))
      | (apply ops_split1; (· exact rfl); (· exact rfl); all_goals intro hb)
      | (apply ops_split0; (· exact rfl); (· exact rfl); all_goals intro hb)
      | (apply op_pick_t; (· exact rfl); (· exact rfl); (· (first | with_reducible assumption | with_reducible rfl | decide)); (· exact rfl))
      | (apply op_pick_f; (· exact rfl); (· exact rfl); (· (first | with_reducible assumption | with_reducible rfl | decide)); (· exact rfl))
      | (apply op_load_at; (· exact rfl); (· exact rfl); (· repeat (first | with_reducible assumption | (with_reducible apply obj_here; with_reducible rfl) | with_reducible apply obj_set | (with_reducible apply obj_skip_lo; (· ((repeat (first | with_reducible assumption | with_reducible apply Lo.self | with_reducible apply Lo.new | with_reducible apply Lo.set | with_reducible apply Lo.self1 | with_reducible apply Lo.self2)); done))) | (with_reducible apply obj_past; (· ((first | with_reducible assumption | with_reducible apply ne_add1 | with_reducible apply ne_add1' | with_reducible apply ne_add2 | with_reducible apply ne_add2' | with_reducible apply ne_add12 | with_reducible apply ne_add21 | (with_reducible apply Lo.ne; (repeat (first | with_reducible assumption | with_reducible apply Lo.self | with_reducible apply Lo.new | with_reducible apply Lo.set | with_reducible apply Lo.self1 | with_reducible apply Lo.self2)); done) | (with_reducible apply Lo.ne1; (repeat (first | with_reducible assumption | with_reducible apply Lo.self | with_reducible apply Lo.new | with_reducible apply Lo.set | with_reducible apply Lo.self1 | with_reducible apply Lo.self2)); done) | (with_reducible apply Lo.ne'; (repeat (first | with_reducible assumption | with_reducible apply Lo.self | with_reducible apply Lo.new | with_reducible apply Lo.set | with_reducible apply Lo.self1 | with_reducible apply Lo.self2)); done) | (with_reducible apply Lo.ne1'; (repeat (first | with_reducible assumption | with_reducible apply Lo.self | with_reducible apply Lo.new | with_reducible apply Lo.set | with_reducible apply Lo.self1 | with_reducible apply Lo.self2)); done)); done))))); (· exact rfl); (· exact rfl))
      | (apply op_store_at; (· exact rfl); (· exact rfl); (· exact rfl); (· repeat (first | with_reducible assumption | (with_reducible apply obj_here; with_reducible rfl) | with_reducible apply obj_set | (with_reducible apply obj_skip_lo; (· ((repeat (first | with_reducible assumption | with_reducible apply Lo.self | with_reducible apply Lo.new | with_reducible apply Lo.set | with_reducible apply Lo.self1 | with_reducible apply Lo.self2)); done))) | (with_reducible apply obj_past; (· ((first | with_reducible assumption | with_reducible apply ne_add1 | with_reducible apply ne_add1' | with_reducible apply ne_add2 | with_reducible apply ne_add2' | with_reducible apply ne_add12 | with_reducible apply ne_add21 | (with_reducible apply Lo.ne; (repeat (first | with_reducible assumption | with_reducible apply Lo.self | with_reducible apply Lo.new | with_reducible apply Lo.set | with_reducible apply Lo.self1 | with_reducible apply Lo.self2)); done) | (with_reducible apply Lo.ne1; (repeat (first | with_reducible assumption | with_reducible apply Lo.self | with_reducible apply Lo.new | with_reducible apply Lo.set | with_reducible apply Lo.self1 | with_reducible apply Lo.self2)); done) | (with_reducible apply Lo.ne'; (repeat (first | with_reducible assumption | with_reducible apply Lo.self | with_reducible apply Lo.new | with_reducible apply Lo.set | with_reducible apply Lo.self1 | with_reducible apply Lo.self2)); done) | (with_reducible apply Lo.ne1'; (repeat (first | with_reducible assumption | with_reducible apply Lo.self | with_reducible apply Lo.new | with_reducible apply Lo.set | with_reducible apply Lo.self1 | with_reducible apply Lo.self2)); done)); done))))); (· exact rfl); (· exact rfl); (· exact rfl))
      | (apply op_at; (· exact opD_eqb rfl rfl rfl rfl))
      | (apply op_at; (· exact opD_neqb rfl rfl rfl rfl))
      | (apply op_at; (· exact rfl))
      | (apply dwp_cond_t; (· exact rfl); (· (first | with_reducible assumption | with_reducible rfl | decide)))
      | (apply dwp_cond_f; (· exact rfl); (· (first | with_reducible assumption | with_reducible rfl | decide)))
      | (refine dwp_cond rfl ?_ ?_ <;> intro hb)
      | apply dwp_block
      | apply dwp_skip
      | apply dwp_ret
      | apply dwp_exit
      | (refine ⟨_, rfl, ?_⟩)
      | fail)
    refine ⟨?_, hab⟩
    have : idxI pf l = -1 := by unfold idxI; rw [find_none fun j b h => hbefore j b (List.getElem?_eq_some_iff.mp h).1 h]
    rw [this]
theorem find62 {X : Ext} (hx : X 62 = none) (H : DH) (a : Item) (m : Nat) (id : Int) (ho : H.obj m = some (.rows false 1 [[.int .u64 id]])) (hm : m < H.next) : CallWp Try.prog X 62 [.agg a.cells, .ptr (some (m, 0, 0))] H (fun r H' => r = .bool (a.s == id) ∧ Above H H') := by
  have hlo : Lo H m := lo hm
  refine enter hx Try.func62 rfl Try.ntmps62 rfl ?_
  dsimp only [List.cons_append, List.nil_append, List.length_cons, List.length_nil, List.replicate_succ, List.replicate_zero, Nat.reduceAdd, Nat.reduceSub]
  repeat' (first
    | dsimp only [putD, DV.cells, DH.new_next, DH.set_next, List.length_cons, List.length_nil, Nat.reduceAdd, List.set_cons_zero, List.set_cons_succ, getD_zero, getD_succ, fieldAt_zero, fieldAt_succ, thenD, blockD, retR]
    | apply dwp_seq
    | apply dwp_region
    | apply ops_nil
    | (apply ops_plain; (· exact rfl))
    | (apply ops_on; (· exact rfl); (· exact rfl); (· (first | with_reducible assumption | with_reducible rfl | decide)))
    | (apply ops_off1; (· exact rfl); (· exact rfl); (· (first | with_reducible assumption | with_reducible rfl | decide)))
    | (apply ops_off0; (· exact rfl); (· exact rfl); (· (first | with_reducible assumption | with_reducible rfl | decide)))
    | (apply ops_offn; (· exact rfl); (· exact rfl))
    | (apply ops_split1; (· exact rfl); (· exact rfl); all_goals intro hb)
    | (apply ops_split0; (· exact rfl); (· exact rfl); all_goals intro hb)
    | (apply op_pick_t; (· exact rfl); (· exact rfl); (· (first | with_reducible assumption | with_reducible rfl | decide)); (· exact rfl))
    | (apply op_pick_f; (· exact rfl); (· exact rfl); (· (first | with_reducible assumption | with_reducible rfl | decide)); (· exact rfl))
    | (apply op_load_at; (· exact rfl); (· exact rfl); (· repeat (first | with_reducible assumption | (with_reducible apply obj_here; with_reducible rfl) | with_reducible apply obj_set | (with_reducible apply obj_skip_lo; (· ((repeat (first | with_reducible assumption | with_reducible apply Lo.self | with_reducible apply Lo.new | with_reducible apply Lo.set | with_reducible apply Lo.self1 | with_reducible apply Lo.self2)); done))) | (with_reducible apply obj_past; (· ((first | with_reducible assumption | with_reducible apply ne_add1 | with_reducible apply ne_add1' | with_reducible apply ne_add2 | with_reducible apply ne_add2' | with_reducible apply ne_add12 | with_reducible apply ne_add21 | (with_reducible apply Lo.ne; (repeat (first | with_reducible assumption | with_reducible apply Lo.self | with_reducible apply Lo.new | with_reducible apply Lo.set | with_reducible apply Lo.self1 | with_reducible apply Lo.self2)); done) | (with_reducible apply Lo.ne1; (repeat (first | with_reducible assumption | with_reducible apply Lo.self | with_reducible apply Lo.new | with_reducible apply Lo.set | with_reducible apply Lo.self1 | with_reducible apply Lo.self2)); done) | (with_reducible apply Lo.ne'; (repeat (first | with_reducible assumption | with_reducible apply Lo.self | with_reducible apply Lo.new | with_reducible apply Lo.set | with_reducible apply Lo.self1 | with_reducible apply Lo.self2)); done) | (with_reducible apply Lo.ne1'; (repeat (first | with_reducible assumption | with_reducible apply Lo.self | with_reducible apply Lo.new | with_reducible apply Lo.set | with_reducible apply Lo.self1 | with_reducible apply Lo.self2)); done)); done))))); (· exact rfl); (· exact rfl))
    | (apply op_store_at; (· exact rfl); (· exact rfl); (· exact rfl); (· repeat (first | with_reducible assumption | (with_reducible apply obj_here; with_reducible rfl) | with_reducible apply obj_set | (with_reducible apply obj_skip_lo; (· ((repeat (first | with_reducible assumption | with_reducible apply Lo.self | with_reducible apply Lo.new | with_reducible apply Lo.set | with_reducible apply Lo.self1 | with_reducible apply Lo.self2)); done))) | (with_reducible apply obj_past; (· ((first | with_reducible assumption | with_reducible apply ne_add1 | with_reducible apply ne_add1' | with_reducible apply ne_add2 | with_reducible apply ne_add2' | with_reducible apply ne_add12 | with_reducible apply ne_add21 | (with_reducible apply Lo.ne; (repeat (first | with_reducible assumption | with_reducible apply Lo.self | with_reducible apply Lo.new | with_reducible apply Lo.set | with_reducible apply Lo.self1 | with_reducible apply Lo.self2)); done) | (with_reducible apply Lo.ne1; (repeat (first | with_reducible assumption | with_reducible apply Lo.self | with_reducible apply Lo.new | with_reducible apply Lo.set | with_reducible apply Lo.self1 | with_reducible apply Lo.self2)); done) | (with_reducible apply Lo.ne'; (repeat (first | with_reducible assumption | with_reducible apply Lo.self | with_reducible apply Lo.new | with_reducible apply Lo.set | with_reducible apply Lo.self1 | with_reducible apply Lo.self2)); done) | (with_reducible apply Lo.ne1'; (repeat (first | with_reducible assumption | with_reducible apply Lo.self | with_reducible apply Lo.new | with_reducible apply Lo.set | with_reducible apply Lo.self1 | with_reducible apply Lo.self2)); done)); done))))); (· exact rfl); (· exact rfl); (· exact rfl))
    | (apply op_at; (· exact opD_eqb rfl rfl rfl rfl))
    | (apply op_at; (· exact opD_neqb rfl rfl rfl rfl))
    | (apply op_at; (· exact rfl))
    | (apply dwp_cond_t; (· exact rfl); (· (first | with_reducible assumption | with_reducible rfl | decide)))
    | (apply dwp_cond_f; (· exact rfl); (· (first | with_reducible assumption | with_reducible rfl | decide)))
    | (refine dwp_cond rfl ?_ ?_ <;> intro hb)
    | apply dwp_block
    | apply dwp_skip
    | apply dwp_ret
    | apply dwp_exit
    | (refine ⟨_, rfl, ?_⟩)
    | fail)
  exact ⟨rfl, (Above.refl H).new _⟩
def fI (l : List Item) (q : Int) : Int := match l.findIdx? (fun x => x.s == q) with | some k => (k : Int) | none => 0
def fB (l : List Item) (q : Int) : Bool := (l.findIdx? (fun x => x.s == q)).isSome
theorem gFind_t {H : DH} {s : DV} {l : List Item} {q : Int} (h : Its H s l) : gFind [s, .int .u64 q] H = some (.tuple [.int .i64 (fI l q), .bool (fB l q)], H) := by
  obtain ⟨p, c, ex, rfl, hl⟩ := h
  rw [hl.find]
  unfold fI fB
  cases l.findIdx? (fun x => x.s == q) <;> rfl
theorem find31 (H : DH) (s : DV) (l : List Item) (q : Int) (hl : Its H s l) : CallWp Try.prog X5 31 [s, .int .u64 q] H (fun r H' => r = .tuple [.int .i64 (fI l q), .bool (fB l q)] ∧ Above H H') := by
  obtain ⟨p, c, ex, rfl, hl⟩ := hl
  have hF : ∀ (a : Item) (H' : DH), Above (H.new (.rows false 1 [[.int .u64 q]])) H' → CallWp Try.prog X5 62 (.agg a.cells :: [.ptr (some (H.next, 0, 0))]) H' (fun r H'' => r = .bool ((fun a : Item => a.s == q) a) ∧ Above H' H'') := fun a H' h =>
    find62 rfl H' a H.next q (h.obj (Nat.lt_succ_self _) (obj_here rfl)) (Nat.lt_of_lt_of_le (Nat.lt_succ_self _) h.le)
  have hab0 : Above H (H.new (.rows false 1 [[.int .u64 q]])) := (Above.refl H).new _
  refine enter rfl Try.func31 rfl Try.ntmps31 rfl ?_
  dsimp only [List.cons_append, List.nil_append, List.length_cons, List.length_nil, List.replicate_succ, List.replicate_zero, Nat.reduceAdd, Nat.reduceSub]
  repeat' (first
    | dsimp only [putD, DV.cells, DH.new_next, DH.set_next, List.length_cons, List.length_nil, Nat.reduceAdd, List.set_cons_zero, List.set_cons_succ, getD_zero, getD_succ, fieldAt_zero, fieldAt_succ, thenD, blockD, retR]
    | apply dwp_seq
    | apply dwp_region
    | apply ops_nil
    | (apply ops_plain; (· exact rfl))
    | (apply ops_on; (· exact rfl); (· exact rfl); (· (first | with_reducible assumption | with_reducible rfl | decide)))
    | (apply ops_off1; (· exact rfl); (· exact rfl); (· (first | with_reducible assumption | with_reducible rfl | decide)))
    | (apply ops_off0; (· exact rfl); (· exact rfl); (· (first | with_reducible assumption | with_reducible rfl | decide)))
    | (apply ops_offn; (· exact rfl); (· exact rfl))
    | (apply ops_split1; (· exact rfl); (· exact rfl); all_goals intro hb)
    | (apply ops_split0; (· exact rfl); (· exact rfl); all_goals intro hb)
    | (apply op_call; (· exact rfl); (· exact rfl); (· exact rfl); refine (index61 rfl _ hF _ _ _ l (hl.mono hab0)).mono ?_; rintro r H1 ⟨rfl, hab1⟩)
    | (apply op_pick_t; (· exact rfl); (· exact rfl); (· (first | with_reducible assumption | with_reducible rfl | decide)); (· exact rfl))
    | (apply op_pick_f; (· exact rfl); (· exact rfl); (· (first | with_reducible assumption | with_reducible rfl | decide)); (· exact rfl))
    | (apply op_load_at; (· exact rfl); (· exact rfl); (· repeat (first | with_reducible assumption | (with_reducible apply obj_here; with_reducible rfl) | with_reducible apply obj_set | (with_reducible apply obj_skip_lo; (· ((repeat (first | with_reducible assumption | with_reducible apply Lo.self | with_reducible apply Lo.new | with_reducible apply Lo.set | with_reducible apply Lo.self1 | with_reducible apply Lo.self2)); done))) | (with_reducible apply obj_past; (· ((first | with_reducible assumption | with_reducible apply ne_add1 | with_reducible apply ne_add1' | with_reducible apply ne_add2 | with_reducible apply ne_add2' | with_reducible apply ne_add12 | with_reducible apply ne_add21 | (with_reducible apply Lo.ne; (repeat (first | with_reducible assumption | with_reducible apply Lo.self | with_reducible apply Lo.new | with_reducible apply Lo.set | with_reducible apply Lo.self1 | with_reducible apply Lo.self2)); done) | (with_reducible apply Lo.ne1; (repeat (first | with_reducible assumption | with_reducible apply Lo.self | with_reducible apply Lo.new | with_reducible apply Lo.set | with_reducible apply Lo.self1 | with_reducible apply Lo.self2)); done) | (with_reducible apply Lo.ne'; (repeat (first | with_reducible assumption | with_reducible apply Lo.self | with_reducible apply Lo.new | with_reducible apply Lo.set | with_reducible apply Lo.self1 | with_reducible apply Lo.self2)); done) | (with_reducible apply Lo.ne1'; (repeat (first | with_reducible assumption | with_reducible apply Lo.self | with_reducible apply Lo.new | with_reducible apply Lo.set | with_reducible apply Lo.self1 | with_reducible apply Lo.self2)); done)); done))))); (· exact rfl); (· exact rfl))
    | (apply op_store_at; (· exact rfl); (· exact rfl); (· exact rfl); (· repeat (first | with_reducible assumption | (with_reducible apply obj_here; with_reducible rfl) | with_reducible apply obj_set | (with_reducible apply obj_skip_lo; (· ((repeat (first | with_reducible assumption | with_reducible apply Lo.self | with_reducible apply Lo.new | with_reducible apply Lo.set | with_reducible apply Lo.self1 | with_reducible apply Lo.self2)); done))) | (with_reducible apply obj_past; (· ((first | with_reducible assumption | with_reducible apply ne_add1 | with_reducible apply ne_add1' | with_reducible apply ne_add2 | with_reducible apply ne_add2' | with_reducible apply ne_add12 | with_reducible apply ne_add21 | (with_reducible apply Lo.ne; (repeat (first | with_reducible assumption | with_reducible apply Lo.self | with_reducible apply Lo.new | with_reducible apply Lo.set | with_reducible apply Lo.self1 | with_reducible apply Lo.self2)); done) | (with_reducible apply Lo.ne1; (repeat (first | with_reducible assumption | with_reducible apply Lo.self | with_reducible apply Lo.new | with_reducible apply Lo.set | with_reducible apply Lo.self1 | with_reducible apply Lo.self2)); done) | (with_reducible apply Lo.ne'; (repeat (first | with_reducible assumption | with_reducible apply Lo.self | with_reducible apply Lo.new | with_reducible apply Lo.set | with_reducible apply Lo.self1 | with_reducible apply Lo.self2)); done) | (with_reducible apply Lo.ne1'; (repeat (first | with_reducible assumption | with_reducible apply Lo.self | with_reducible apply Lo.new | with_reducible apply Lo.set | with_reducible apply Lo.self1 | with_reducible apply Lo.self2)); done)); done))))); (· exact rfl); (· exact rfl); (· exact rfl))
    | (apply op_at; (· exact opD_eqb rfl rfl rfl rfl))
    | (apply op_at; (· exact opD_neqb rfl rfl rfl rfl))
    | (apply op_at; (· exact rfl))
    | (apply dwp_cond_t; (· exact rfl); (· (first | with_reducible assumption | with_reducible rfl | decide)))
    | (apply dwp_cond_f; (· exact rfl); (· (first | with_reducible assumption | with_reducible rfl | decide)))
    | (refine dwp_cond rfl ?_ ?_ <;> intro hb)
    | apply dwp_block
    | apply dwp_skip
    | apply dwp_ret
    | apply dwp_exit
    | (refine ⟨_, rfl, ?_⟩)
    | fail)
  refine ⟨?_, hab0.trans hab1⟩
  unfold fI fB idxI
  cases l.findIdx? (fun a => a.s == q) with
  | none => rfl
  | some k =>
    show DV.tuple [.int .i64 (if (0 : Int) > (k : Int) then 0 else (k : Int)), .bool (decide ((k : Int) ≥ 0))] = _
    rw [if_neg (by omega), decide_eq_true (by omega)]
    rfl
end Go.Det.Q

/- Arguments. -/
namespace Go.Det.Q
open Go Go.Det Go.Proofs
set_option maxRecDepth 4000
set_option linter.unusedVariables false
set_option linter.unusedSimpArgs false
def i64ok (x : Int) : Prop := -9223372036854775808 ≤ x ∧ x ≤ 9223372036854775807
def u64ok (x : Int) : Prop := 0 ≤ x ∧ x ≤ 18446744073709551615
theorem i64_of {x : Int} (h : (Lit.int .i64 x).wf = true) : i64ok x := by
  simp [Lit.wf, IntKind.min, IntKind.max, IntKind.signed, IntKind.bits] at h
  exact h
theorem u64_of {x : Int} (h : (Lit.int .u64 x).wf = true) : u64ok x := by
  simp [Lit.wf, IntKind.min, IntKind.max, IntKind.signed, IntKind.bits] at h
  unfold u64ok
  omega
structure Item.ok (x : Item) : Prop where
  a : i64ok x.a
  c : i64ok x.c
  s : u64ok x.s
  w : i64ok x.w
  h : i64ok x.h
  n : u64ok x.n
theorem item_in {H : DH} {cs : List DV} (h : Typed Try.prog H 26 cs) : ∃ x : Item, cs = x.cells ∧ x.ok := by
  obtain ⟨h1, h2⟩ := typed_struct (fs := _) Try.underlying26 h
  have hsz : Try.prog.cellsOf 26 = 6 := by kernel_rfl
  have c2 : Try.prog.cellsOf 2 = 1 := by kernel_rfl
  have c3 : Try.prog.cellsOf 3 = 1 := by kernel_rfl
  have c24 : Try.prog.cellsOf 24 = 1 := by kernel_rfl
  rw [hsz] at h1
  obtain ⟨x0, x1, x2, x3, x4, x5, rfl⟩ := len6 h1
  simp only [List.forall_mem_cons, c2, c3, c24, List.drop_zero, List.drop_succ_cons, List.take_succ_cons, List.take_zero] at h2
  obtain ⟨t0, t1, t2, t3, t4, t5, _⟩ := h2
  obtain ⟨a, e0, w0⟩ := typed_int Try.underlying2 t0
  obtain ⟨b, e1, w1⟩ := typed_int Try.underlying3 t1
  obtain ⟨c, e2, w2⟩ := typed_int Try.underlying24 t2
  obtain ⟨d, e3, w3⟩ := typed_int Try.underlying3 t3
  obtain ⟨e, e4, w4⟩ := typed_int Try.underlying3 t4
  obtain ⟨f, e5, w5⟩ := typed_int Try.underlying24 t5
  cases e0; cases e1; cases e2; cases e3; cases e4; cases e5
  exact ⟨⟨a, b, c, d, e, f⟩, rfl, ⟨i64_of w0, i64_of w1, u64_of w2, i64_of w3, i64_of w4, u64_of w5⟩⟩
theorem items_rows {H : DH} : ∀ (rs : List (List DV)), (∀ r ∈ rs, Typed Try.prog H 26 r) → ∃ l : List Item, rs = l.map Item.cells ∧ ∀ x ∈ l, x.ok
  | [], _ => ⟨[], rfl, fun a h => by cases h⟩
  | r :: rs, h => by
    obtain ⟨x, hx, hok⟩ := item_in (h r (by simp))
    obtain ⟨l, hl, hall⟩ := items_rows rs fun r' hr => h r' (by simp [hr])
    exact ⟨x :: l, by rw [hx, hl]; rfl, fun y hy => by
      rcases List.mem_cons.mp hy with rfl | hy
      · exact hok
      · exact hall y hy⟩
theorem items_typed {H : DH} (hw : WF H) {d : DV} (h' : Typed Try.prog H 23 [d]) : ∃ p c ex l, d = .sl p l.length c ex ∧ It H p c ex l ∧ ∀ x ∈ l, x.ok := by
  have hsz : Try.prog.cellsOf 26 = 6 := by kernel_rfl
  rcases typed_slice Try.underlying23 h' with h | ⟨l, n, rs, h, ho, hn, hm, hr⟩
  · cases h
    exact ⟨none, 0, true, [], rfl, .nil0 H, fun a ha => by cases ha⟩
  · rw [hsz] at h ho
    cases h
    obtain ⟨L, hL, hall⟩ := items_rows (rs.take n) (fun r hr' => by
      obtain ⟨i, hi, rfl⟩ := List.getElem_of_mem (List.mem_of_mem_take hr')
      exact hr i _ (List.getElem?_eq_getElem hi))
    have hlen : L.length = n := by
      have := congrArg List.length hL
      rw [List.length_map, List.length_take] at this
      omega
    exact ⟨some (l, 0, 6), rs.length, true, L, by rw [hlen], ⟨.at (hw _ _ ho) ho (by rw [List.length_map, hlen]; omega) (by rw [List.length_map, hlen, List.drop_zero, hL]), fun h => (by cases h), by rw [hlen]; omega, by rw [hlen]; exact hn⟩, hall⟩
theorem items_in {H : DH} (hw : WF H) {d : DV} (h : TArg Try.prog H 23 d) : ∃ p c ex l, d = .sl p l.length c ex ∧ It H p c ex l ∧ ∀ x ∈ l, x.ok :=
  items_typed hw (targ_one (by rw [Try.underlying23]; simp) (by rw [Try.underlying23]; simp) h)
theorem item_arg {H : DH} {d : DV} (h : TArg Try.prog H 26 d) : ∃ x : Item, d = .agg x.cells ∧ x.ok := by
  obtain ⟨ds, rfl, t⟩ := targ_agg Try.underlying26 h
  obtain ⟨x, rfl, hx⟩ := item_in t
  exact ⟨x, rfl, hx⟩
theorem u64_arg {H : DH} {d : DV} (h : TArg Try.prog H 24 d) : ∃ x, d = .int .u64 x ∧ u64ok x := by
  obtain ⟨x, e, hw⟩ := typed_int Try.underlying24 (targ_one (by rw [Try.underlying24]; simp) (by rw [Try.underlying24]; simp) h)
  cases e; exact ⟨x, rfl, u64_of hw⟩
end Go.Det.Q

/- HeapTells: the law's own text. -/
namespace Go.Det.Q
open Go Go.Det Go.Proofs
set_option maxRecDepth 4000
set_option maxHeartbeats 4000000
set_option linter.unusedVariables false
set_option linter.unusedSimpArgs false
theorem few23a (H : DH) (loc : Nat) (p : Option (Nat × Nat × Nat)) (n c : Nat) (ex : Bool) (ho : H.obj loc = some (.rows false 1 [[.sl p n c ex]])) :
    CallWp Try.prog X5 23 [.sl (some (loc, 0, 1)) 1 1 true] H (fun r H' => H' = H ∧ ∃ b, r = .bool b ∧ (b = true → n ≤ 4200)) := by
  refine enter rfl Try.func23 rfl Try.ntmps23 rfl ?_
  dsimp only [List.cons_append, List.nil_append, List.length_cons, List.length_nil, List.replicate_succ, List.replicate_zero, Nat.reduceAdd, Nat.reduceSub]
  repeat' (first
    | dsimp only [putD, DV.cells, DH.new_next, DH.set_next, List.length_cons, List.length_nil, Nat.reduceAdd, List.set_cons_zero, List.set_cons_succ, getD_zero, getD_succ, fieldAt_zero, fieldAt_succ, thenD, blockD, retR]
    | apply dwp_round
    | apply dwp_seq
    | apply dwp_region
    | apply ops_nil
    | (apply ops_plain; (· exact rfl))
    | (apply ops_on; (· exact rfl); (· exact rfl); (· (first | with_reducible assumption | with_reducible rfl | decide)))
    | (apply ops_off1; (· exact rfl); (· exact rfl); (· (first | with_reducible assumption | with_reducible rfl | decide)))
    | (apply ops_off0; (· exact rfl); (· exact rfl); (· (first | with_reducible assumption | with_reducible rfl | decide)))
    | (apply ops_offn; (· exact rfl); (· exact rfl))
    | (apply ops_split1; (· exact rfl); (· exact rfl); all_goals intro hb)
    | (apply ops_split0; (· exact rfl); (· exact rfl); all_goals intro hb)
    | (apply op_pick_t; (· exact rfl); (· exact rfl); (· (first | with_reducible assumption | with_reducible rfl | decide)); (· exact rfl))
    | (apply op_pick_f; (· exact rfl); (· exact rfl); (· (first | with_reducible assumption | with_reducible rfl | decide)); (· exact rfl))
    | (apply op_load_at; (· exact rfl); (· exact rfl); (· with_reducible exact ho); (· exact rfl); (· exact rfl))
    | (apply op_load_at; (· exact rfl); (· exact rfl); (· repeat (first | with_reducible assumption | (with_reducible apply obj_here; with_reducible rfl) | with_reducible apply obj_set | (with_reducible apply obj_skip_lo; (· ((repeat (first | with_reducible assumption | with_reducible apply Lo.self | with_reducible apply Lo.new | with_reducible apply Lo.set | with_reducible apply Lo.self1 | with_reducible apply Lo.self2)); done))) | (with_reducible apply obj_past; (· ((first | with_reducible assumption | with_reducible apply ne_add1 | with_reducible apply ne_add1' | with_reducible apply ne_add2 | with_reducible apply ne_add2' | with_reducible apply ne_add12 | with_reducible apply ne_add21 | (with_reducible apply Lo.ne; (repeat (first | with_reducible assumption | with_reducible apply Lo.self | with_reducible apply Lo.new | with_reducible apply Lo.set | with_reducible apply Lo.self1 | with_reducible apply Lo.self2)); done) | (with_reducible apply Lo.ne1; (repeat (first | with_reducible assumption | with_reducible apply Lo.self | with_reducible apply Lo.new | with_reducible apply Lo.set | with_reducible apply Lo.self1 | with_reducible apply Lo.self2)); done) | (with_reducible apply Lo.ne'; (repeat (first | with_reducible assumption | with_reducible apply Lo.self | with_reducible apply Lo.new | with_reducible apply Lo.set | with_reducible apply Lo.self1 | with_reducible apply Lo.self2)); done) | (with_reducible apply Lo.ne1'; (repeat (first | with_reducible assumption | with_reducible apply Lo.self | with_reducible apply Lo.new | with_reducible apply Lo.set | with_reducible apply Lo.self1 | with_reducible apply Lo.self2)); done)); done))))); (· exact rfl); (· exact rfl))
    | (apply op_store_at; (· exact rfl); (· exact rfl); (· exact rfl); (· repeat (first | with_reducible assumption | (with_reducible apply obj_here; with_reducible rfl) | with_reducible apply obj_set | (with_reducible apply obj_skip_lo; (· ((repeat (first | with_reducible assumption | with_reducible apply Lo.self | with_reducible apply Lo.new | with_reducible apply Lo.set | with_reducible apply Lo.self1 | with_reducible apply Lo.self2)); done))) | (with_reducible apply obj_past; (· ((first | with_reducible assumption | with_reducible apply ne_add1 | with_reducible apply ne_add1' | with_reducible apply ne_add2 | with_reducible apply ne_add2' | with_reducible apply ne_add12 | with_reducible apply ne_add21 | (with_reducible apply Lo.ne; (repeat (first | with_reducible assumption | with_reducible apply Lo.self | with_reducible apply Lo.new | with_reducible apply Lo.set | with_reducible apply Lo.self1 | with_reducible apply Lo.self2)); done) | (with_reducible apply Lo.ne1; (repeat (first | with_reducible assumption | with_reducible apply Lo.self | with_reducible apply Lo.new | with_reducible apply Lo.set | with_reducible apply Lo.self1 | with_reducible apply Lo.self2)); done) | (with_reducible apply Lo.ne'; (repeat (first | with_reducible assumption | with_reducible apply Lo.self | with_reducible apply Lo.new | with_reducible apply Lo.set | with_reducible apply Lo.self1 | with_reducible apply Lo.self2)); done) | (with_reducible apply Lo.ne1'; (repeat (first | with_reducible assumption | with_reducible apply Lo.self | with_reducible apply Lo.new | with_reducible apply Lo.set | with_reducible apply Lo.self1 | with_reducible apply Lo.self2)); done)); done))))); (· exact rfl); (· exact rfl); (· exact rfl))
    | (apply op_at; (· exact opD_eqb rfl rfl rfl rfl))
    | (apply op_at; (· exact opD_neqb rfl rfl rfl rfl))
    | (apply op_at; (· exact rfl))
    | (apply dwp_cond_t; (· exact rfl); (· (first | with_reducible assumption | with_reducible rfl | decide)))
    | (apply dwp_cond_f; (· exact rfl); (· (first | with_reducible assumption | with_reducible rfl | decide)))
    | (refine dwp_cond rfl ?_ ?_ <;> intro hb)
    | apply dwp_block
    | apply dwp_skip
    | apply dwp_ret
    | apply dwp_exit
    | (refine ⟨_, rfl, ?_⟩)
    | fail)
  all_goals refine ⟨rfl, _, rfl, fun h => ?_⟩
  all_goals simp only [decide_eq_false_iff_not, decide_eq_true_eq] at *
  all_goals first | omega | (exfalso; cases h; done)
theorem less_call33 {x y : Item} {H : DH} {K : DV → DH → Prop} (h : K (.bool (ilt x y)) H) : CallWp Try.prog X5 33 [.agg x.cells, .agg y.cells] H K := call_table (g := gLess) rfl rfl h
theorem less_call20 {x y : Item} {H : DH} {K : DV → DH → Prop} (h : K (.bool (ilt x y)) H) : CallWp Try.prog X5 20 [.agg x.cells, .agg y.cells] H K := call_table (g := gLess) rfl rfl h
theorem law8 (H : DH) (x y : Item) (p : Option (Nat × Nat × Nat)) (c : Nat) (ex : Bool) (l : List Item) (q : Int) (hl : It H p c ex l) :
    CallWp Try.prog X5 8 [.agg x.cells, .agg y.cells, .sl p l.length c ex, .int .u64 q] H (fun r H' => r = .bool true) := by
  have ham : ∀ {a b d : DObj}, Above H (((H.new a).new b).new d) := fun {a b d} => (((Above.refl H).new _).new _).new _
  have hbx : ∀ {a b d : DObj}, (((H.new a).new b).new d).obj H.next = some a := fun {a b d} => obj_skip (Nat.ne_of_lt (show H.next < H.next + 1 + 1 by omega)) (obj_skip (Nat.ne_of_lt (Nat.lt_succ_self _)) (obj_here rfl))
  have hby : ∀ {a b d : DObj}, (((H.new a).new b).new d).obj (H.next + 1) = some b := fun {a b d} => obj_skip (Nat.ne_of_lt (Nat.lt_succ_self _)) (obj_here rfl)
  have hlt1 : ∀ {a b d : DObj}, H.next < (((H.new a).new b).new d).next := fun {a b d} => (show H.next < H.next + 1 + 1 + 1 by omega)
  have hlt2 : ∀ {a b d : DObj}, H.next + 1 < (((H.new a).new b).new d).next := fun {a b d} => (show H.next + 1 < H.next + 1 + 1 + 1 by omega)
  have nL : (ilt x y == ilt x y) = true := beq_self_eq_true _
  have nC : (checkB l == checkB l) = true := beq_self_eq_true _
  have nS : decide (sortL l = sortL l) = true := by simp
  have nI : (fI l q == fI l q) = true := by simp
  have nB : (fB l q == fB l q) = true := beq_self_eq_true _
  have nH : decide (l = l) = true := by simp
  by_cases h200 : decide ((l.length : Int) > 200) = true
  · skip
    refine enter rfl Try.func8 rfl Try.ntmps8 rfl ?_
    dsimp only [List.cons_append, List.nil_append, List.length_cons, List.length_nil, List.replicate_succ, List.replicate_zero, Nat.reduceAdd, Nat.reduceSub]
    repeat' (first
      | dsimp only [putD, DV.cells, DH.new_next, DH.set_next, List.length_cons, List.length_nil, Nat.reduceAdd, List.set_cons_zero, List.set_cons_succ, getD_zero, getD_succ, fieldAt_zero, fieldAt_succ, thenD, blockD, retR]
      | apply dwp_seq
      | apply dwp_region
      | apply ops_nil
      | (apply ops_plain; (· exact rfl))
      | (apply ops_on; (· exact rfl); (· exact rfl); (· (first | with_reducible assumption | with_reducible rfl | decide)))
      | (apply ops_off1; (· exact rfl); (· exact rfl); (· (first | with_reducible assumption | with_reducible rfl | decide)))
      | (apply ops_off0; (· exact rfl); (· exact rfl); (· (first | with_reducible assumption | with_reducible rfl | decide)))
      | (apply ops_offn; (· exact rfl); (· exact rfl))
      | (apply ops_split1; (· exact rfl); (· exact rfl); all_goals intro hb)
      | (apply ops_split0; (· exact rfl); (· exact rfl); all_goals intro hb)
      | (apply op_call; (· exact rfl); (· exact rfl); (· exact rfl); refine call_table (g := gLive) rfl rfl ?_)
      | (apply op_call; (· exact rfl); (· exact rfl); (· exact rfl); refine (few23a _ (H.next + 2) p l.length c ex (obj_here rfl)).mono ?_; rintro r H1 ⟨rfl, b, rfl, hb0⟩; cases b)
      | (apply op_pick_t; (· exact rfl); (· exact rfl); (· (first | with_reducible assumption | with_reducible rfl | decide)); (· exact rfl))
      | (apply op_pick_f; (· exact rfl); (· exact rfl); (· (first | with_reducible assumption | with_reducible rfl | decide)); (· exact rfl))
      | (apply op_load_at; (· exact rfl); (· exact rfl); (· repeat (first | with_reducible assumption | (with_reducible apply obj_here; with_reducible rfl) | with_reducible apply obj_set | (with_reducible apply obj_skip_lo; (· ((repeat (first | with_reducible assumption | with_reducible apply Lo.self | with_reducible apply Lo.new | with_reducible apply Lo.set | with_reducible apply Lo.self1 | with_reducible apply Lo.self2)); done))) | (with_reducible apply obj_past; (· ((first | with_reducible assumption | with_reducible apply ne_add1 | with_reducible apply ne_add1' | with_reducible apply ne_add2 | with_reducible apply ne_add2' | with_reducible apply ne_add12 | with_reducible apply ne_add21 | (with_reducible apply Lo.ne; (repeat (first | with_reducible assumption | with_reducible apply Lo.self | with_reducible apply Lo.new | with_reducible apply Lo.set | with_reducible apply Lo.self1 | with_reducible apply Lo.self2)); done) | (with_reducible apply Lo.ne1; (repeat (first | with_reducible assumption | with_reducible apply Lo.self | with_reducible apply Lo.new | with_reducible apply Lo.set | with_reducible apply Lo.self1 | with_reducible apply Lo.self2)); done) | (with_reducible apply Lo.ne'; (repeat (first | with_reducible assumption | with_reducible apply Lo.self | with_reducible apply Lo.new | with_reducible apply Lo.set | with_reducible apply Lo.self1 | with_reducible apply Lo.self2)); done) | (with_reducible apply Lo.ne1'; (repeat (first | with_reducible assumption | with_reducible apply Lo.self | with_reducible apply Lo.new | with_reducible apply Lo.set | with_reducible apply Lo.self1 | with_reducible apply Lo.self2)); done)); done))))); (· exact rfl); (· exact rfl))
      | (apply op_store_at; (· exact rfl); (· exact rfl); (· exact rfl); (· repeat (first | with_reducible assumption | (with_reducible apply obj_here; with_reducible rfl) | with_reducible apply obj_set | (with_reducible apply obj_skip_lo; (· ((repeat (first | with_reducible assumption | with_reducible apply Lo.self | with_reducible apply Lo.new | with_reducible apply Lo.set | with_reducible apply Lo.self1 | with_reducible apply Lo.self2)); done))) | (with_reducible apply obj_past; (· ((first | with_reducible assumption | with_reducible apply ne_add1 | with_reducible apply ne_add1' | with_reducible apply ne_add2 | with_reducible apply ne_add2' | with_reducible apply ne_add12 | with_reducible apply ne_add21 | (with_reducible apply Lo.ne; (repeat (first | with_reducible assumption | with_reducible apply Lo.self | with_reducible apply Lo.new | with_reducible apply Lo.set | with_reducible apply Lo.self1 | with_reducible apply Lo.self2)); done) | (with_reducible apply Lo.ne1; (repeat (first | with_reducible assumption | with_reducible apply Lo.self | with_reducible apply Lo.new | with_reducible apply Lo.set | with_reducible apply Lo.self1 | with_reducible apply Lo.self2)); done) | (with_reducible apply Lo.ne'; (repeat (first | with_reducible assumption | with_reducible apply Lo.self | with_reducible apply Lo.new | with_reducible apply Lo.set | with_reducible apply Lo.self1 | with_reducible apply Lo.self2)); done) | (with_reducible apply Lo.ne1'; (repeat (first | with_reducible assumption | with_reducible apply Lo.self | with_reducible apply Lo.new | with_reducible apply Lo.set | with_reducible apply Lo.self1 | with_reducible apply Lo.self2)); done)); done))))); (· exact rfl); (· exact rfl); (· exact rfl))
      | (apply op_at; (· exact opD_eqb rfl rfl rfl rfl))
      | (apply op_at; (· exact opD_neqb rfl rfl rfl rfl))
      | (apply op_at; (· exact rfl))
      | (apply dwp_cond_t; (· exact rfl); (· (first | with_reducible assumption | with_reducible rfl | decide)))
      | (apply dwp_cond_f; (· exact rfl); (· (first | with_reducible assumption | with_reducible rfl | decide)))
      | (refine dwp_cond rfl ?_ ?_ <;> intro hb)
      | apply dwp_block
      | apply dwp_skip
      | apply dwp_ret
      | apply dwp_exit
      | (refine ⟨_, rfl, ?_⟩)
      | fail)
  · have h200' : decide ((l.length : Int) > 200) = false := by simpa using h200
    have hn : l.length ≤ 200 := by simp only [decide_eq_false_iff_not] at h200'; omega
    refine enter rfl Try.func8 rfl Try.ntmps8 rfl ?_
    dsimp only [List.cons_append, List.nil_append, List.length_cons, List.length_nil, List.replicate_succ, List.replicate_zero, Nat.reduceAdd, Nat.reduceSub]
    repeat' (first
      | dsimp only [putD, DV.cells, DH.new_next, DH.set_next, List.length_cons, List.length_nil, Nat.reduceAdd, List.set_cons_zero, List.set_cons_succ, getD_zero, getD_succ, fieldAt_zero, fieldAt_succ, thenD, blockD, retR]
      | (apply drawp_read; (· (first | exact wanted_plain rfl | (apply wanted_on; (· exact rfl); (· exact rfl); (· (first | with_reducible assumption | with_reducible rfl | decide))))); (· exact rfl); (· exact rfl); (· decide +kernel); (· intro H' h; have h : Above _ _ := h; exact opD_load rfl rfl (h.obj (l := H.next) (by exact hlx4) (by exact hbx4)) (rfl) (item_part x)))
      | (apply drawp_read; (· (first | exact wanted_plain rfl | (apply wanted_on; (· exact rfl); (· exact rfl); (· (first | with_reducible assumption | with_reducible rfl | decide))))); (· exact rfl); (· exact rfl); (· decide +kernel); (· intro H' h; have h : Above _ _ := h; exact opD_load rfl rfl (h.obj (l := H.next + 1) (by exact hly4) (by exact hby4)) (rfl) (item_part y)))
      | (apply drawp_pure; (· (first | exact wanted_plain rfl | (apply wanted_on; (· exact rfl); (· exact rfl); (· (first | with_reducible assumption | with_reducible rfl | decide))))); (· exact rfl); (· exact rfl); (· exact opD_eqb rfl rfl rfl rfl))
      | apply dwp_seq
      | apply dwp_region
      | apply ops_nil
      | (apply ops_plain; (· exact rfl))
      | (apply ops_on; (· exact rfl); (· exact rfl); (· (first | with_reducible assumption | with_reducible rfl | decide)))
      | (apply ops_off1; (· exact rfl); (· exact rfl); (· (first | with_reducible assumption | with_reducible rfl | decide)))
      | (apply ops_off0; (· exact rfl); (· exact rfl); (· (first | with_reducible assumption | with_reducible rfl | decide)))
      | (apply ops_offn; (· exact rfl); (· exact rfl))
      | (apply ops_split1; (· exact rfl); (· exact rfl); all_goals intro hb)
      | (apply ops_split0; (· exact rfl); (· exact rfl); all_goals intro hb)
      | (apply op_call; (· exact rfl); (· exact rfl); (· exact rfl); refine call_table (g := gLive) rfl rfl ?_)
      | (apply op_call; (· exact rfl); (· exact rfl); (· exact rfl); refine (few23a _ (H.next + 2) p l.length c ex (obj_here rfl)).mono ?_; rintro r H1 ⟨rfl, b, rfl, hb0⟩; cases b)
      | (apply op_call; (· exact rfl); (· exact rfl); (· exact rfl); refine (sorted30 _ _ l hL2 (by omega)).mono ?_; rintro r3 H3 ⟨ab3, i3⟩; have hL3 := hL2.mono ab3)
      | (apply op_call; (· exact rfl); (· exact rfl); (· exact rfl); refine (find31 _ _ l q hL3).mono ?_; rintro r H4 ⟨rfl, ab4⟩; have hL4 := hL3.mono ab4; have hbx4 := (ab3.trans ab4).obj hlx2 hbx2; have hby4 := (ab3.trans ab4).obj hly2 hby2; have hlx4 := Nat.lt_of_lt_of_le hlx2 (ab3.trans ab4).le; have hly4 := Nat.lt_of_lt_of_le hly2 (ab3.trans ab4).le)
      | (apply op_call; (· exact rfl); (· exact rfl); (· exact rfl); refine call_table (g := gFind) rfl (gFind_t hL4) ?_)
      | (apply op_call; (· exact rfl); (· exact rfl); (· exact rfl); refine less_call33 ?_; refine ⟨Above.refl _, ?_⟩)
      | (apply op_call; (· exact rfl); (· exact rfl); (· exact rfl); refine less_call20 ?_; refine ⟨Above.refl _, ?_⟩)
      | (apply op_call; (· exact rfl); (· exact rfl); (· exact rfl); refine call_table (g := gCheck) rfl (check_t hL4) ?_; refine ⟨Above.refl _, ?_⟩)
      | (apply op_call; (· exact rfl); (· exact rfl); (· exact rfl); refine (CallWp.up up5 (sorted_c hL4 (by omega))).mono ?_; rintro r5 H5 ⟨ab5, i5⟩; refine ⟨ab5, ?_⟩)
      | (apply op_call; (· exact rfl); (· exact rfl); (· exact rfl); refine call_table (g := gSame) rfl (same_t ((i3.its.mono ab4).mono ab5) i5.its) ?_; refine ⟨ab5, ?_⟩)
      | (apply op_call; (· exact rfl); (· exact rfl); (· exact rfl); refine call_table (g := gSame) rfl (same_t (hL4.mono ab5) (((i2.mono ab3).mono ab4).mono ab5)) ?_; refine ⟨ab5, ?_⟩)
      | (apply op_pick_t; (· exact rfl); (· exact rfl); (· (first | with_reducible assumption | with_reducible rfl | decide)); (· exact rfl))
      | (apply op_pick_f; (· exact rfl); (· exact rfl); (· (first | with_reducible assumption | with_reducible rfl | decide)); (· exact rfl))
      | (refine op_append_fresh (xt := 23) rfl rfl rfl E23 ((hl.mono ham).appended Try.underlying23) (cells_all l) (by rw [List.length_map]; unfold mostD; omega) ?_; intro s10 H2 hm2 ab2 hfr2; have i2 : Its H2 s10 l := it_of_mine hm2 (by unfold maxLen; omega); have hL2 : Its H2 (.sl p l.length c ex) l := ⟨_, _, _, rfl, (hl.mono ham).mono ab2⟩; have hbx2 := ab2.obj hlt1 hbx; have hby2 := ab2.obj hlt2 hby; have hlx2 := Nat.lt_of_lt_of_le hlt1 ab2.le; have hly2 := Nat.lt_of_lt_of_le hlt2 ab2.le)
      | (apply op_load_at; (· exact rfl); (· exact rfl); (· repeat (first | with_reducible assumption | (with_reducible apply obj_here; with_reducible rfl) | with_reducible apply obj_set | (with_reducible apply obj_skip_lo; (· ((repeat (first | with_reducible assumption | with_reducible apply Lo.self | with_reducible apply Lo.new | with_reducible apply Lo.set | with_reducible apply Lo.self1 | with_reducible apply Lo.self2)); done))) | (with_reducible apply obj_past; (· ((first | with_reducible assumption | with_reducible apply ne_add1 | with_reducible apply ne_add1' | with_reducible apply ne_add2 | with_reducible apply ne_add2' | with_reducible apply ne_add12 | with_reducible apply ne_add21 | (with_reducible apply Lo.ne; (repeat (first | with_reducible assumption | with_reducible apply Lo.self | with_reducible apply Lo.new | with_reducible apply Lo.set | with_reducible apply Lo.self1 | with_reducible apply Lo.self2)); done) | (with_reducible apply Lo.ne1; (repeat (first | with_reducible assumption | with_reducible apply Lo.self | with_reducible apply Lo.new | with_reducible apply Lo.set | with_reducible apply Lo.self1 | with_reducible apply Lo.self2)); done) | (with_reducible apply Lo.ne'; (repeat (first | with_reducible assumption | with_reducible apply Lo.self | with_reducible apply Lo.new | with_reducible apply Lo.set | with_reducible apply Lo.self1 | with_reducible apply Lo.self2)); done) | (with_reducible apply Lo.ne1'; (repeat (first | with_reducible assumption | with_reducible apply Lo.self | with_reducible apply Lo.new | with_reducible apply Lo.set | with_reducible apply Lo.self1 | with_reducible apply Lo.self2)); done)); done))))); (· exact rfl); (· exact rfl))
      | (apply op_store_at; (· exact rfl); (· exact rfl); (· exact rfl); (· repeat (first | with_reducible assumption | (with_reducible apply obj_here; with_reducible rfl) | with_reducible apply obj_set | (with_reducible apply obj_skip_lo; (· ((repeat (first | with_reducible assumption | with_reducible apply Lo.self | with_reducible apply Lo.new | with_reducible apply Lo.set | with_reducible apply Lo.self1 | with_reducible apply Lo.self2)); done))) | (with_reducible apply obj_past; (· ((first | with_reducible assumption | with_reducible apply ne_add1 | with_reducible apply ne_add1' | with_reducible apply ne_add2 | with_reducible apply ne_add2' | with_reducible apply ne_add12 | with_reducible apply ne_add21 | (with_reducible apply Lo.ne; (repeat (first | with_reducible assumption | with_reducible apply Lo.self | with_reducible apply Lo.new | with_reducible apply Lo.set | with_reducible apply Lo.self1 | with_reducible apply Lo.self2)); done) | (with_reducible apply Lo.ne1; (repeat (first | with_reducible assumption | with_reducible apply Lo.self | with_reducible apply Lo.new | with_reducible apply Lo.set | with_reducible apply Lo.self1 | with_reducible apply Lo.self2)); done) | (with_reducible apply Lo.ne'; (repeat (first | with_reducible assumption | with_reducible apply Lo.self | with_reducible apply Lo.new | with_reducible apply Lo.set | with_reducible apply Lo.self1 | with_reducible apply Lo.self2)); done) | (with_reducible apply Lo.ne1'; (repeat (first | with_reducible assumption | with_reducible apply Lo.self | with_reducible apply Lo.new | with_reducible apply Lo.set | with_reducible apply Lo.self1 | with_reducible apply Lo.self2)); done)); done))))); (· exact rfl); (· exact rfl); (· exact rfl))
      | (apply op_at; (· exact opD_eqb rfl rfl rfl rfl))
      | (apply op_at; (· exact opD_neqb rfl rfl rfl rfl))
      | (apply op_at; (· exact rfl))
      | refine dwp_drawp _ rfl (fun H' => Above _ H') (Above.refl _) ?_
      | apply drawp_nil
      | apply tand
      | (apply drawp_pick_t; (· (first | exact wanted_plain rfl | (apply wanted_on; (· exact rfl); (· exact rfl); (· (first | with_reducible assumption | with_reducible rfl | decide))))); (· exact rfl); (· exact rfl); (· (first | with_reducible assumption | with_reducible rfl | decide)); (· exact rfl))
      | (apply drawp_pick_f; (· (first | exact wanted_plain rfl | (apply wanted_on; (· exact rfl); (· exact rfl); (· (first | with_reducible assumption | with_reducible rfl | decide))))); (· exact rfl); (· exact rfl); (· (first | with_reducible assumption | with_reducible rfl | decide)); (· exact rfl))
      | (apply drawp_pure; (· (first | exact wanted_plain rfl | (apply wanted_on; (· exact rfl); (· exact rfl); (· (first | with_reducible assumption | with_reducible rfl | decide))))); (· exact rfl); (· exact rfl); (· exact rfl))
      | (apply drawp_sync_st (fun _ => True); (· exact rfl); (· (first | exact wanted_plain rfl | (apply wanted_on; (· exact rfl); (· exact rfl); (· (first | with_reducible assumption | with_reducible rfl | decide))))); (· decide +kernel))
      | (apply drawp_move; (· (first | exact wanted_plain rfl | (apply wanted_on; (· exact rfl); (· exact rfl); (· (first | with_reducible assumption | with_reducible rfl | decide))))); (· exact rfl); (· decide +kernel))
      | (apply drawp_off; (· (first | (apply wanted_off1; (· exact rfl); (· exact rfl); (· (first | with_reducible assumption | with_reducible rfl | decide))) | (apply wanted_off0; (· exact rfl); (· exact rfl); (· (first | with_reducible assumption | with_reducible rfl | decide))) | (apply wanted_none; (· exact rfl); (· exact rfl)))))
      | (apply dwp_cond_t; (· exact rfl); (· (first | with_reducible assumption | with_reducible rfl | decide)))
      | (apply dwp_cond_f; (· exact rfl); (· (first | with_reducible assumption | with_reducible rfl | decide)))
      | (refine dwp_cond rfl ?_ ?_ <;> intro hb)
      | apply dwp_block
      | apply dwp_skip
      | apply dwp_ret
      | apply dwp_exit
      | (refine ⟨_, rfl, ?_⟩)
      | fail)
    rw [nH]
theorem row8 (H : DH) (hr : RO H) (hw : WF H) (xs : List DV) (hx : TArgs Try.prog H [26, 26, 23, 24] xs) : ∃ k H', callD Try.prog X5 k 8 xs H = some (.bool true, H') := by
  match xs, hx with
  | [a, b, d, e], ⟨h1, h2, h3, h4, _⟩ =>
    obtain ⟨x, rfl, _⟩ := item_arg h1
    obtain ⟨y, rfl, _⟩ := item_arg h2
    obtain ⟨p, c, ex, l, rfl, hl, _⟩ := items_in hw h3
    obtain ⟨q, rfl, _⟩ := u64_arg h4
    obtain ⟨k, r, H', hk, rfl⟩ := (law8 H x y p c ex l q hl).ex
    exact ⟨k, H', hk⟩
end Go.Det.Q

/- HeapTells answers true, whatever it is handed; nothing is asked of the arguments but their types. -/
namespace Go.Proofs.Ytpgobchpnjgbdaa.heapTells
open Go Go.Det Go.Det.Q Go.ChangeShapes Go.WideShapes Go.ChangeAt Go.RowKit
set_option linter.unusedVariables false
set_option linter.unusedSimpArgs false
theorem own : ownKnob Try.prog.godebug = none := by kernel_rfl
theorem laidOut : laidOutB Try.prog = true := by kernel_rfl
set_option maxRecDepth 100000 in
theorem lifted (os : Os) (started : os.Started) (H : Type) (enc : TypeId × Value → H) :
    ReturnsInHanded {} Try.checked os 8 .any (Rows.heapTellsSpec.pre6 enc Try.prog Try.f8 Rows.heapTellsRow.domain false) (Rows.heapTellsSpec.post enc Try.prog Try.f8 false true false false) := by
  exact row_law (C := Try.checked) (X := X5) (ts := [26, 26, 23, 24]) (rt := 4) (n := 5) own started (by kernel_rfl) Try.func8
    (ChangeSpec.witness6 (enc := enc) (C := Try.checked) false ⟨#[], #[.agg #[.int .i64 0, .int .i64 0, .int .u64 0, .int .i64 0, .int .i64 0, .int .u64 0], .agg #[.int .i64 0, .int .i64 0, .int .u64 0, .int .i64 0, .int .i64 0, .int .u64 0], .slice none 0 0, .int .u64 0], []⟩ 8 (by kernel_rfl) (by kernel_rfl) (by kernel_rfl) (by kernel_rfl))
    rfl okX5 rfl Try.params8 rfl Try.underlying4 (by kernel_rfl) (by kernel_rfl) laidOut rfl
    (by intro ds h; match ds, h with | [_, _, _, _], _ => rfl)
    (fun H xs hr hw hx => row8 H hr hw xs hx)
theorem over : Rows.heapTellsRow.holds Try.pinned (OpenSpec.ofChange Rows.heapTellsSpec) :=
  OpenClaim.holds_of_wide 8 Try.f8 rfl rfl rfl rfl rfl rfl rfl ⟨rfl, rfl, rfl, rfl, rfl⟩ rfl rfl rfl rfl rfl (by kernel_rfl) Try.func8 (by kernel_rfl)
    (of_decide_eq_true (by kernel_rfl)) (by unfold Func.isWrapper; first | (rw [if_pos (by decide +kernel)]; kernel_rfl) | (rw [if_neg (by decide +kernel)]; exact ⟨rfl, rfl⟩))
    (fun os started H enc _ => lifted os started H enc)
theorem proved : Rows.HeapTellsSaid := over
end Go.Proofs.Ytpgobchpnjgbdaa.heapTells
namespace Go.Proofs.Ytpgobchpnjgbdaa
/-- The row, under a short name, for the claim. -/
theorem heapTells_holds : Rows.HeapTellsSaid := heapTells.proved
#print axioms heapTells_holds
end Go.Proofs.Ytpgobchpnjgbdaa
