/- Stores, new slices and maps, iterators, strings as bytes. -/
import Derived.Test.YtphnddoneocfhaaD9
namespace Go.Det
set_option linter.unusedVariables false
set_option linter.unusedSimpArgs false

section
variable {P : Program} {ρ : Rho}

theorem Agree.rows_sz {H : DH} {w : World} (ha : Agree ρ H w) {l : Nat} {ro : Bool} {sz : Nat} {rs : List (List DV)} (ho : H.obj l = some (.rows ro sz rs)) {pl : Pl} (hp : ρ l = some pl) :
    pl.sz = sz ∧ rs.length ≤ pl.tot ∧ (∀ (i : Nat) (r : List DV), rs[i]? = some r → r.length = sz) ∧ ObjR ρ pl w.heap[pl.block]? (.rows ro sz rs) := by
  obtain ⟨pl', hp', h⟩ := ha.obj l _ ho
  rw [hp] at hp'
  cases hp'
  exact ⟨h.1, h.2.1, fun i r hr => (h.2.2.1 i r hr).1, h⟩

theorem store_sound {H H' : DH} {w : World} (ha : Agree ρ H w) {t : TypeId} {x y : DV} {a v : Value} (h : storeD P t H x y = some H') (hx : VR ρ x a) (hy : VR ρ y v) :
    ∃ w', (Instr.storeAt t a v).run P w = .ok () w' ∧ Moves ρ H w ρ H' w' := by
  unfold storeD at h
  split at h
  · rename_i l i o n hs
    split at h
    · rename_i sz rs ho
      split at h
      · rename_i hn
        cases hset : setRow rs i o y.cells with
        | none => rw [hset] at h; cases h
        | some rs' =>
          rw [hset] at h
          cases h
          simp only [VR] at hx
          obtain ⟨pl, hp, rfl⟩ := hx
          obtain ⟨h1, h2, h3, h4⟩ := ha.rows_sz ho hp
          obtain ⟨hpat, hlen, hi, hle, hall⟩ := patched_row h3 hset
          have hyc := VR.cells hy
          have hyl := VRs.length hyc
          have hb : i * sz + o + y.cells.length ≤ pl.tot * sz := by
            have : (i + 1) * sz ≤ pl.tot * sz := Nat.mul_le_mul_right _ (by omega)
            rw [Nat.add_mul] at this
            omega
          obtain ⟨hrun, hobj⟩ := obj_write (P := P) h4 hpat (by omega) hb hyc hall
          have hadr : pl.addr i o = ⟨pl.block, pl.off + (i * sz + o), none⟩ := by unfold Pl.addr; rw [h1]; simp only [Addr.mk.injEq, and_true, true_and]; omega
          refine ⟨_, ?_, moves_set ha ho rfl rfl hp (setCells_one _ _ _ _) hobj⟩
          have hsz : v.cells.size = n := by simp at hyl; omega
          simp only [Instr.storeAt, Instr.sureAddr, Sem.run_bind, Sem.run_pure, Result.andThen_ok, storeVar, r_sizeOf hs]
          rw [if_neg (by simpa using hsz), hadr]
          exact hrun
      · cases h
    · cases h
  · cases h

theorem makeSlice_sound {H H' : DH} {w : World} (ha : Agree ρ H w) {t : TypeId} {x y d : DV} {vl vc : Value} (h : makeSliceD P t H x y = some (d, H')) (hx : VR ρ x vl) (hy : VR ρ y vc) : Made P ρ H w (Instr.makeSlice t vl vc) d H' := by
  unfold makeSliceD at h
  split at h
  · rename_i e k l j c hu
    split at h
    · rename_i z sz by_ hz hs hby
      split at h
      · rename_i hc
        obtain ⟨h0, hlc, hcm, hb, hzl, hz1⟩ := hc
        cases h
        simp only [VR] at hx hy
        subst hx; subst hy
        have hcm' : c ≤ 2147483648 := by simpa [mostD] using hcm
        obtain ⟨zv, hzr, hzv⟩ := r_zero hz ρ w
        replace hs : sizeT P e = some (sz + 1) := hs
        have hzc := zero_cells (VR.cells hzv) hzl c.toNat
        obtain ⟨i, hi, hib⟩ : ∃ i, P.info? e = some i ∧ i.bytes = by_ := by
          unfold bytesT at hby
          cases hi : P.info? e with
          | none => rw [hi] at hby; cases hby
          | some i => rw [hi] at hby; simp at hby; exact ⟨i, rfl, hby⟩
        have hrl : ∀ r ∈ zerosD z.cells c.toNat, r.length = sz + 1 := by intro r hr; rw [(List.mem_replicate.mp hr).2]; exact hzl
        have hzlen : (zerosD z.cells c.toNat).length = c.toNat := by simp [zerosD]
        have hm := moves_rows ha (c := (Array.range (c.toNat * (sz + 1))).map (zv.cells[· % zv.cells.size]!)) (t := e) (sz := sz + 1) (tot := c.toNat) hrl (by
            rw [flat_all, List.all_eq_true]; intro r hr; rw [(List.mem_replicate.mp hr).2]; exact hz1) (by
            rw [hzlen]
            have : ∀ (A : Array Value), A.size = c.toNat * (sz + 1) → A.toList.take (c.toNat * (sz + 1)) = A.toList := by
              intro A hA; rw [← hA, ← Array.length_toList, List.take_length]
            rw [this _ (by simp)]
            exact hzc) (by omega) (by simp)
        refine ⟨.slice (some ⟨w.heap.size, 0, none⟩) l.toNat c.toNat, _, _, ?_, ?_, hm⟩
        · have hlw := wrap_small h0 (by omega)
          have hcw := wrap_small (n := c) (by omega) hcm'
          have hprod : (i.bytes : Int) * c ≤ 4096 * 2147483648 := by
            have h1 : (i.bytes : Int) ≤ 4096 := by omega
            have h2 : 0 ≤ c := by omega
            exact Int.mul_le_mul h1 hcm' h2 (by omega)
          have hn1 : ¬ ((decide (c < 0) || decide ((i.bytes : Int) * c > 2 ^ 48) || decide (l < 0) || decide (l > c)) = true) := by
            simp; omega
          simp only [Instr.makeSlice, Sem.run_bind, r_underlying hu, Result.andThen_ok, asInt, asIntOf, Sem.run_pure, r_info hi, hlw, hcw]
          rw [if_neg hn1]
          simp only [Sem.run_bind, run_askRoom, Result.andThen_ok, r_sizeOf hs]
          by_cases hn0 : c.toNat * (sz + 1) = 0
          · have r0 : Array.range 0 = (#[] : Array Nat) := by apply Array.ext'; simp
            simp [hn0, newRow, r0]
          · simp [hn0, hzr, newRow]
        · simp only [VR]
          exact ⟨_, _, _, Rho.add_same _ _ _, rfl, rfl, by omega, Nat.le_refl _, fun _ => rfl, by simp, .inr (by simp [Pl.addr])⟩
      · cases h
    · cases h
  · cases h

theorem obj_plain {H : DH} {w : World} (ha : Agree ρ H w) (o : Obj) (d : DObj) (h : ∀ ρ', ObjR ρ' ⟨w.heap.size, 0, 0, 0⟩ (some o) d) :
    Moves ρ H w (ρ.add H.next ⟨w.heap.size, 0, 0, 0⟩) (H.new d) { w with heap := w.heap.push o } :=
  moves_new ha o d ⟨w.heap.size, 0, 0, 0⟩ rfl (h _)

theorem makeMap_sound {H : DH} {w : World} (ha : Agree ρ H w) {t k e : TypeId} (hu : P.underlying t = some (.map k e)) (r : Option Value) (hr : ∀ v, r = some v → ∃ j n, v = .int j n) : Made P ρ H w (Instr.makeMap t r) (.map (some H.next)) (H.new (.map [])) := by
  have hm := obj_plain ha (.map #[] 0) (.map []) (fun ρ' => ⟨#[], 0, rfl, .nil⟩)
  refine ⟨.map (some w.heap.size), _, _, ?_, ?_, hm⟩
  · cases r with
    | none => simp [Instr.makeMap]
    | some v =>
      obtain ⟨j, n, rfl⟩ := hr v rfl
      simp [Instr.makeMap, r_underlying hu, asInt, asIntOf]
  · simp only [VR]
    exact ⟨_, Rho.add_same _ _ _, rfl⟩

theorem range_sound {H : DH} {w : World} (ha : Agree ρ H w) {t : TypeId} (hu : P.underlying t = some .string) (s : List UInt8) : Made P ρ H w (Instr.range t (.string ⟨s.toArray⟩)) (.ptr (some (H.next, 0, 0))) (H.new (.iter s 0)) := by
  have hm := obj_plain ha (.stringIter ⟨s.toArray⟩ 0) (.iter s 0) (fun ρ' => ⟨rfl, rfl, rfl⟩)
  refine ⟨.pointer (some ⟨w.heap.size, 0, none⟩), _, _, ?_, ?_, hm⟩
  · simp [Instr.range, r_underlying hu]
  · simp only [VR]
    exact ⟨_, Rho.add_same _ _ _, by simp [Pl.addr]⟩

theorem oneBlock_set (w : World) (b : Nat) (o : Obj) : OneBlock w { w with heap := w.heap.setIfInBounds b o } b :=
  ⟨rfl, rfl, rfl, by simp, fun k hk => by simp only [Array.getElem?_setIfInBounds]; rw [if_neg (fun e => hk e.symm)]⟩

theorem next_sound {H H' : DH} {w : World} (ha : Agree ρ H w) {x d : DV} {v : Value} (h : nextD H x = some (d, H')) (hx : VR ρ x v) (ty : TypeId) : Made P ρ H w (Instr.next v true ty) d H' := by
  unfold nextD at h
  split at h
  · rename_i l
    split at h
    · rename_i s pos ho
      simp only [VR] at hx
      obtain ⟨pl, hp, rfl⟩ := hx
      obtain ⟨pl', hp', hb, hoff, hsz⟩ := ha.obj l _ ho
      rw [hp] at hp'
      cases hp'
      have hg : (getObj pl.block).run P w = .ok (.stringIter ⟨s.toArray⟩ pos) w := by simp [getObj, Sem.run, hb]
      have hadr : pl.addr 0 0 = ⟨pl.block, 0, none⟩ := by unfold Pl.addr; rw [hoff]; simp
      rw [hadr]
      split at h
      · rename_i hpos
        split at h
        rename_i c width hdec
        cases h
        have hlt := ha.lies l pl hp
        refine ⟨.tuple #[.bool true, goInt pos, .int .i32 c], { w with heap := w.heap.setIfInBounds pl.block (.stringIter ⟨s.toArray⟩ (pos + width)) }, ρ, ?_, ?_, ?_⟩
        · have hs : (setObj pl.block (.stringIter ⟨s.toArray⟩ (pos + width))).run P w = .ok () { w with heap := w.heap.setIfInBounds pl.block (.stringIter ⟨s.toArray⟩ (pos + width)) } := by
            simp [setObj, Sem.run, hb]
          simp only [Instr.next, Sem.run_bind, hg, Result.andThen_ok, size_mk]
          rw [if_pos hpos, hdec]
          simp only [Sem.run_bind, hs, Result.andThen_ok, Sem.run_pure]
        · simp only [VR]
          exact ⟨_, rfl, .cons (VR_bool _) (.cons (VR_int _ _) (.one (VR_int _ _)))⟩
        · refine moves_set ha ho rfl rfl hp (oneBlock_set _ _ _) ⟨?_, hoff, hsz⟩
          simp [Array.getElem?_setIfInBounds, hlt]
      · rename_i hpos
        cases h
        refine ⟨.tuple #[.bool false], w, ρ, ?_, ?_, Moves.refl ha⟩
        · simp only [Instr.next, Sem.run_bind, hg, Result.andThen_ok, size_mk]
          rw [if_neg hpos]
          rfl
        · simp only [VR]
          exact ⟨_, rfl, .one (VR_bool _)⟩
    · cases h
  · cases h

theorem bytes_rows (s : List UInt8) : VRs ρ (s.map fun b => [DV.int .u8 b.toNat]).flatten ((s.toArray.map fun b => Value.int .u8 b.toNat).toList) := by
  induction s with
  | nil => simp [VRs]
  | cons b s ih => simp only [List.map_cons, List.flatten_cons, List.singleton_append, Array.toList_map] at ih ⊢; exact .cons (VR_int _ _) ih

theorem strBytes_sound {H : DH} {w : World} (ha : Agree ρ H w) {s t e : TypeId} {td : TypeDesc} (hs : P.underlying s = some td) (ht : P.underlying t = some (.slice e)) (he : P.underlying e = some (.int .u8)) (l : List UInt8) :
    Made P ρ H w (convert s t (.string ⟨l.toArray⟩)) (.sl (some (H.next, 0, 1)) l.length l.length false) (H.new (.rows false 1 (l.map fun b => [.int .u8 b.toNat]))) := by
  let cap := (Question.appendCap l.length 0 e).cut (w.tape w.drawn (.appendCap l.length 0 e))
  have hcap : l.length ≤ cap := by simp only [cap, Question.cut]; exact Nat.le_add_right _ _
  let c : Array Value := (l.toArray.map fun b => Value.int .u8 b.toNat) ++ Array.replicate (cap - l.length) (.int .u8 0)
  have hcs : c.size = cap := by simp [c]; omega
  have ha' := ha.drew
  have hobj : ObjR (ρ.add H.next ⟨w.heap.size, 0, 1, cap⟩) ⟨w.heap.size, 0, 1, cap⟩ (some (.cells c e (cap, cap + 1))) (.rows false 1 (l.map fun b => [.int .u8 b.toNat])) := by
    refine obj_new (by simp) (by simp [flat_all, DV.one]) ?_ (by simpa using hcap) (by simp [hcs]) (by intro k hk; simp; omega)
    have : c.toList.take ((l.map fun b => [DV.int .u8 b.toNat]).length * 1) = (l.toArray.map fun b => Value.int .u8 b.toNat).toList := by simp [c]
    rw [this]
    exact bytes_rows l
  have hm := moves_new ha' (.cells c e (cap, cap + 1)) _ ⟨w.heap.size, 0, 1, cap⟩ rfl hobj
  refine ⟨.slice (some ⟨w.heap.size, 0, none⟩) l.length cap, _, _, ?_, ?_, (Moves.drew ha).trans hm⟩
  · have hsz : (⟨l.toArray⟩ : ByteArray).size = l.length := size_mk l
    have hconv : (convert s t (.string ⟨l.toArray⟩)).run P w = (Conv.stringToBytes e ⟨l.toArray⟩).run P w := by
      cases td <;> simp [convert, r_underlying hs, r_underlying ht, r_underlying he]
    rw [hconv]
    simp only [Conv.stringToBytes, Sem.run_bind, run_choose, hsz]
    have hnf : (Question.appendCap l.length 0 e).forced = false := rfl
    rw [hnf]
    simp only [Bool.false_eq_true, if_false, Result.andThen_ok]
    show ((newRow e c).run P { w with drawn := w.drawn + 1 }).andThen _ = _
    simp only [newRow, Sem.run_bind, run_newObj, Result.andThen_ok, Sem.run_pure, markStringish, run_shape, World.shape?]
    simp only [Array.getElem?_push_size]
    simp only [run_freeze, Result.andThen_ok, Sem.run_pure, World.freeze]
    rw [if_neg (by omega)]
    congr 2
    apply Array.ext_getElem?
    intro k
    simp only [Array.getElem?_modify, Array.getElem?_push]
    by_cases e : w.heap.size = k
    · subst e; simp [hcs]
    · rw [if_neg e]
      by_cases e2 : k = w.heap.size
      · exact absurd e2.symm e
      · simp [e2]
  · simp only [VR]
    exact ⟨_, _, _, Rho.add_same _ _ _, rfl, rfl, Nat.le_refl _, hcap, (by simp), (by simp), .inr (by simp [Pl.addr])⟩

end
end Go.Det
