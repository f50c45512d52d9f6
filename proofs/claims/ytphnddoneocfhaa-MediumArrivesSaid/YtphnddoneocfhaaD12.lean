/- append, and all operations that write or make memory. -/
import Derived.Test.YtphnddoneocfhaaD11
namespace Go.Det
set_option linter.unusedVariables false
set_option linter.unusedSimpArgs false

section
variable {P : Program} {ρ : Rho}

theorem growBy_le (n : Nat) : ∀ (r c : Nat), Builtin.growBy n r c ≤ (c + 768) * 2 ^ r
  | 0, c => by simp [Builtin.growBy]
  | r + 1, c => by
    simp only [Builtin.growBy]
    split
    · have : 1 ≤ 2 ^ (r + 1) := Nat.one_le_two_pow
      have : (c + 768) * 1 ≤ (c + 768) * 2 ^ (r + 1) := Nat.mul_le_mul_left _ this
      omega
    · have h := growBy_le n r (c + (c + 768) / 4)
      refine Nat.le_trans h ?_
      rw [Nat.pow_succ, Nat.mul_comm (2 ^ r) 2, ← Nat.mul_assoc]
      exact Nat.mul_le_mul_right _ (by omega)

theorem nextslicecap_le {need old : Nat} (h1 : need ≤ 2147483648) (h2 : old < need) : Builtin.nextslicecap need old ≤ 34359750656 := by
  unfold Builtin.nextslicecap
  split
  · omega
  · split
    · omega
    · have h := growBy_le need 4 old
      have e : 2 ^ 4 = 16 := rfl
      rw [e] at h
      generalize Builtin.growBy need 4 old = g at h ⊢
      exact Nat.le_trans h (by omega)

/-- What append comes to, by the room that there is. -/
structure AppRun (P : Program) (w : World) (s : Sem Value) (e : TypeId) (sz : Nat) (base : Option Addr) (sLen sCap n : Nat) (nc : Array Value) : Prop where
  room : sLen + n ≤ sCap → s.run P w = ((match base with | some a => storeCells (a.add (sLen * (sz + 1))) nc.toList | none => pure () : Sem Unit).run P w).andThen fun _ w' => .ok (.slice base (sLen + n) sCap) w'
  grow : sCap < sLen + n → sLen + n ≤ 2147483648 → ∀ (oc : Array Value) (zv : Value), (∀ w1 : World, w1.heap = w.heap → (Builtin.firstCells (sz + 1) sLen (.slice base sLen sCap)).run P w1 = .ok oc w1) → (∀ w1, (zeroValue e).run P w1 = .ok zv w1) →
    ∃ newCap, sLen + n ≤ newCap ∧ s.run P w = .ok (.slice (some ⟨w.heap.size, 0, none⟩) (sLen + n) newCap) { w with drawn := w.drawn + 1, heap := w.heap.push (.cells (oc ++ nc ++ Builtin.zeroCells zv.cells (newCap - (sLen + n))) e (0, 0)) }

theorem append_run_false {st xt ty e : TypeId} {td : TypeDesc} (hu : P.underlying st = some (.slice e)) (hxt : P.underlying xt = some td) (hni : ∀ k, td ≠ .int k) {sz : Nat} (hsz : sizeT P e = some (sz + 1)) {i : TypeInfo} (hi : P.info? e = some i) (hb : i.bytes ≤ 4096) (hb0 : sz + 1 ≠ 0)
    (base : Option Addr) (sLen sCap : Nat) {vx : Value} {n : Nat} {nc : Array Value} (w : World) (hn : (Builtin.lenOf vx).run P w = .ok n w) (happ : ∀ w1 : World, w1.heap = w.heap → (Builtin.firstCells (sz + 1) n vx).run P w1 = .ok nc w1) :
    AppRun P w (Builtin.append_ #[st, xt] ty #[.slice base sLen sCap, vx]) e sz base sLen sCap n nc := by
  have hstart : (Builtin.append_ #[st, xt] ty #[.slice base sLen sCap, vx]).run P w = (Builtin.append_ #[st, xt] ty #[.slice base sLen sCap, vx]).run P w := rfl
  constructor
  · intro hroom
    simp only [Builtin.append_, List.getElem?_toArray, List.getElem?_cons_zero, List.getElem?_cons_succ, Sem.run_bind, r_underlying hu, r_underlying hxt, Result.andThen_ok, r_sizeOf hsz, Sem.run_pure]
    generalize hz : (match td with | TypeDesc.int k => true | x => false) = zeros
    have : zeros = false := by rw [← hz]; cases td <;> first | rfl | exact absurd rfl (hni _)
    subst this
    simp only [Bool.false_eq_true, if_false, Bool.not_false, if_true, Sem.run_bind, hn, Result.andThen_ok, if_pos hroom, happ w rfl]
    cases base <;> simp
  · intro hgrow hlim oc zv hoc hzv
    refine ⟨(Question.appendCap (sLen + n) sCap e).cut (w.tape w.drawn (.appendCap (sLen + n) sCap e)), by simp only [Question.cut]; exact Nat.le_add_right _ _, ?_⟩
    simp only [Builtin.append_, List.getElem?_toArray, List.getElem?_cons_zero, List.getElem?_cons_succ, Sem.run_bind, r_underlying hu, r_underlying hxt, Result.andThen_ok, r_sizeOf hsz, Sem.run_pure]
    generalize hz : (match td with | TypeDesc.int k => true | x => false) = zeros
    have : zeros = false := by rw [← hz]; cases td <;> first | rfl | exact absurd rfl (hni _)
    subst this
    have h1 : ¬ (sLen + n ≤ sCap) := by omega
    have h2 : ¬ (((sLen + n : Nat) : Int) > IntKind.i64.max ∧ (False ∨ i.bytes = 0)) := by
      have : IntKind.i64.max = 9223372036854775807 := by rfl
      rw [this]; omega
    have h3 : ¬ (Builtin.nextslicecap (sLen + n) sCap * i.bytes > 2 ^ 48) := by
      have := nextslicecap_le hlim hgrow
      have := Nat.mul_le_mul this hb
      omega
    have hnf : (Question.appendCap (sLen + n) sCap e).forced = false := rfl
    simp only [Bool.false_eq_true, if_false, Bool.not_false, if_true, Sem.run_bind, hn, Result.andThen_ok, if_neg h1, r_info hi, if_neg h2, if_neg h3, run_choose, hnf, run_askRoom]
    rw [hoc { w with drawn := w.drawn + 1 } rfl]
    simp only [Result.andThen_ok]
    rw [happ { w with drawn := w.drawn + 1 } rfl]
    simp only [Result.andThen_ok, hzv, newRow, Sem.run_bind, run_newObj, Sem.run_pure]

theorem append_run_true {st xt ty e : TypeId} {k j : IntKind} (hu : P.underlying st = some (.slice e)) (hxt : P.underlying xt = some (.int k)) {sz : Nat} (hsz : sizeT P e = some (sz + 1)) {i : TypeInfo} (hi : P.info? e = some i) (hb : i.bytes ≤ 4096)
    (base : Option Addr) (sLen sCap : Nat) {n : Int} (h0 : 0 ≤ n) (hm : n ≤ 2147483648) (w : World) {zv : Value} (hzv : ∀ w1, (zeroValue e).run P w1 = .ok zv w1) (hzs : zv.cells.size = sz + 1) :
    AppRun P w (Builtin.append_ #[st, xt] ty #[.slice base sLen sCap, .int j n]) e sz base sLen sCap n.toNat (Builtin.zeroCells zv.cells n.toNat) := by
  have hw := wrap_small h0 hm
  have hprod : n * (i.bytes : Int) ≤ 2147483648 * 4096 := Int.mul_le_mul hm (by omega) (by omega) (by omega)
  have hn' : ¬ n < 0 := by omega
  have hp' : ¬ n * (i.bytes : Int) > 2 ^ 48 := by omega
  have happ : ∀ w1 : World, (if n.toNat * (sz + 1) = 0 then pure #[] else (do pure (Builtin.zeroCells (← zeroValue e).cells n.toNat)) : Sem (Array Value)).run P w1 = .ok (Builtin.zeroCells zv.cells n.toNat) w1 := by
    intro w1
    split
    · rename_i hz
      have : n.toNat = 0 := by
        rcases Nat.mul_eq_zero.mp hz with h | h
        · exact h
        · omega
      have r0 : Array.range 0 = (#[] : Array Nat) := by apply Array.ext'; simp
      simp [this, Builtin.zeroCells, r0]
    · simp [hzv]
  constructor
  · intro hroom
    simp only [Builtin.append_, List.getElem?_toArray, List.getElem?_cons_zero, List.getElem?_cons_succ, Sem.run_bind, r_underlying hu, r_underlying hxt, Result.andThen_ok, r_sizeOf hsz, Sem.run_pure, if_true, asInt, asIntOf, hw, if_neg hn', r_info hi, if_neg hp', if_pos hroom, Bool.not_true, Bool.false_eq_true, if_false, happ w]
    cases base <;> simp
  · intro hgrow hlim oc zv' hoc hzv'
    refine ⟨(Question.appendCap (sLen + n.toNat) sCap e).cut (w.tape w.drawn (.appendCap (sLen + n.toNat) sCap e)), by simp only [Question.cut]; exact Nat.le_add_right _ _, ?_⟩
    have h1 : ¬ (sLen + n.toNat ≤ sCap) := by omega
    have h2 : ¬ (((sLen + n.toNat : Nat) : Int) > IntKind.i64.max ∧ (True ∨ i.bytes = 0)) := by
      have : IntKind.i64.max = 9223372036854775807 := by rfl
      rw [this]; omega
    have h3 : ¬ (Builtin.nextslicecap (sLen + n.toNat) sCap * i.bytes > 2 ^ 48) := by
      have := nextslicecap_le hlim hgrow
      have := Nat.mul_le_mul this hb
      omega
    have hnf : (Question.appendCap (sLen + n.toNat) sCap e).forced = false := rfl
    simp only [Builtin.append_, List.getElem?_toArray, List.getElem?_cons_zero, List.getElem?_cons_succ, Sem.run_bind, r_underlying hu, r_underlying hxt, Result.andThen_ok, r_sizeOf hsz, Sem.run_pure, if_true, asInt, asIntOf, hw, if_neg hn', r_info hi, if_neg hp', if_neg h1, if_neg h2, if_neg h3, Bool.not_true, Bool.false_eq_true, if_false, run_choose, hnf, run_askRoom]
    rw [hoc { w with drawn := w.drawn + 1 } rfl]
    simp only [Result.andThen_ok]
    rw [happ]
    simp only [Result.andThen_ok, hzv', newRow, Sem.run_bind, run_newObj, Sem.run_pure]

theorem appended_sound {st xt ty e : TypeId} {H : DH} {w : World} (ha : Agree ρ H w) {td : TypeDesc} (hu : P.underlying st = some (.slice e)) (hxt : P.underlying xt = some td) {x : DV} {vx : Value} {new : List (List DV)} {sz : Nat} (h : appendedD P e H (some td) x = some new) (hx : VR ρ x vx) (hs : sizeT P e = some (sz + 1)) (hr : ∀ r ∈ new, r.length = sz + 1)
    {i : TypeInfo} (hi : P.info? e = some i) (hb : i.bytes ≤ 4096) (base : Option Addr) (sLen sCap : Nat) :
    ∃ nc : Array Value, VRs ρ new.flatten nc.toList ∧ AppRun P w (Builtin.append_ #[st, xt] ty #[.slice base sLen sCap, vx]) e sz base sLen sCap new.length nc := by
  cases x with
  | int j n =>
    cases td with
    | int k =>
      simp only [appendedD] at h
      split at h
      · rename_i hc
        cases hz : zeroT P e with
        | none => rw [hz] at h; cases h
        | some z =>
          rw [hz] at h
          simp only at h
          split at h
          · rename_i hzs
            cases h
            simp only [VR] at hx
            subst hx
            have hm : n ≤ 2147483648 := by simpa [mostD] using hc.2
            have hlen : (zerosD z.cells n.toNat).length = n.toNat := by simp [zerosD]
            obtain ⟨i', v', hi', hz', hv'⟩ := zeroT_value hz
            have hrun : ∀ w1, (zeroValue e).run P w1 = .ok v' w1 := by intro w1; simp [zeroValue, r_info hi', hz']
            have hzv := ofValue_sound ρ hv'
            rw [hlen]
            have hzl : z.cells.length = sz + 1 := by rw [hs] at hzs; simpa using hzs.symm
            have hvl := VRs.length (VR.cells hzv)
            exact ⟨_, zeroCells_sound hzv hzl _, append_run_true hu hxt hs hi hb base sLen sCap hc.1 hm w hrun (by simp at hvl; omega)⟩
          · cases h
      · cases h
    | _ => simp [appendedD] at h
  | str s =>
    cases td with
    | string =>
      simp only [appendedD] at h
      cases h
      simp only [VR] at hx
      subst hx
      have hlen : (s.map fun b => [DV.int .u8 b.toNat]).length = s.length := by simp
      rw [hlen]
      refine ⟨s.toArray.map fun b => Value.int .u8 b.toNat, bytes_rows s, append_run_false hu hxt (by intro k h; cases h) hs hi hb (by omega) base sLen sCap w (by simp [Builtin.lenOf, size_mk]) ?_⟩
      intro w1 _
      have : (⟨s.toArray⟩ : ByteArray).extract 0 s.length = ⟨s.toArray⟩ := by
        rw [extract_mk]; simp
      simp [Builtin.firstCells, this]
    | _ => simp [appendedD] at h
  | sl p n c ex =>
    have hni : ∀ k, td ≠ .int k := by intro k hk; subst hk; simp [appendedD] at h
    have h' : rowsOf H (.sl p n c ex) = some new := by
      cases td <;> first | exact h | exact absurd rfl (hni _)
    clear h
    unfold rowsOf at h'
    cases p with
    | none =>
      simp only [VR] at hx
      obtain ⟨rfl, rfl, rfl⟩ := hx
      simp only at h'
      cases h'
      exact ⟨#[], .nil, append_run_false hu hxt hni hs hi hb (by omega) base sLen sCap w (by simp [Builtin.lenOf]) (fun w1 _ => by simp [Builtin.firstCells])⟩
    | some p =>
      obtain ⟨l, i', z⟩ := p
      simp only at h'
      split at h'
      · rename_i ro sz' rs ho
        split at h'
        · rename_i hle
          cases h'
          simp only [VR] at hx
          obtain ⟨pl, a, c', hp, hz, rfl, hnc, hcc, hex, htot, haa⟩ := hx
          obtain ⟨vs, hvs, hvl, hcell, hall, hrl⟩ := rows_of ha ho hp hle
          have hlen : ((rs.drop i').take n).length = n := by simp; omega
          rw [hlen]
          by_cases hn : n = 0
          · subst hn
            refine ⟨#[], by simp [VRs], append_run_false hu hxt hni hs hi hb (by omega) base sLen sCap w (by simp [Builtin.lenOf]) fun w1 _ => ?_⟩
            simp [Builtin.firstCells, loadCells, loadCellsFrom]
          · have hsz : pl.sz = sz + 1 := by
              cases hq : (rs.drop i').take n with
              | nil => rw [hq] at hlen; simp at hlen; omega
              | cons r rr =>
                have h1 := hrl r (by rw [hq]; simp)
                have h2 := hr r (by rw [hq]; simp)
                omega
            have ha0 : a = pl.addr i' 0 := by
              rcases haa with h | h
              · omega
              · exact h
            subst ha0
            refine ⟨vs.toArray, by simpa using hvs, append_run_false hu hxt hni hs hi hb (by omega) base sLen sCap w (by simp [Builtin.lenOf]) fun w1 hw1 => ?_⟩
            have hl := run_loadCells_list (P := P) w1 (pl.addr i' 0) vs (fun j v hj => by
              have := hcell j v hj
              rw [addr_add0, cell?_eq] at this ⊢
              rw [hw1]; exact this)
            rw [hvl, hsz] at hl
            simp [Builtin.firstCells, hl]
        · cases h'
      · cases h'
  | _ => cases td <;> simp [appendedD] at h

theorem obj_part {pl : Pl} {b : Option Obj} {sz i m c' : Nat} {rs : List (List DV)} (h : ObjR ρ pl b (.rows false sz rs)) (hc : i + c' ≤ pl.tot) (hm : m ≤ c') : ObjR ρ ⟨pl.block, pl.off + i * sz, sz, c'⟩ b (.rows false sz ((rs.drop i).take m)) := by
  obtain ⟨h1, h2, h3, h4⟩ := h
  refine ⟨rfl, by simp; omega, ?_, fun _ => ?_⟩
  · intro j r hr
    rw [List.getElem?_take] at hr
    split at hr
    · rw [List.getElem?_drop] at hr
      obtain ⟨h5, h6⟩ := h3 _ r hr
      refine ⟨h5, fun k d hd => ?_⟩
      have := h6 k d hd
      have e : pl.off + (i + j) * sz + k = pl.off + i * sz + j * sz + k := by rw [Nat.add_mul]; omega
      rw [e] at this
      exact this
    · cases hr
  · obtain ⟨c, t, lo, hi, hb, hs, hf⟩ := h4 rfl
    have : (i + c') * sz ≤ pl.tot * sz := Nat.mul_le_mul_right _ hc
    rw [Nat.add_mul] at this
    exact ⟨c, t, lo, hi, hb, by simp only; omega, fun k hk => hf k (by simp only at hk; omega)⟩

theorem setRows_part {rs new : List (List DV)} {i n : Nat} (h : i + n ≤ rs.length) : ((setRows rs (i + n) new).drop i).take (n + new.length) = (rs.drop i).take n ++ new := by
  unfold setRows
  rw [List.drop_append_of_le_length (by simp; omega)]
  have h1 : (List.take (i + n) rs).drop i = (rs.drop i).take n := by rw [List.drop_take]; congr 1; omega
  rw [h1]
  have hl : ((rs.drop i).take n).length = n := by simp; omega
  rw [List.take_append, hl]
  have : List.take (n + new.length) ((rs.drop i).take n) = (rs.drop i).take n := List.take_of_length_le (by omega)
  rw [this]
  congr 1
  have : n + new.length - n = new.length := by omega
  rw [this, List.take_left']
  rfl

theorem append_sound {H H' : DH} {w : World} (ha : Agree ρ H w) {st xt ty : TypeId} {td : TypeDesc} (hxt : P.underlying xt = some td) {s x d : DV} {vs vx : Value} (h : appendD P st (some td) H s x = some (d, H')) (hs : VR ρ s vs) (hx : VR ρ x vx) :
    Made P ρ H w (Builtin.append_ #[st, xt] ty #[vs, vx]) d H' := by
  unfold appendD at h
  split at h
  case h_2 => cases h
  rename_i e hu
  split at h
  case h_2 => cases h
  rename_i sz by_ z0 new hsz hby hz0 hnew
  replace hsz : sizeT P e = some (sz + 1) := hsz
  split at h
  case isFalse => cases h
  rename_i hc
  obtain ⟨hb, hzl, hall⟩ := hc
  have hr : ∀ r ∈ new, r.length = sz + 1 := by
    intro r hr
    rw [List.all_eq_true] at hall
    have := hall r hr
    simp only [Bool.and_eq_true, beq_iff_eq] at this
    exact this.1
  have h1 : new.flatten.all DV.one = true := by
    rw [flat_all, List.all_eq_true]
    intro r hr
    rw [List.all_eq_true] at hall
    have := hall r hr
    simp only [Bool.and_eq_true] at this
    exact this.2
  obtain ⟨i, hi, hib⟩ : ∃ i, P.info? e = some i ∧ i.bytes = by_ := by
    unfold bytesT at hby
    cases hi : P.info? e with
    | none => rw [hi] at hby; cases hby
    | some i => rw [hi] at hby; simp at hby; exact ⟨i, rfl, hby⟩
  obtain ⟨i', zv, hi', hz', hv'⟩ := zeroT_value hz0
  have hzv : ∀ w1, (zeroValue e).run P w1 = .ok zv w1 := by intro w1; simp [zeroValue, r_info hi', hz']
  have hzs : zv.cells.size = sz + 1 := by
    have := VRs.length (VR.cells (ofValue_sound ρ hv'))
    simp only [Array.length_toList] at this
    omega
  have hzcs : ∀ k, (Builtin.zeroCells zv.cells k).size = k * (sz + 1) := by intro k; simp [Builtin.zeroCells, hzs]
  cases s with
  | sl p n c ex =>
    cases p with
    | none =>
      simp only [VR] at hs
      obtain ⟨rfl, rfl, rfl⟩ := hs
      simp only at h
      obtain ⟨nc, hnc, happ⟩ := appended_sound (ty := ty) ha hu hxt hnew hx hsz hr hi (by omega) none 0 0
      have hncl : nc.size = new.length * (sz + 1) := by
        have := VRs.length hnc
        rw [flatten_len hr] at this
        simpa using this
      split at h
      · rename_i hnil
        cases h
        subst hnil
        have := happ.room (by simp)
        exact ⟨_, w, ρ, this, by simp [VR], Moves.refl ha⟩
      · rename_i hnil
        split at h
        · rename_i hmost
          cases h
          have hpos : 0 < new.length := List.length_pos_iff.mpr hnil
          obtain ⟨newCap, hcap, hrun⟩ := happ.grow (by omega) (by simpa [mostD] using hmost) #[] zv (fun w1 _ => by simp [Builtin.firstCells]) hzv
          simp only [Nat.zero_add] at hcap hrun
          have hm := moves_rows ha.drew (c := #[] ++ nc ++ Builtin.zeroCells zv.cells (newCap - new.length)) (t := e) (sz := sz + 1) (tot := newCap) hr h1 (by
            have : (#[] ++ nc ++ Builtin.zeroCells zv.cells (newCap - new.length)).toList.take (new.length * (sz + 1)) = nc.toList := by
              rw [← hncl]; simp [← Array.length_toList]
            rw [this]; exact hnc) hcap (by
              simp only [Array.size_append, hzcs, hncl]
              simp only [List.size_toArray, List.length_nil, Nat.zero_add]
              rw [← Nat.add_mul]
              exact Nat.mul_le_mul_right _ (by omega))
          refine ⟨_, _, _, hrun, ?_, (Moves.drew ha).trans hm⟩
          simp only [VR]
          exact ⟨_, _, _, Rho.add_same _ _ _, rfl, rfl, Nat.le_refl _, hcap, (by simp), (by simp), .inr (by simp [Pl.addr])⟩
        · cases h
    | some p =>
      obtain ⟨l, k, z⟩ := p
      simp only [VR] at hs
      obtain ⟨pl, a, c', hp, hpz, rfl, hnc', hcc, hex, htot, haa⟩ := hs
      simp only at h
      split at h
      · cases h
      rename_i hzz
      have hzz' : z = sz + 1 := by simpa using hzz
      subst hzz'
      obtain ⟨nc, hnc, happ⟩ := appended_sound (ty := ty) ha hu hxt hnew hx hsz hr hi (by omega) (some a) n c'
      have hncl : nc.size = new.length * (sz + 1) := by
        have := VRs.length hnc
        rw [flatten_len hr] at this
        simpa using this
      split at h
      · rename_i hnil
        cases h
        subst hnil
        have hnc0 : nc = #[] := by
          have : nc.size = 0 := by simpa using hncl
          exact Array.eq_empty_of_size_eq_zero this
        have := happ.room (by simp; omega)
        rw [hnc0] at this
        refine ⟨_, w, ρ, by simpa [storeCells] using this, ?_, Moves.refl ha⟩
        simp only [VR]
        exact ⟨pl, a, c', hp, hpz, by simp, hnc', hcc, hex, htot, haa⟩
      · rename_i hnil
        have hpos : 0 < new.length := List.length_pos_iff.mpr hnil
        split at h
        case h_2 => cases h
        rename_i ro sz' rs ho
        split at h
        · cases h
        rename_i hcond
        simp only [not_or, Decidable.not_not, Nat.not_lt] at hcond
        obtain ⟨hsz', hrl, hmost⟩ := hcond
        subst hsz'
        have hmost' : n + new.length ≤ 2147483648 := by simpa [mostD] using hmost
        obtain ⟨h2, h3, h4, h5⟩ := ha.rows_sz ho hp
        have hol : ((rs.drop k).take n).length = n := by simp; omega
        have hor : ∀ r ∈ (rs.drop k).take n, r.length = sz + 1 := by
          intro r hr'
          have hr2 := List.mem_of_mem_drop (List.mem_of_mem_take hr')
          obtain ⟨j, hj, rfl⟩ := List.getElem_of_mem hr2
          exact h4 j _ (List.getElem?_eq_getElem hj)
        have hbr : ∀ r ∈ (rs.drop k).take n ++ new, r.length = sz + 1 := by
          intro r hr'
          rcases List.mem_append.mp hr' with h | h
          · exact hor r h
          · exact hr r h
        -- a new row
        have grow : ∀ (ha1 : Agree ρ H w), c' < n + new.length → ∃ newCap, n + new.length ≤ newCap ∧ ∃ cc : Array Value, newCap * (sz + 1) ≤ cc.size ∧ VRs ρ ((rs.drop k).take n ++ new).flatten (cc.toList.take ((n + new.length) * (sz + 1))) ∧ ((rs.drop k).take n ++ new).flatten.all DV.one = true ∧
            (Builtin.append_ #[st, xt] ty #[.slice (some a) n c', vx]).run P w = .ok (.slice (some ⟨w.heap.size, 0, none⟩) (n + new.length) newCap) { w with drawn := w.drawn + 1, heap := w.heap.push (.cells cc e (0, 0)) } := by
          intro _ hlt
          obtain ⟨vs, hvs, hvl, hcell, hall', hrl'⟩ := rows_of ha ho hp hrl
          have hold : ∀ w1 : World, w1.heap = w.heap → (Builtin.firstCells (sz + 1) n (.slice (some a) n c')).run P w1 = .ok vs.toArray w1 := by
            intro w1 hw1
            by_cases hn0 : n = 0
            · subst hn0
              have : vs = [] := List.length_eq_zero_iff.mp (by simpa using hvl)
              subst this
              simp [Builtin.firstCells, loadCells, loadCellsFrom]
            · have ha0 : a = pl.addr k 0 := by
                rcases haa with h | h
                · omega
                · exact h
              subst ha0
              have hl := run_loadCells_list (P := P) w1 (pl.addr k 0) vs (fun j v hj => by
                have := hcell j v hj
                rw [addr_add0, cell?_eq] at this ⊢
                rw [hw1]; exact this)
              rw [hvl, h2] at hl
              simp [Builtin.firstCells, hl]
          obtain ⟨newCap, hcap, hrun⟩ := happ.grow hlt hmost' vs.toArray zv hold hzv
          refine ⟨newCap, hcap, _, ?_, ?_, ?_, hrun⟩
          · simp only [Array.size_append, hzcs, hncl, List.size_toArray, hvl, h2]
            rw [← Nat.add_mul, ← Nat.add_mul]
            exact Nat.mul_le_mul_right _ (by omega)
          · have : (vs.toArray ++ nc ++ Builtin.zeroCells zv.cells (newCap - (n + new.length))).toList.take ((n + new.length) * (sz + 1)) = vs ++ nc.toList := by
              rw [Array.toList_append, Array.toList_append]
              have hl : (vs ++ nc.toList).length = (n + new.length) * (sz + 1) := by
                simp only [List.length_append, Array.length_toList, hncl, hvl, h2, Nat.add_mul]
              rw [← hl, List.take_left']
              rfl
            rw [this, List.flatten_append]
            exact hvs.append hnc
          · rw [List.flatten_append, List.all_append, hall', h1]; rfl
        split at h
        · -- there is room, for sure
          rename_i hroom
          split at h
          · rename_i hin
            obtain ⟨hro, hin⟩ := hin
            cases h
            subst hro
            have ha0 : a = pl.addr k 0 := by
              rcases haa with h | h
              · omega
              · exact h
            subst ha0
            have hrun := happ.room (by omega)
            have hpat := patched_rows h4 hr (show k + n ≤ rs.length by omega)
            have hfl := flatten_len hr
            have hb2 : (k + n) * (sz + 1) + new.flatten.length ≤ pl.tot * (sz + 1) := by
              rw [hfl, ← Nat.add_mul]
              exact Nat.mul_le_mul_right _ (by omega)
            obtain ⟨hst, hobj⟩ := obj_write (P := P) h5 hpat (by simp [setRows]; omega) hb2 hnc h1
            have hadr : (pl.addr k 0).add (n * (sz + 1)) = ⟨pl.block, pl.off + (k + n) * (sz + 1), none⟩ := by
              rw [addr_add0, h2]
              simp only [Addr.mk.injEq, and_true, true_and, Nat.add_mul]; omega
            simp only [hadr, hst, Result.andThen_ok] at hrun
            refine ⟨_, _, ρ, hrun, ?_, moves_set ha ho rfl rfl hp (setCells_one _ _ _ _) hobj⟩
            simp only [VR]
            exact ⟨pl, _, c', hp, hpz, rfl, hroom, hcc, hex, htot, .inr rfl⟩
          · cases h
        · rename_i hroom
          split at h
          · -- the room is known: a new row
            rename_i hx1
            cases h
            have hc' := hex hx1
            obtain ⟨newCap, hcap, cc, hccs, hcv, hco, hrun⟩ := grow ha (by omega)
            have hm := moves_rows ha.drew (c := cc) (t := e) (sz := sz + 1) (tot := newCap) hbr hco (by rw [List.length_append, hol]; exact hcv) (by rw [List.length_append, hol]; exact hcap) hccs
            refine ⟨_, _, _, hrun, ?_, (Moves.drew ha).trans hm⟩
            simp only [VR]
            exact ⟨_, _, _, Rho.add_same _ _ _, rfl, rfl, Nat.le_refl _, hcap, (by simp), (by simp), .inr (by simp [Pl.addr])⟩
          · split at h
            · rename_i hx0 hro
              cases h
              subst hro
              by_cases hgr : c' < n + new.length
              · obtain ⟨newCap, hcap, cc, hccs, hcv, hco, hrun⟩ := grow ha hgr
                have hk := moves_kill ha.drew l
                have hm := moves_rows hk.agree (c := cc) (t := e) (sz := sz + 1) (tot := newCap) hbr hco (by rw [List.length_append, hol]; exact hcv) (by rw [List.length_append, hol]; exact hcap) hccs
                refine ⟨_, _, _, hrun, ?_, ((Moves.drew ha).trans hk).trans hm⟩
                simp only [VR]
                exact ⟨_, _, _, Rho.add_same _ _ _, rfl, rfl, Nat.le_refl _, hcap, (by simp), (by simp), .inr (by simp [Pl.addr])⟩
              · have ha0 : a = pl.addr k 0 := by
                  rcases haa with h | h
                  · omega
                  · exact h
                subst ha0
                have hrun := happ.room (by omega)
                have hpat := patched_rows h4 hr (show k + n ≤ rs.length by omega)
                have hfl := flatten_len hr
                have hb2 : (k + n) * (sz + 1) + new.flatten.length ≤ pl.tot * (sz + 1) := by
                  rw [hfl, ← Nat.add_mul]
                  exact Nat.mul_le_mul_right _ (by omega)
                obtain ⟨hst, hobj⟩ := obj_write (P := P) h5 hpat (by simp [setRows]; omega) hb2 hnc h1
                have hadr : (pl.addr k 0).add (n * (sz + 1)) = ⟨pl.block, pl.off + (k + n) * (sz + 1), none⟩ := by
                  rw [addr_add0, h2]
                  simp only [Addr.mk.injEq, and_true, true_and, Nat.add_mul]; omega
                simp only [hadr, hst, Result.andThen_ok] at hrun
                have hpart := obj_part (m := n + new.length) hobj htot (by omega)
                rw [setRows_part hrl] at hpart
                have hle := Rho.le_add ha ⟨pl.block, pl.off + k * (sz + 1), sz + 1, c'⟩
                have hmv := moves_renew (pl' := ⟨pl.block, pl.off + k * (sz + 1), sz + 1, c'⟩) ha ho rfl rfl hp (setCells_one _ _ _ _) rfl (hpart.mono hle)
                refine ⟨_, _, _, hrun, ?_, hmv⟩
                simp only [VR]
                exact ⟨⟨pl.block, pl.off + k * (sz + 1), sz + 1, c'⟩, pl.addr k 0, c', Rho.add_same _ _ _, rfl, rfl, Nat.le_refl _, by omega, (by simp), (by simp), .inr (by simp [Pl.addr, h2])⟩
            · cases h
  | _ => cases h


set_option maxHeartbeats 1000000 in
theorem move_sound {o : Oper} {ev : Ev} {H H' : DH} {d : DV} {w : World} (h : moveD P o ev H = some (d, H')) {e : Operand → Value} (he : EvR ρ ev e) (ha : Agree ρ H w) :
    ∃ n v w' ρ', (execOp e o).run P w = .ok n w' ∧ (n = .value v ∨ (n = .skip ∧ v = undef)) ∧ VR ρ' d v ∧ Moves ρ H w ρ' H' w' := by
  have made : ∀ {s : Sem Value}, Made P ρ H w s d H' → (execOp e o = (do pure (.value (← s)))) → ∃ n v w' ρ', (execOp e o).run P w = .ok n w' ∧ (n = .value v ∨ (n = .skip ∧ v = undef)) ∧ VR ρ' d v ∧ Moves ρ H w ρ' H' w' := by
    rintro s ⟨v, w', ρ', h1, h2, h3⟩ heq
    refine ⟨.value v, v, w', ρ', ?_, .inl rfl, h2, h3⟩
    rw [heq, Sem.run_bind, h1]
    rfl
  have done : ∀ {s : Sem Unit} {w' : World}, s.run P w = .ok () w' → d = undefD → Moves ρ H w ρ H' w' → (execOp e o = (do s; pure .skip)) → ∃ n v w' ρ', (execOp e o).run P w = .ok n w' ∧ (n = .value v ∨ (n = .skip ∧ v = undef)) ∧ VR ρ' d v ∧ Moves ρ H w ρ' H' w' := by
    rintro s w' h1 hd h3 heq
    refine ⟨.skip, undef, w', ρ, ?_, .inr ⟨rfl, rfl⟩, by rw [hd]; simp [undefD, undef, VR, VRs], h3⟩
    rw [heq, Sem.run_bind, h1]
    rfl
  obtain ⟨dst, op, type, pos, after, guard⟩ := o
  unfold moveD at h
  simp only at h
  split at h
  · split at h
    · rename_i z hz; exact made (alloc_sound ha hz h) rfl
    · cases h
  · split at h
    · rename_i v hv; exact made (box_sound ha h (he _ _ hv) _) rfl
    · cases h
  · rename_i t n parts
    split at h
    · rename_i ps hps
      have hv := evParts_sound he hps
      have hb := buildSlice_sound (P := P) (vs := parts.map fun (i, x) => (i, e x)) ha h (by rw [Array.toList_map]; exact hv)
      refine made hb ?_
      simp only [execOp]
    · cases h
  · rename_i t a x
    split at h
    · rename_i p v hp hv
      cases hs : storeD P t H p v with
      | none => rw [hs] at h; cases h
      | some H1 =>
        rw [hs] at h
        cases h
        obtain ⟨w', h1, h2⟩ := store_sound (P := P) ha hs (he _ _ hp) (he _ _ hv)
        exact done h1 rfl h2 rfl
    · cases h
  · split at h
    · rename_i a b ha' hb; exact made (makeSlice_sound ha h (he _ _ ha') (he _ _ hb)) rfl
    · cases h
  · rename_i t r
    split at h
    · rename_i k el hu
      cases h
      exact made (makeMap_sound ha hu none (by simp)) rfl
    · rename_i k el x hu
      split at h
      · rename_i j n hx
        cases h
        have := he _ _ hx
        simp only [VR] at this
        exact made (makeMap_sound ha hu (some (e x)) (by intro v hv; cases hv; exact ⟨_, _, this⟩)) rfl
      · cases h
    · cases h
  · rename_i t m k x
    split at h
    · rename_i a b c ha' hb hc
      cases hs : updateD P t H a b c with
      | none => rw [hs] at h; cases h
      | some H1 =>
        rw [hs] at h
        cases h
        obtain ⟨w', h1, h2⟩ := update_sound (P := P) ha hs (he _ _ ha') (he _ _ hb) (he _ _ hc)
        exact done h1 rfl h2 rfl
    · cases h
  · rename_i t m k x
    split at h
    · rename_i a b c ha' hb hc
      cases hs : updateD P t H a b c with
      | none => rw [hs] at h; cases h
      | some H1 =>
        rw [hs] at h
        cases h
        obtain ⟨w', h1, h2⟩ := update_sound (P := P) ha hs (he _ _ ha') (he _ _ hb) (he _ _ hc)
        exact done h1 rfl h2 rfl
    · cases h
  · rename_i t x
    split at h
    · rename_i s hu hx
      cases h
      have := he _ _ hx
      simp only [VR] at this
      refine made ?_ rfl
      rw [this]
      exact range_sound ha hu s
    · cases h
  · split at h
    · rename_i a ha'; exact made (next_sound ha h (he _ _ ha') _) rfl
    · cases h
  · rename_i s t x
    split at h
    · rename_i td el l hs ht hx
      split at h
      · rename_i hu8
        cases h
        have := he _ _ hx
        simp only [VR] at this
        refine made ?_ rfl
        rw [this]
        exact strBytes_sound ha hs ht hu8 l
      · cases h
    · cases h
  · rename_i args argTypes
    obtain ⟨args⟩ := args
    obtain ⟨argTypes⟩ := argTypes
    simp only at h
    split at h
    · rename_i s x st xt
      split at h
      · rename_i a b ha' hb
        cases hxt : P.underlying xt with
        | none => rw [hxt] at h; unfold appendD at h; split at h <;> simp [appendedD] at h
        | some td =>
          rw [hxt] at h
          refine made (s := Builtin.append_ #[st, xt] type #[e s, e x]) (append_sound ha hxt h (he _ _ ha') (he _ _ hb)) ?_
          simp [execOp, resolve, invoke, builtin]
      · cases h
    · cases h
  · rename_i args argTypes
    obtain ⟨args⟩ := args
    obtain ⟨argTypes⟩ := argTypes
    simp only at h
    split at h
    · rename_i m k t t2
      split at h
      · rename_i a b ha' hb
        cases hs : deleteD P t H a b with
        | none => rw [hs] at h; cases h
        | some H1 =>
          rw [hs] at h
          cases h
          obtain ⟨w', h1, h2⟩ := delete_sound (P := P) (ty := type) (t2 := t2) ha hs (he _ _ ha') (he _ _ hb)
          refine made (s := Builtin.delete_ #[t, t2] type #[e m, e k]) ⟨_, w', ρ, h1, by simp [undefD, VR, VRs], h2⟩ ?_
          simp [execOp, resolve, invoke, builtin]
      · cases h
    · cases h
  · rename_i args argTypes
    obtain ⟨args⟩ := args
    obtain ⟨argTypes⟩ := argTypes
    simp only at h
    split at h
    · rename_i x t
      split at h
      · rename_i a ha'
        cases hs : clearD P t H a with
        | none => rw [hs] at h; cases h
        | some H1 =>
          rw [hs] at h
          cases h
          obtain ⟨w', h1, h2⟩ := clear_sound (P := P) (ty := type) ha hs (he _ _ ha')
          refine made (s := Builtin.clear_ #[t] type #[e x]) ⟨_, w', ρ, h1, by simp [undefD, VR, VRs], h2⟩ ?_
          simp [execOp, resolve, invoke, builtin]
      · cases h
    · cases h
  · cases h
end
end Go.Det
