/- Cover: lemmas for Report's second loop. -/
import Derived.Test.YtlmjhpnmfmnmgaaDoorCovE12
namespace Go.Det.C
open Go Go.Det Go.Proofs
set_option maxRecDepth 4000
set_option linter.unusedVariables false
set_option linter.unusedSimpArgs false
abbrev Ev.dv (y : Ev) : DV := .agg y.row
theorem zero66 : zeroT Tryd.prog 66 = some (.sl none 0 0 true) := rfl
/-! ### queues that are written no more -/
def QF (M0 : List Qe) : DH → Prop := fun H => ∀ e ∈ M0, ∀ p n c ex, e.s = .sl p n c ex → Sl H 1 (e.l.map natRow) p
def SubQ (M0 : List Qe) (e : Qe) : Prop := ∃ e0 ∈ M0, ∃ p c ex a, e0.s = .sl p e0.l.length c ex ∧ a ≤ e0.l.length ∧ e.l = e0.l.drop a ∧ e.s = .sl (p.map fun (l, i, z) => (l, i + a, z)) (e0.l.length - a) (c - a) ex
theorem qf_stay (M0 : List Qe) : Stay (fun l => ∃ e ∈ M0, ∃ i z n c ex, e.s = .sl (some (l, i, z)) n c ex) (QF M0) := by
  intro H H' hn hs h e he p n c ex hes
  have h1 := h e he p n c ex hes
  cases h1 with
  | nil h => exact .nil h
  | «at» h1 h2 h3 h4 => exact .at (Nat.lt_of_lt_of_le h1 hn) ((hs _ ⟨e, he, _, _, _, _, _, hes⟩).trans h2) h3 h4
theorem own1_inv {z : Nat} {R : List (List DV)} {s : DV} {bx : List (Nat × DObj)} (h : Own1 z R s bx) : (∃ ex, R = [] ∧ s = .sl none 0 0 ex ∧ bx = []) ∨ (∃ b c ex rs, s = .sl (some (b, 0, z)) R.length c ex ∧ bx = [(b, .rows false z rs)] ∧ c = rs.length ∧ R.length ≤ c ∧ rs.take R.length = R) := by
  cases h with
  | nil h => exact .inl ⟨_, h, rfl, rfl⟩
  | «at» h1 h2 h3 => exact .inr ⟨_, _, _, _, rfl, rfl, h1, h2, h3⟩
theorem q_freeze {A H : DH} {M : List Qe} {rest : List (Nat × DObj)} (h : Bx A H (M.flatMap Qe.bx ++ rest) []) (ho : ∀ e ∈ M, Own1 1 (e.l.map natRow) e.s e.bx) : Bx A H rest [QF M] ∧ ∀ e ∈ M, SubQ M e := by
  refine ⟨bx_freeze h _ (qf_stay M) ?_ ?_, ?_⟩
  · intro e he p n c ex hes
    rcases own1_inv (ho e he) with ⟨_, h1, h2, h3⟩ | ⟨b, c', ex', rs, h1, h2, h3, h4, h5⟩
    · rw [h2] at hes; injection hes with e1; subst e1
      exact .nil h1
    · rw [h1] at hes; injection hes with e1; subst e1
      have hm : (b, DObj.rows false 1 rs) ∈ M.flatMap Qe.bx ++ rest := List.mem_append_left _ (List.mem_flatMap.mpr ⟨e, he, by rw [h2]; exact List.mem_singleton.mpr rfl⟩)
      obtain ⟨_, h6, h7⟩ := h.obj _ hm
      exact .at h6 h7 (by omega) (by simpa using h5)
  · rintro l ⟨e, he, i, z, n, c, ex, hes⟩
    rcases own1_inv (ho e he) with ⟨_, h1, h2, h3⟩ | ⟨b, c', ex', rs, h1, h2, h3, h4, h5⟩
    · rw [h2] at hes; injection hes with e1; cases e1
    · rw [h1] at hes; injection hes with e1
      injection e1 with e1; injection e1 with e1 e2; subst e1
      exact ⟨_, List.mem_flatMap.mpr ⟨e, he, by rw [h2]; exact List.mem_singleton.mpr rfl⟩, rfl⟩
  · intro e he
    rcases own1_inv (ho e he) with ⟨ex, h1, h2, h3⟩ | ⟨b, c', ex', rs, h1, h2, h3, h4, h5⟩
    · have hl : e.l = [] := by cases hq : e.l with | nil => rfl | cons a b => rw [hq] at h1; cases h1
      exact ⟨e, he, none, 0, ex, 0, by rw [h2, hl]; rfl, Nat.zero_le _, rfl, by rw [h2, hl]; rfl⟩
    · refine ⟨e, he, some (b, 0, 1), c', ex', 0, by rw [h1, List.length_map], Nat.zero_le _, rfl, by rw [h1, List.length_map]; rfl⟩
theorem subq_sl {M0 : List Qe} {e : Qe} (h : SubQ M0 e) : ∃ p c ex, e.s = .sl p e.l.length c ex ∧ ∀ H, QF M0 H → Sl H 1 (e.l.map natRow) p := by
  obtain ⟨e0, he0, p, c, ex, a, h1, h2, h3, h4⟩ := h
  refine ⟨_, _, _, by rw [h4, h3, List.length_drop], fun H hf => ?_⟩
  have h5 := (hf e0 he0 _ _ _ _ h1).sub (a := a) (b := e0.l.length) h2 (by simp)
  rw [h3, List.map_drop]
  rwa [List.take_of_length_le (by simp)] at h5
theorem subq_head {M0 : List Qe} {e : Qe} {v : Nat} {r : List Nat} (h : SubQ M0 e) (hl : e.l = v :: r) {H : DH} (hf : QF M0 H) : ∃ l i c ex, e.s = .sl (some (l, i, 1)) (r.length + 1) c ex ∧ (∀ H, QF M0 H → ∃ ro rs, H.obj l = some (.rows ro 1 rs) ∧ rs[i + (0 : Int).toNat]? = some (natRow v)) ∧ ∀ bx, SubQ M0 ⟨e.key, r, .sl (some (l, i + 1, 1)) r.length (c - 1) ex, bx⟩ := by
  obtain ⟨p, c, ex, h1, h2⟩ := subq_sl h
  obtain ⟨l, i, ro, rs, rfl, _, _, _⟩ := (h2 H hf).rd (k := 0) (r := natRow v) (by rw [hl]; rfl)
  refine ⟨l, i, c, ex, by rw [h1, hl]; rfl, fun H hf => ?_, fun bx => ?_⟩
  · obtain ⟨l', i', ro, rs, e1, _, h3, h4⟩ := (h2 H hf).rd (k := 0) (r := natRow v) (by rw [hl]; rfl)
    injection e1 with e1; injection e1 with e1 e2; injection e2 with e2 e3; subst e1 e2
    exact ⟨ro, rs, h3, h4⟩
  · obtain ⟨e0, he0, p0, c0, ex0, a, g1, g2, g3, g4⟩ := h
    have hlt : a < e0.l.length := by
      rcases Nat.lt_or_ge a e0.l.length with h | h
      · exact h
      · rw [g3, List.drop_of_length_le h] at hl; cases hl
    rw [h1] at g4
    injection g4 with e1 e2 e3 e4
    have hr : r = e0.l.drop (a + 1) := by
      rw [g3] at hl
      rw [← List.drop_drop, hl]; rfl
    refine ⟨e0, he0, p0, c0, ex0, a + 1, g1, hlt, hr, ?_⟩
    cases p0 with
    | none => cases e1
    | some q =>
      obtain ⟨l0, i0, z0⟩ := q
      injection e1 with e1; injection e1 with e1 e5; injection e5 with e5 e6; subst e1 e5 e6
      show DV.sl _ _ _ _ = DV.sl _ _ _ _
      rw [e3, e4, Nat.sub_sub, hr, List.length_drop]; rfl
def LK (M : List Qe) (y : Ev) (v : DV) : Prop := (∃ i, findD Tryd.prog 34 (.agg y.row) (mapE Ev.dv (M.map Qe.kv)) = some (some (i, v))) ∨ (findD Tryd.prog 34 (.agg y.row) (mapE Ev.dv (M.map Qe.kv)) = some none ∧ zeroT Tryd.prog 66 = some v)
theorem qlook {M0 M : List Qe} {s : CSt} (hQ : QRel M s.q) (hS : ∀ e ∈ M, SubQ M0 e) {H : DH} (hf : QF M0 H) (y : Ev) : (∃ p c ex, s.q y = [] ∧ LK M y (.sl p 0 c ex)) ∨
    ∃ v r l i c ex k M', s.q y = v :: r ∧ findD Tryd.prog 34 (.agg y.row) (mapE Ev.dv (M.map Qe.kv)) = some (some (k, .sl (some (l, i, 1)) (r.length + 1) c ex)) ∧ (∀ H, QF M0 H → ∃ ro rs, H.obj l = some (.rows ro 1 rs) ∧ rs[i + (0 : Int).toNat]? = some (natRow v)) ∧ QRel M' (fun k => if k = y then r else s.q k) ∧ (∀ e ∈ M', SubQ M0 e) ∧
      (mapE Ev.dv (M.map Qe.kv)).set k (.agg y.row, .sl (some (l, i + 1, 1)) r.length (c - 1) ex) = mapE Ev.dv (M'.map Qe.kv) := by
  rcases find_q y M with ⟨M1, e, M2, rfl, hek, hne, hfind⟩ | ⟨hno, hfind⟩
  · have hfd : findD Tryd.prog 34 (.agg y.row) (mapE Ev.dv ((M1 ++ e :: M2).map Qe.kv)) = some (some (M1.length, e.s)) := by
      have h := find_mapE (P := Tryd.prog) (kt := 34) (kd := Ev.dv) keqEv y ((M1 ++ e :: M2).map Qe.kv)
      rw [hfind] at h
      exact h
    have hq : e.l = s.q y := by rw [hQ.at' e (by simp), hek]
    cases hl : e.l with
    | nil =>
      obtain ⟨p, c, ex, h1, _⟩ := subq_sl (hS e (by simp))
      rw [h1, hl] at hfd
      exact .inl ⟨p, c, ex, by rw [← hq, hl], .inl ⟨_, hfd⟩⟩
    | cons v r =>
      obtain ⟨l, i, c, ex, h1, h2, h3⟩ := subq_head (hS e (by simp)) hl hf
      rw [h1] at hfd
      refine .inr ⟨v, r, l, i, c, ex, _, M1 ++ ⟨e.key, r, .sl (some (l, i + 1, 1)) r.length (c - 1) ex, []⟩ :: M2, by rw [← hq, hl], hfd, h2, ?_, ?_, ?_⟩
      · refine hQ.upd rfl ?_ fun z hz => ?_
        · show r = if e.key = y then r else s.q e.key
          rw [if_pos hek]
        · show (if z = y then r else s.q z) = s.q z
          rw [if_neg (by rw [← hek]; exact hz)]
      · intro d hd
        rcases List.mem_append.mp hd with hd | hd
        · exact hS d (List.mem_append_left _ hd)
        · rcases List.mem_cons.mp hd with rfl | hd
          · exact h3 []
          · exact hS d (List.mem_append_right _ (List.mem_cons_of_mem _ hd))
      · unfold mapE
        rw [List.map_append, List.map_append, List.map_cons, List.map_cons, List.map_append, List.map_append, List.map_cons, List.map_cons, List.set_append_right _ _ (by simp)]
        have e0 : M1.length - ((M1.map Qe.kv).map fun x => (Ev.dv x.1, x.2)).length = 0 := by simp
        rw [e0, List.set_cons_zero]
        show _ = _ ++ (Ev.dv e.key, _) :: _
        rw [hek]
  · have hfd : findD Tryd.prog 34 (.agg y.row) (mapE Ev.dv (M.map Qe.kv)) = some none := by
      have h := find_mapE (P := Tryd.prog) (kt := 34) (kd := Ev.dv) keqEv y (M.map Qe.kv)
      rw [hfind] at h
      exact h
    exact .inl ⟨none, 0, true, hQ.no y hno, .inr ⟨hfd, zero66⟩⟩
theorem bx_lookupU {X : Ext} {A H : DH} {bs : List (Nat × DObj)} {fs : List (DH → Prop)} {K : DV → DH → Prop} {o : Oper} {env : List DV} {a k : Operand} {b : Nat} {M : List Qe} {y : Ev} {v : DV} (ho : o.op = .lookup 65 a k false) (ha : evalO env a = some (.map (some b))) (hk : evalO env k = some (.agg y.row)) (hB : Bx A H bs fs) (hm : At b (.map (mapE Ev.dv (M.map Qe.kv))) bs)
    (hl : LK M y v) (hr : K v H) : OpWp Tryd.prog X o env H K := by
  rcases hl with ⟨i, hf⟩ | ⟨hf, hz⟩
  · exact bx_lookupF ho ha hk rfl hB hm (keyOkE y) hf hr
  · exact bx_lookup0F ho ha hk rfl hB hm (keyOkE y) hf hz hr
theorem bx_loadQ {X : Ext} {A H : DH} {bs : List (Nat × DObj)} {M0 : List Qe} {K : DV → DH → Prop} {o : Oper} {env : List DV} {a : Operand} {l i v : Nat} (ho : o.op = .load 3 a) (ha : evalO env a = some (.ptr (some (l, i + (0 : Int).toNat, 0)))) (hB : Bx A H bs [QF M0])
    (hq : ∀ H, QF M0 H → ∃ ro rs, H.obj l = some (.rows ro 1 rs) ∧ rs[i + (0 : Int).toNat]? = some (natRow v)) (hr : K (.int .i64 (v : Int)) H) : OpWp Tryd.prog X o env H K := by
  obtain ⟨ro, rs, h1, h2⟩ := hq H (hB.has InF.here)
  exact op_load_at ho ha h1 h2 rfl hr
/-! ### rows of what fired -/
theorem setRow_fire {fs : List Fire} {v : Nat} {f : Fire} (hf : fs[v]? = some f) {off : Nat} {cs : List DV} (g : Fire → Fire) (h1 : off + cs.length ≤ 7 ∧ cs.all DV.one = true) (h2 : splice f.row off cs = (g f).row) : setRow (fs.map Fire.row) (0 + (v : Int).toNat) off cs = some ((fs.modify v g).map Fire.row) := by
  rw [Nat.zero_add, Int.toNat_natCast]
  have hv : v < fs.length := (List.getElem?_eq_some_iff.mp hf).1
  have hfv : fs[v] = f := (List.getElem?_eq_some_iff.mp hf).2
  unfold setRow
  rw [List.getElem?_map, hf]
  show (if off + cs.length ≤ 7 ∧ cs.all DV.one = true then some ((fs.map Fire.row).set v (splice f.row off cs)) else none) = _
  rw [if_pos h1, h2]
  congr 1
  apply List.ext_getElem?
  intro j
  rw [List.getElem?_set, List.getElem?_map, List.getElem?_map, List.getElem?_modify]
  by_cases hj : v = j
  · subst hj
    rw [if_pos rfl, if_pos (by simpa using hv), hf]
    simp
  · rw [if_neg hj]
    cases fs[j]? <;> simp [hj]
def det1 (f : Fire) : Fire := { f with det := true }
def det2 (y : Ev) (f : Fire) : Fire := { f with at' := y.t }
theorem set_det1 {fs : List Fire} {v : Nat} {f : Fire} (hf : fs[v]? = some f) : setRow (fs.map Fire.row) (0 + (v : Int).toNat) 5 (DV.cells (.bool true)) = some ((fs.modify v det1).map Fire.row) := setRow_fire hf det1 ⟨by decide, rfl⟩ rfl
theorem modify2 (fs : List Fire) (v : Nat) (g k : Fire → Fire) : (fs.modify v g).modify v k = fs.modify v (fun f => k (g f)) := by
  apply List.ext_getElem?
  intro j
  rw [List.getElem?_modify, List.getElem?_modify, List.getElem?_modify]
  cases fs[j]? with
  | none => simp
  | some f => by_cases h : v = j <;> simp [h]
theorem set_det2 {fs : List Fire} {v : Nat} {f : Fire} (hf : fs[v]? = some f) (y : Ev) : setRow ((fs.modify v det1).map Fire.row) (0 + (v : Int).toNat) 6 (DV.cells (.int .i64 y.t)) = some ((fs.modify v (markD y)).map Fire.row) := by
  have hf1 : (fs.modify v det1)[v]? = some (det1 f) := by rw [List.getElem?_modify, hf]; simp
  rw [setRow_fire hf1 (det2 y) ⟨by show 6 + 1 ≤ 7; decide, rfl⟩ rfl, modify2]
  rfl
theorem set_fired {fs : List Fire} {v : Nat} {f : Fire} (hf : fs[v]? = some f) : setRow (fs.map Fire.row) (0 + (v : Int).toNat) 4 (DV.cells (.bool true)) = some ((fs.modify v markF).map Fire.row) := setRow_fire hf markF ⟨by decide, rfl⟩ rfl
/-! ### what is open -/
structure OpenR (op : List Nat) (co : Nat) (ro : List (List DV)) : Prop where
  c : co = ro.length
  le : op.length ≤ co
  rows : ro.take op.length = op.map natRow
theorem OpenR.own {op : List Nat} {co b : Nat} {ex : Bool} {ro : List (List DV)} (h : OpenR op co ro) : Own1 1 (op.map natRow) (.sl (some (b, 0, 1)) op.length co ex) [(b, .rows false 1 ro)] := by
  have h1 := Own1.at (z := 1) (b := b) (ex := ex) (R := op.map natRow) h.c (by rw [List.length_map]; exact h.le) (by rw [List.length_map]; exact h.rows)
  rwa [List.length_map] at h1
theorem open_own {op : List Nat} {v : Nat} {s : DV} {bx : List (Nat × DObj)} (h : Own1 1 (op.map natRow ++ [natRow v]) s bx) : ∃ b c ex rs, s = .sl (some (b, 0, 1)) (op ++ [v]).length c ex ∧ bx = [(b, .rows false 1 rs)] ∧ OpenR (op ++ [v]) c rs := by
  have e : op.map natRow ++ [natRow v] = (op ++ [v]).map natRow := by simp
  rw [e] at h
  rcases own1_inv h with ⟨_, h1, _, _⟩ | ⟨b, c, ex, rs, h1, h2, h3, h4, h5⟩
  · simp at h1
  · rw [List.length_map] at h1 h4 h5
    exact ⟨b, c, ex, rs, h1, h2, h3, h4, h5⟩
structure OpenI (op : List Nat) (i : Nat) (w : List Nat) (co : Nat) (ri : List (List DV)) : Prop where
  c : co = ri.length
  le : w.length ≤ i
  rows : ri.take w.length = w.map natRow
  rest : ∀ j v, i ≤ j → op[j]? = some v → ri[j]? = some (natRow v)
theorem OpenI.init {op : List Nat} {co : Nat} {ro : List (List DV)} (h : OpenR op co ro) : OpenI op 0 [] co ro := by
  refine ⟨h.c, Nat.le_refl _, rfl, fun j v _ hv => ?_⟩
  have hj : j < op.length := (List.getElem?_eq_some_iff.mp hv).1
  have h1 : (ro.take op.length)[j]? = ro[j]? := by rw [List.getElem?_take, if_pos hj]
  rw [← h1, h.rows, List.getElem?_map, hv]; rfl
theorem OpenI.keep {op : List Nat} {i v co : Nat} {w : List Nat} {ri : List (List DV)} (h : OpenI op i w co ri) (hv : op[i]? = some v) : OpenI op (i + 1) (w ++ [v]) co (ri.set w.length (natRow v)) := by
  have hi : i < ri.length := (List.getElem?_eq_some_iff.mp (h.rest i v (Nat.le_refl _) hv)).1
  have hle := h.le
  refine ⟨by rw [List.length_set]; exact h.c, by simp; omega, ?_, fun j u hj hu => ?_⟩
  · rw [List.length_append, List.length_singleton, List.take_add_one, List.getElem?_set, if_pos rfl, if_pos (by omega), List.map_append, ← h.rows]
    congr 1
    apply List.ext_getElem?
    intro j
    rw [List.getElem?_take, List.getElem?_take]
    split
    · rw [List.getElem?_set, if_neg (by omega)]
    · rfl
  · rw [List.getElem?_set, if_neg (by omega)]
    exact h.rest j u (by omega) hu
theorem OpenI.drop {op : List Nat} {i co : Nat} {w : List Nat} {ri : List (List DV)} (h : OpenI op i w co ri) : OpenI op (i + 1) w co ri :=
  ⟨h.c, Nat.le_succ_of_le h.le, h.rows, fun j v hj hv => h.rest j v (by omega) hv⟩
theorem OpenI.fin {op : List Nat} {co i : Nat} {w : List Nat} {ri : List (List DV)} (h : OpenI op i w co ri) (h1 : i ≤ co) : OpenR w co ri := ⟨h.c, by have := h.le; omega, h.rows⟩
/-! ### steps -/
theorem noteFs_take {tab : List Inj} {y : Ev} {fs : List Fire} {op : List Nat} {i v : Nat} (hv : op[i]? = some v) : noteFs tab y fs (op.take (i + 1)) = if notI tab y v then (noteFs tab y fs (op.take i)).modify v (markD y) else noteFs tab y fs (op.take i) := by
  unfold noteFs
  rw [List.take_add_one, hv, List.foldl_append]
  rfl
theorem noteOp_take {tab : List Inj} {y : Ev} {op : List Nat} {i v : Nat} (hv : op[i]? = some v) : noteOp tab y (op.take (i + 1)) = noteOp tab y (op.take i) ++ if notI tab y v then [] else [v] := by
  unfold noteOp
  rw [List.take_add_one, hv, List.filter_append]
  cases h : notI tab y v <;> simp [h]
theorem notI_at {tab : List Inj} {y : Ev} {v : Nat} {x : Inj} (h : tab[v]? = some x) : notI tab y v = noticesF x y := by unfold notI; rw [h]
def stC (tab : List Inj) (log : List Ev) (j : Nat) : CSt := (log.take j).foldl (stepC tab) (initC tab)
theorem stC_succ {tab : List Inj} {log : List Ev} {j : Nat} {y : Ev} (h : log[j]? = some y) : stC tab log (j + 1) = stepC tab (stC tab log j) y := by
  unfold stC
  rw [List.take_add_one, h, List.foldl_append]; rfl
theorem stC_all (tab : List Inj) (log : List Ev) : stC tab log log.length = reportC tab log := by unfold stC reportC; rw [List.take_length]
theorem stC_wf (tab : List Inj) (log : List Ev) (j : Nat) : WFC tab (stC tab log j) := (WFC.init tab).fold _
theorem step_nil {tab : List Inj} {s : CSt} {y : Ev} (h : s.q y = []) : stepC tab s y = ⟨noteFs tab y s.fires s.op, s.q, noteOp tab y s.op⟩ := by unfold stepC; rw [h]
theorem step_cons {tab : List Inj} {s : CSt} {y : Ev} {v : Nat} {r : List Nat} (h : s.q y = v :: r) : stepC tab s y = ⟨(noteFs tab y s.fires s.op).modify v markF, fun k => if k = y then r else s.q k, noteOp tab y s.op ++ [v]⟩ := by unfold stepC; rw [h]
theorem noteOp_le (tab : List Inj) (y : Ev) (op : List Nat) : (noteOp tab y op).length ≤ op.length := List.length_filter_le _ _
end Go.Det.C

/- Cover: Report's walk. -/
namespace Go.Det.C
open Go Go.Det Go.Proofs
set_option maxRecDepth 4000
set_option maxHeartbeats 4000000
set_option linter.unusedVariables false
set_option linter.unusedSimpArgs false
theorem et24 : ElemT Tryd.prog 24 32 7 48 (.agg [.int .i64 0, .int .i64 0, .int .i64 0, .int .i64 0, .bool false, .bool false, .int .i64 0]) := ⟨rfl, rfl, rfl, by kernel_rfl, by decide, by decide, rfl, rfl⟩
theorem bx_makeL {P : Program} {X : Ext} {A H : DH} {bs : List (Nat × DObj)} {fs : List (DH → Prop)} {K : DV → DH → Prop} {o : Oper} {env : List DV} {st e : TypeId} {z by_ : Nat} {z0 : DV} {x y : Operand} {n : Nat} {j k : IntKind} (E : ElemT P st e z by_ z0) (ho : o.op = .makeSlice st x y) (hx : evalO env x = some (.int j (n : Int))) (hy : evalO env y = some (.int k (n : Int))) (hn : n ≤ mostD) (hB : Bx A H bs fs)
    (hk : ∀ b H', Bx A H' ((b, .rows false z (List.replicate n z0.cells)) :: bs) fs → K (.sl (some (b, 0, z)) n n true) H') : OpWp P X o env H K :=
  op_make E ho hx hy (Nat.le_refl _) hn (hk _ _ (hB.box _))
theorem at_app58 {b : Nat} {o : DObj} {pre l : List (Nat × DObj)} (h : At b o l) : At b o (pre ++ l) := by
  induction pre with
  | nil => exact h
  | cons x r ih => exact .there ih
theorem upd_app58 {b : Nat} {o o' : DObj} {pre l l' : List (Nat × DObj)} (h : Upd b o o' l l') : Upd b o o' (pre ++ l) (pre ++ l') := by
  induction pre with
  | nil => exact h
  | cons x r ih => exact .there ih
def zrow : List DV := [.int .i64 0, .int .i64 0, .int .i64 0, .int .i64 0, .bool false, .bool false, .int .i64 0]
def rowsA (tab : List Inj) (k : Nat) : List (List DV) := ((tab.take k).map fun x => (Fire.mk x false false 0).row) ++ List.replicate (tab.length - k) zrow
theorem rowsA_set {tab : List Inj} {k : Nat} {x : Inj} (hx : tab[k]? = some x) : setRow (rowsA tab k) (0 + ((k : Nat) : Int).toNat) 0 (DV.cells (.agg x.row)) = some (rowsA tab (k + 1)) := by
  have hk : k < tab.length := (List.getElem?_eq_some_iff.mp hx).1
  have hrk : (rowsA tab k)[k]? = some zrow := by
    unfold rowsA
    rw [List.getElem?_append_right (by simp; omega), List.getElem?_replicate, if_pos (by simp; omega)]
  rw [Nat.zero_add, Int.toNat_natCast]
  have hcells : DV.cells (.agg x.row) = x.row := rfl
  rw [hcells]
  unfold setRow
  rw [hrk]
  have hsp : splice zrow 0 x.row = (Fire.mk x false false 0).row := rfl
  have hone : (0 + x.row.length ≤ zrow.length ∧ x.row.all DV.one = true) := ⟨by show 0 + 4 ≤ 7; decide, rfl⟩
  simp only [hone, and_self, if_true, hsp]
  congr 1
  unfold rowsA
  rw [List.take_add_one, hx, List.map_append, List.set_append_right _ _ (by simp; omega)]
  have e : k - ((tab.take k).map fun x => (Fire.mk x false false 0).row).length = 0 := by simp; omega
  rw [e, show tab.length - k = (tab.length - (k + 1)) + 1 by omega, List.replicate_succ]
  simp
def RepOk (tab : List Inj) (log : List Ev) (H : DH) (r : DV) (H' : DH) : Prop :=
  Above H H' ∧ if tabOk tab = true ∧ evOk log = true then ∃ b, r = .tuple [.sl (some (b, 0, 7)) tab.length tab.length true, .int .i64 0] ∧ H'.obj b = some (.rows false 7 ((reportC tab log).fires.map Fire.row)) ∧ H.next ≤ b ∧ b < H'.next else r = .tuple [.sl none 0 0 true, .int .i64 1]
theorem report12 {tab : List Inj} {log : List Ev} {p p2 : Option (Nat × Nat × Nat)} {c c2 : Nat} {ex ex2 : Bool} {H : DH} (hl1 : tab.length ≤ 9223372036854775807) (hl2 : log.length ≤ 9223372036854775807) (hs : Sl H 4 (tab.map Inj.row) p) (hs2 : Sl H 5 (log.map Ev.row) p2) :
    CallWp Tryd.prog X3 12 [.sl p tab.length c ex, .sl p2 log.length c2 ex2] H (fun r H' => RepOk tab log H r H') := by
  have hB : Bx H H [] [] := Bx.init (fun f hf => by cases hf)
  unfold RepOk
  cases ht : tabOk tab with
  | false =>
    refine enter rfl Tryd.func12 rfl Tryd.ntmps12 rfl ?_
    dsimp only [List.cons_append, List.nil_append, List.length_cons, List.length_nil, List.replicate_succ, List.replicate_zero, Nat.reduceAdd, Nat.reduceSub]
    repeat' (first
      | dsimp only [putD, DV.cells, DH.new_next, DH.set_next, List.length_cons, List.length_nil, Nat.reduceAdd, List.set_cons_zero, List.set_cons_succ, getD_zero, getD_succ, fieldAt_zero, fieldAt_succ, thenD, blockD, retR]
      | apply dwp_seq
      | apply dwp_region
      | apply ops_nil
      | (apply ops_plain; (· exact rfl))
      | (apply ops_off0; (· exact rfl); (· exact rfl); (· (first | with_reducible assumption | with_reducible rfl | decide)))
      | (apply op_call; (· exact rfl); (· exact rfl); (· exact rfl); (refine (check20 hl1 (hs.mono hB.ab)).mono ?_; rintro r H' ⟨rfl, hab⟩; replace hB := hB.grow hab; simp only [ht, if_true, Bool.false_eq_true, if_false]))
      | (apply op_pick_t; (· exact rfl); (· exact rfl); (· (first | with_reducible assumption | with_reducible rfl | decide)); (· exact rfl))
      | (apply op_at; (· exact rfl))
      | (apply dwp_cond_t; (· exact rfl); (· (first | with_reducible assumption | with_reducible rfl | decide)))
      | apply dwp_ret
      | (refine ⟨_, rfl, ?_⟩)
      | fail)
    exact ⟨hB.ab, by simp⟩
  | true =>
    cases he : evOk log with
    | false =>
      refine enter rfl Tryd.func12 rfl Tryd.ntmps12 rfl ?_
      dsimp only [List.cons_append, List.nil_append, List.length_cons, List.length_nil, List.replicate_succ, List.replicate_zero, Nat.reduceAdd, Nat.reduceSub]
      repeat' (first
        | dsimp only [putD, DV.cells, DH.new_next, DH.set_next, List.length_cons, List.length_nil, Nat.reduceAdd, List.set_cons_zero, List.set_cons_succ, getD_zero, getD_succ, fieldAt_zero, fieldAt_succ, thenD, blockD, retR]
        | apply dwp_seq
        | apply dwp_region
        | apply ops_nil
        | (apply ops_plain; (· exact rfl))
        | (apply ops_on; (· exact rfl); (· exact rfl); (· (first | with_reducible assumption | with_reducible rfl | decide)))
        | (apply op_call; (· exact rfl); (· exact rfl); (· exact rfl); (refine (check20 hl1 (hs.mono hB.ab)).mono ?_; rintro r H' ⟨rfl, hab⟩; replace hB := hB.grow hab; simp only [ht, if_true, Bool.false_eq_true, if_false]))
        | (apply op_call; (· exact rfl); (· exact rfl); (· exact rfl); (refine (check21 hl2 (hs2.mono hB.ab)).mono ?_; rintro r H' ⟨rfl, hab⟩; replace hB := hB.grow hab; simp only [he, if_true, Bool.false_eq_true, if_false]))
        | (apply op_pick_f; (· exact rfl); (· exact rfl); (· (first | with_reducible assumption | with_reducible rfl | decide)); (· exact rfl))
        | (apply op_at; (· exact rfl))
        | (apply dwp_cond_t; (· exact rfl); (· (first | with_reducible assumption | with_reducible rfl | decide)))
        | apply dwp_ret
        | (refine ⟨_, rfl, ?_⟩)
        | fail)
      exact ⟨hB.ab, by simp⟩
    | true =>
      have hn : tab.length ≤ mostD := by
        unfold tabOk at ht
        simp at ht
        unfold mostD; omega
      refine enter rfl Tryd.func12 rfl Tryd.ntmps12 rfl ?_
      dsimp only [List.cons_append, List.nil_append, List.length_cons, List.length_nil, List.replicate_succ, List.replicate_zero, Nat.reduceAdd, Nat.reduceSub]
      repeat' (first
        | dsimp only [putD, DV.cells, DH.new_next, DH.set_next, List.length_cons, List.length_nil, Nat.reduceAdd, List.set_cons_zero, List.set_cons_succ, getD_zero, getD_succ, fieldAt_zero, fieldAt_succ, thenD, blockD, retR]
        | apply dwp_seq
        | apply dwp_region
        | apply ops_nil
        | (apply ops_plain; (· exact rfl))
        | (apply ops_on; (· exact rfl); (· exact rfl); (· (first | with_reducible assumption | with_reducible rfl | decide)))
        | (apply op_call; (· exact rfl); (· exact rfl); (· exact rfl); (refine (check20 hl1 (hs.mono hB.ab)).mono ?_; rintro r H' ⟨rfl, hab⟩; replace hB := hB.grow hab; simp only [ht, if_true, Bool.false_eq_true, if_false]))
        | (apply op_call; (· exact rfl); (· exact rfl); (· exact rfl); (refine (check21 hl2 (hs2.mono hB.ab)).mono ?_; rintro r H' ⟨rfl, hab⟩; replace hB := hB.grow hab; simp only [he, if_true, Bool.false_eq_true, if_false]))
        | (apply op_pick_f; (· exact rfl); (· exact rfl); (· (first | with_reducible assumption | with_reducible rfl | decide)); (· exact rfl))
        | (apply bx_makemap; (· exact rfl); (· exact rfl); (· assumption); intro bm H1 hB)
        | (apply bx_makeL et24; (· exact rfl); (· exact rfl); (· exact rfl); (· exact hn); (· assumption); intro bf H1 hB)
        | (apply op_at; (· exact rfl))
        | (apply dwp_cond_f; (· exact rfl); (· (first | with_reducible assumption | with_reducible rfl | decide)))
        | apply dwp_block
        | apply dwp_skip
        | fail)
      have hB0 : Bx H H1 [(bf, .rows false 7 (rowsA tab 0)), (bm, .map [])] [] := hB
      refine dwp_loop (fun st => ∃ (M : List Qe) (H1 : DH) (k : Nat), ∃ J : Nat → DV, (Bx H H1 ((bf, .rows false 7 (rowsA tab k)) :: (bm, .map (mapE Ev.dv (M.map Qe.kv))) :: M.flatMap Qe.bx) [] ∧ k ≤ tab.length ∧ QRel M (queue0 tab k) ∧ ∀ e ∈ M, Own1 1 (e.l.map natRow) e.s e.bx) ∧ st = ⟨(.sl p tab.length c ex :: .sl p2 log.length c2 ex2 :: J 2 :: J 3 :: J 4 :: J 5 :: .map (some bm) :: .sl (some (bf, 0, 7)) tab.length tab.length true :: J 8 :: J 9 :: J 10 :: J 11 :: J 12 :: J 13 :: J 14 :: J 15 :: J 16 :: J 17 :: J 18 :: J 19 :: J 20 :: J 21 :: J 22 :: J 23 :: J 24 :: J 25 :: J 26 :: J 27 :: J 28 :: J 29 :: .sl p tab.length c ex :: .int .i64 (tab.length : Int) :: .int .i64 (k : Int) :: J 33 :: J 34 :: J 35 :: J 36 :: J 37 :: J 38 :: J 39 :: J 40 :: J 41 :: J 42 :: J 43 :: J 44 :: J 45 :: J 46 :: J 47 :: J 48 :: J 49 :: J 50 :: J 51 :: J 52 :: J 53 :: J 54 :: J 55 :: J 56 :: J 57 :: J 58 :: J 59 :: J 60 :: J 61 :: J 62 :: J 63 :: J 64 :: J 65 :: J 66 :: J 67 :: J 68 :: J 69 :: J 70 :: J 71 :: J 72 :: J 73 :: J 74 :: J 75 :: J 76 :: J 77 :: J 78 :: J 79 :: J 80 :: J 81 :: J 82 :: J 83 :: J 84 :: J 85 :: J 86 :: J 87 :: J 88 :: J 89 :: J 90 :: J 91 :: J 92 :: J 93 :: J 94 :: J 95 :: J 96 :: J 97 :: J 98 :: J 99 :: J 100 :: J 101 :: J 102 :: J 103 :: J 104 :: J 105 :: J 106 :: J 107 :: J 108 :: J 109 :: J 110 :: J 111 :: J 112 :: J 113 :: J 114 :: J 115 :: J 116 :: J 117 :: J 118 :: J 119 :: J 120 :: []), H1⟩) (fun st => tab.length - kOf st 32) (⟨[], _, 0, junk_facts (⟨hB0, Nat.zero_le _, ⟨fun e h => absurd h (by simp), fun y _ => rfl, by simp⟩, fun e h => absurd h (by simp)⟩) rfl rfl⟩) ?_
      rintro st ⟨M, H1, k, J, ⟨hB, hk, hQ, hO⟩, rfl⟩
      by_cases hlt : k < tab.length
      · obtain ⟨x, hx⟩ : ∃ x, tab[k]? = some x := ⟨tab[k], List.getElem?_eq_getElem hlt⟩
        obtain ⟨loc, i0, ro, rs, rfl, hloc, ho, hrx⟩ := hs.rd (k := k) (r := x.row) (by rw [List.getElem?_map, hx]; rfl)
        have hr1 : rs[i0 + ((k : Int)).toNat]? = some x.row := by rw [Int.toNat_natCast]; exact hrx
        have hc : decide ((k : Int) < (tab.length : Int)) = true := by simp [hlt]
        have hin1 : 0 ≤ (k : Int) ∧ (k : Int) < (tab.length : Int) := by omega
        have hn' : tab.length ≤ 9223372036854775807 := hl1
        have hw : IntKind.i64.wrap ((k : Int) + 1) = ((k + 1 : Nat) : Int) := by rw [wrapI (by omega)]; rfl
        have hset := rowsA_set hx
        rcases find_q (keyOf x) M with ⟨M1, e, M2, rfl, hek, hne, hfind⟩ | ⟨hno, hfind⟩
        · have hfd : findD Tryd.prog 34 (.agg [.int .i64 x.t, .int .i64 11, .int .i64 x.w, .int .i64 x.k, .int .i64 x.u]) (mapE Ev.dv ((M1 ++ e :: M2).map Qe.kv)) = some (some (M1.length, e.s)) := by
            have h := find_mapE (P := Tryd.prog) (kt := 34) (kd := Ev.dv) keqEv (keyOf x) ((M1 ++ e :: M2).map Qe.kv)
            rw [hfind] at h
            exact h
          have hent : (mapE Ev.dv ((M1 ++ e :: M2).map Qe.kv))[M1.length]? = some (.agg [.int .i64 x.t, .int .i64 11, .int .i64 x.w, .int .i64 x.k, .int .i64 x.u], e.s) := by
            unfold mapE
            rw [List.map_map, List.getElem?_map, List.getElem?_append_right (Nat.le_refl _), Nat.sub_self, List.getElem?_cons_zero]
            show some (Ev.dv e.key, e.s) = _
            rw [hek]; rfl
          have hsame : (mapE Ev.dv ((M1 ++ e :: M2).map Qe.kv)).set M1.length (.agg [.int .i64 x.t, .int .i64 11, .int .i64 x.w, .int .i64 x.k, .int .i64 x.u], e.s) = mapE Ev.dv ((M1 ++ e :: M2).map Qe.kv) := by
            obtain ⟨h1, h2⟩ := List.getElem?_eq_some_iff.mp hent
            rw [← h2, List.set_getElem_self]
          have hoe := hO e (by simp)
          have hel : e.l.length ≤ k := by
            rw [hQ.at' e (by simp)]
            exact Nat.le_trans (List.length_filter_le _ _) (by simp)
          have hlen1 : (e.l.map natRow).length + [natRow k].length ≤ mostD := by
            rw [List.length_map]; show e.l.length + 1 ≤ _; unfold mostD at hn ⊢; omega
          rw [show (M1 ++ e :: M2).flatMap Qe.bx = M1.flatMap Qe.bx ++ (e.bx ++ M2.flatMap Qe.bx) by simp] at hB
          repeat' (first
            | dsimp only [putD, DV.cells, DH.new_next, DH.set_next, List.length_cons, List.length_nil, Nat.reduceAdd, List.set_cons_zero, List.set_cons_succ, getD_zero, getD_succ, fieldAt_zero, fieldAt_succ, thenD, blockD, retR]
            | apply dwp_seq
            | apply dwp_region
            | apply ops_nil
            | (apply ops_plain; (· exact rfl))
            | (apply op_index_at; (· exact rfl); (· exact rfl); (· exact rfl); (· with_reducible exact hin1); (· exact rfl); (· exact rfl))
            | (apply op_load_at; (· exact rfl); (· exact rfl); (· exact hB.ab.obj hloc ho); (· exact hr1); (· exact partInjR x))
            | (apply bx_store; (· exact rfl); (· exact rfl); (· exact rfl); (· assumption); (· (repeat (first | with_reducible exact Upd.here | with_reducible apply Upd.there))); (· exact hset); (· exact rfl); (· exact rfl); intro H1 hB)
            | (apply op_told; (· exact rfl); (· exact congrArg (DV.int _) hw))
            | (apply bx_buildL et66; (· exact rfl); (· exact rfl); (· exact rfl); (· decide); (· assumption); intro bk H1 hB)
            | (apply bx_entry1 (hf := hfd) (hko := keyOkE (keyOf x)); (· exact rfl); (· exact rfl); (· exact rfl); (· exact rfl); (· exact zero66); (· assumption); (· (repeat (first | with_reducible exact Upd.here | with_reducible apply Upd.there))); (· exact hsame.symm); (· exact rfl); intro H1 hB)
            | (apply op_append_own (new := [natRow k]); (· exact rfl); (· exact rfl); (· exact rfl); (· exact et66); (· exact hoe); (· assumption); (· (repeat (first | with_reducible exact Ctx.here | with_reducible apply Ctx.cons | with_reducible apply Ctx.app))); (· exact appended_box rfl (by assumption) At.here); (· simp); (· exact rfl); (· exact hlen1); intro s' x' H1 o' hB)
            | (apply bx_entryStore (hi := hent) (v := s'); (· exact rfl); (· exact rfl); (· exact rfl); (· exact rfl); (· assumption); (· (repeat (first | with_reducible exact Upd.here | with_reducible apply Upd.there))); (· exact rfl); (· exact rfl); intro H1 hB)
            | (apply bx_load0; (· exact rfl); (· exact rfl); (· assumption); (· (repeat (first | with_reducible exact At.here | with_reducible apply At.there))); (· (first | exact partInj _ _ _ _ | exact partEv _ _ _ _ _ | exact partFire _ _ _ _ _ _ _ | exact rfl)))
            | (apply bx_store0; (· exact rfl); (· exact rfl); (· exact rfl); (· assumption); (· (first | (dsimp only [putD, DV.cells, DH.new_next, DH.set_next, List.length_cons, List.length_nil, Nat.reduceAdd, List.set_cons_zero, List.set_cons_succ, getD_zero, getD_succ, fieldAt_zero, fieldAt_succ, thenD, blockD, retR, Sv.cells]; done) | (dsimp only [putD, DV.cells, DH.new_next, DH.set_next, List.length_cons, List.length_nil, Nat.reduceAdd, List.set_cons_zero, List.set_cons_succ, getD_zero, getD_succ, fieldAt_zero, fieldAt_succ, thenD, blockD, retR, Sv.cells]; exact rfl) | exact rfl)); (· (repeat (first | with_reducible exact Upd.here | with_reducible apply Upd.there))); (· exact rfl); (· exact rfl); (· exact rfl); (· exact rfl); intro H1 hB)
            | (apply bx_alloc; (· exact rfl); (· exact zero30); (· (first | (dsimp only [putD, DV.cells, DH.new_next, DH.set_next, List.length_cons, List.length_nil, Nat.reduceAdd, List.set_cons_zero, List.set_cons_succ, getD_zero, getD_succ, fieldAt_zero, fieldAt_succ, thenD, blockD, retR, Sv.cells]; done) | (dsimp only [putD, DV.cells, DH.new_next, DH.set_next, List.length_cons, List.length_nil, Nat.reduceAdd, List.set_cons_zero, List.set_cons_succ, getD_zero, getD_succ, fieldAt_zero, fieldAt_succ, thenD, blockD, retR, Sv.cells]; exact rfl) | exact rfl)); (· exact rfl); (· exact rfl); (· exact rfl); (· assumption); intro b1 H1 hB)
            | (apply bx_alloc; (· exact rfl); (· exact zero34); (· (first | (dsimp only [putD, DV.cells, DH.new_next, DH.set_next, List.length_cons, List.length_nil, Nat.reduceAdd, List.set_cons_zero, List.set_cons_succ, getD_zero, getD_succ, fieldAt_zero, fieldAt_succ, thenD, blockD, retR, Sv.cells]; done) | (dsimp only [putD, DV.cells, DH.new_next, DH.set_next, List.length_cons, List.length_nil, Nat.reduceAdd, List.set_cons_zero, List.set_cons_succ, getD_zero, getD_succ, fieldAt_zero, fieldAt_succ, thenD, blockD, retR, Sv.cells]; exact rfl) | exact rfl)); (· exact rfl); (· exact rfl); (· exact rfl); (· assumption); intro b1 H1 hB)
            | (apply op_at; (· exact rfl))
            | (apply dwp_cond_t; (· exact rfl); (· (first | with_reducible assumption | with_reducible rfl | decide)))
            | apply dwp_block
            | apply dwp_skip
            | fail)
          have hnewm : (mapE Ev.dv ((M1 ++ e :: M2).map Qe.kv)).set M1.length (.agg [.int .i64 x.t, .int .i64 11, .int .i64 x.w, .int .i64 x.k, .int .i64 x.u], s') = mapE Ev.dv ((M1 ++ ⟨e.key, e.l ++ [k], s', x'⟩ :: M2).map Qe.kv) := by
            unfold mapE
            rw [List.map_append, List.map_append, List.map_cons, List.map_cons, List.map_append, List.map_append, List.map_cons, List.map_cons, List.set_append_right _ _ (by simp)]
            have e0 : M1.length - ((M1.map Qe.kv).map fun x => (Ev.dv x.1, x.2)).length = 0 := by simp
            rw [e0, List.set_cons_zero]
            show _ = _ ++ (Ev.dv e.key, s') :: _
            rw [hek]; rfl
          rw [hnewm] at hB
          have hBn := hB.sub (bs' := (bf, .rows false 7 (rowsA tab (k + 1))) :: (bm, .map (mapE Ev.dv ((M1 ++ ⟨e.key, e.l ++ [k], s', x'⟩ :: M2).map Qe.kv))) :: (M1.flatMap Qe.bx ++ (x' ++ M2.flatMap Qe.bx))) (by (repeat (first | exact List.Sublist.refl _ | exact List.nil_sublist _ | apply List.Sublist.cons_cons | apply List.Sublist.cons | apply List.Sublist.append_left | refine List.Sublist.trans ?_ (List.sublist_append_right _ _))))
          refine ⟨⟨M1 ++ ⟨e.key, e.l ++ [k], s', x'⟩ :: M2, _, k + 1, junk_facts ⟨?_, by omega, ?_, ?_⟩ rfl rfl⟩, ?_⟩
          · rw [show (M1 ++ (⟨e.key, e.l ++ [k], s', x'⟩ : Qe) :: M2).flatMap Qe.bx = M1.flatMap Qe.bx ++ (x' ++ M2.flatMap Qe.bx) by simp]
            exact hBn
          · refine hQ.upd rfl ?_ fun y hy => ?_
            · show e.l ++ [k] = _
              rw [queue0_succ hx, if_pos hek, ← hQ.at' e (by simp)]
            · rw [queue0_succ hx, if_neg (by rw [← hek]; exact hy)]
          · intro d hd
            rcases List.mem_append.mp hd with hd | hd
            · exact hO d (List.mem_append_left _ hd)
            · rcases List.mem_cons.mp hd with rfl | hd
              · show Own1 1 ((e.l ++ [k]).map natRow) s' x'
                rw [List.map_append]; exact o'
              · exact hO d (List.mem_append_right _ (List.mem_cons_of_mem _ hd))
          · show tab.length - ((k + 1 : Nat) : Int).toNat < tab.length - (k : Int).toNat
            omega
        · have hfd0 : findD Tryd.prog 34 (.agg [.int .i64 x.t, .int .i64 11, .int .i64 x.w, .int .i64 x.k, .int .i64 x.u]) (mapE Ev.dv (M.map Qe.kv)) = some none := by
            have h := find_mapE (P := Tryd.prog) (kt := 34) (kd := Ev.dv) keqEv (keyOf x) (M.map Qe.kv)
            rw [hfind] at h
            exact h
          have hent : (mapE Ev.dv (M.map Qe.kv) ++ [((.agg (keyOf x).row : DV), (.sl none 0 0 true : DV))])[(mapE Ev.dv (M.map Qe.kv)).length]? = some (.agg (keyOf x).row, .sl none 0 0 true) := by
            rw [List.getElem?_append_right (Nat.le_refl _), Nat.sub_self]; rfl
          have hlen0 : (([] : List (List DV))).length + [natRow k].length ≤ mostD := by show 0 + 1 ≤ mostD; unfold mostD; omega
          repeat' (first
            | dsimp only [putD, DV.cells, DH.new_next, DH.set_next, List.length_cons, List.length_nil, Nat.reduceAdd, List.set_cons_zero, List.set_cons_succ, getD_zero, getD_succ, fieldAt_zero, fieldAt_succ, thenD, blockD, retR]
            | apply dwp_seq
            | apply dwp_region
            | apply ops_nil
            | (apply ops_plain; (· exact rfl))
            | (apply op_index_at; (· exact rfl); (· exact rfl); (· exact rfl); (· with_reducible exact hin1); (· exact rfl); (· exact rfl))
            | (apply op_load_at; (· exact rfl); (· exact rfl); (· exact hB.ab.obj hloc ho); (· exact hr1); (· exact partInjR x))
            | (apply bx_store; (· exact rfl); (· exact rfl); (· exact rfl); (· assumption); (· (repeat (first | with_reducible exact Upd.here | with_reducible apply Upd.there))); (· exact hset); (· exact rfl); (· exact rfl); intro H1 hB)
            | (apply op_told; (· exact rfl); (· exact congrArg (DV.int _) hw))
            | (apply bx_buildL et66; (· exact rfl); (· exact rfl); (· exact rfl); (· decide); (· assumption); intro bk H1 hB)
            | (apply bx_entry0 (hf := hfd0) (hko := keyOkE (keyOf x)); (· exact rfl); (· exact rfl); (· exact rfl); (· exact rfl); (· exact zero66); (· assumption); (· (repeat (first | with_reducible exact Upd.here | with_reducible apply Upd.there | with_reducible apply upd_app58))); (· exact rfl); (· exact rfl); intro H1 hB)
            | (apply op_append_own (new := [natRow k]) (R := []) (bx := []) (s := .sl none 0 0 true); (· exact rfl); (· exact rfl); (· exact rfl); (· exact et66); (· exact .nil rfl); (· assumption); (· exact Ctx.here (bx := [])); (· exact appended_box rfl (by assumption) At.here); (· simp); (· exact rfl); (· exact hlen0); intro s' x' H1 o' hB)
            | (apply bx_entryStore (hi := hent) (v := s'); (· exact rfl); (· exact rfl); (· exact rfl); (· exact rfl); (· assumption); (· (repeat (first | with_reducible exact Upd.here | with_reducible apply Upd.there | with_reducible apply upd_app58))); (· exact rfl); (· exact rfl); intro H1 hB)
            | (apply bx_load0; (· exact rfl); (· exact rfl); (· assumption); (· (repeat (first | with_reducible exact At.here | with_reducible apply At.there | with_reducible apply at_app58))); (· (first | exact partInj _ _ _ _ | exact partEv _ _ _ _ _ | exact partFire _ _ _ _ _ _ _ | exact rfl)))
            | (apply bx_store0; (· exact rfl); (· exact rfl); (· exact rfl); (· assumption); (· (first | (dsimp only [putD, DV.cells, DH.new_next, DH.set_next, List.length_cons, List.length_nil, Nat.reduceAdd, List.set_cons_zero, List.set_cons_succ, getD_zero, getD_succ, fieldAt_zero, fieldAt_succ, thenD, blockD, retR, Sv.cells]; done) | (dsimp only [putD, DV.cells, DH.new_next, DH.set_next, List.length_cons, List.length_nil, Nat.reduceAdd, List.set_cons_zero, List.set_cons_succ, getD_zero, getD_succ, fieldAt_zero, fieldAt_succ, thenD, blockD, retR, Sv.cells]; exact rfl) | exact rfl)); (· (repeat (first | with_reducible exact Upd.here | with_reducible apply Upd.there | with_reducible apply upd_app58))); (· exact rfl); (· exact rfl); (· exact rfl); (· exact rfl); intro H1 hB)
            | (apply bx_alloc; (· exact rfl); (· exact zero30); (· (first | (dsimp only [putD, DV.cells, DH.new_next, DH.set_next, List.length_cons, List.length_nil, Nat.reduceAdd, List.set_cons_zero, List.set_cons_succ, getD_zero, getD_succ, fieldAt_zero, fieldAt_succ, thenD, blockD, retR, Sv.cells]; done) | (dsimp only [putD, DV.cells, DH.new_next, DH.set_next, List.length_cons, List.length_nil, Nat.reduceAdd, List.set_cons_zero, List.set_cons_succ, getD_zero, getD_succ, fieldAt_zero, fieldAt_succ, thenD, blockD, retR, Sv.cells]; exact rfl) | exact rfl)); (· exact rfl); (· exact rfl); (· exact rfl); (· assumption); intro b1 H1 hB)
            | (apply bx_alloc; (· exact rfl); (· exact zero34); (· (first | (dsimp only [putD, DV.cells, DH.new_next, DH.set_next, List.length_cons, List.length_nil, Nat.reduceAdd, List.set_cons_zero, List.set_cons_succ, getD_zero, getD_succ, fieldAt_zero, fieldAt_succ, thenD, blockD, retR, Sv.cells]; done) | (dsimp only [putD, DV.cells, DH.new_next, DH.set_next, List.length_cons, List.length_nil, Nat.reduceAdd, List.set_cons_zero, List.set_cons_succ, getD_zero, getD_succ, fieldAt_zero, fieldAt_succ, thenD, blockD, retR, Sv.cells]; exact rfl) | exact rfl)); (· exact rfl); (· exact rfl); (· exact rfl); (· assumption); intro b1 H1 hB)
            | (apply op_at; (· exact rfl))
            | (apply dwp_cond_t; (· exact rfl); (· (first | with_reducible assumption | with_reducible rfl | decide)))
            | apply dwp_block
            | apply dwp_skip
            | fail)
          have hnewm : (mapE Ev.dv (M.map Qe.kv) ++ [((.agg (keyOf x).row : DV), (.sl none 0 0 true : DV))]).set (mapE Ev.dv (M.map Qe.kv)).length (.agg (keyOf x).row, s') = mapE Ev.dv ((M ++ [(⟨keyOf x, [k], s', x'⟩ : Qe)]).map Qe.kv) := by
            rw [List.set_append_right _ _ (Nat.le_refl _), Nat.sub_self, List.set_cons_zero]
            unfold mapE
            rw [List.map_append, List.map_append]
            rfl
          rw [hnewm] at hB
          have hBn := hB.sub (bs' := x' ++ ((bf, .rows false 7 (rowsA tab (k + 1))) :: (bm, .map (mapE Ev.dv ((M ++ [(⟨keyOf x, [k], s', x'⟩ : Qe)]).map Qe.kv))) :: M.flatMap Qe.bx)) (by (repeat (first | exact List.Sublist.refl _ | exact List.nil_sublist _ | apply List.Sublist.cons_cons | apply List.Sublist.cons | apply List.Sublist.append_left | refine List.Sublist.trans ?_ (List.sublist_append_right _ _))))
          refine ⟨⟨M ++ [(⟨keyOf x, [k], s', x'⟩ : Qe)], _, k + 1, junk_facts ⟨?_, by omega, ?_, ?_⟩ rfl rfl⟩, ?_⟩
          · rw [show (M ++ [(⟨keyOf x, [k], s', x'⟩ : Qe)]).flatMap Qe.bx = M.flatMap Qe.bx ++ x' by simp]
            exact hBn.perm (List.perm_append_comm)
          · refine hQ.add hno ?_ fun y hy => ?_
            · show [k] = _
              rw [queue0_succ hx, if_pos rfl, hQ.no (keyOf x) hno]; rfl
            · rw [queue0_succ hx, if_neg hy]
          · intro d hd
            rcases List.mem_append.mp hd with hd | hd
            · exact hO d hd
            · rw [List.mem_singleton] at hd; subst hd
              exact o'
          · show tab.length - ((k + 1 : Nat) : Int).toNat < tab.length - (k : Int).toNat
            omega
      · have hkn : k = tab.length := by omega
        subst hkn
        obtain ⟨hBf, hS0⟩ := q_freeze (hB.perm (List.perm_append_comm (l₁ := [_, _]) (l₂ := M.flatMap Qe.bx))) hO
        clear hB
        have hB := hBf
        clear hBf
        have hc : decide ((tab.length : Int) < (tab.length : Int)) = false := by simp
        repeat' (first
          | dsimp only [putD, DV.cells, DH.new_next, DH.set_next, List.length_cons, List.length_nil, Nat.reduceAdd, List.set_cons_zero, List.set_cons_succ, getD_zero, getD_succ, fieldAt_zero, fieldAt_succ, thenD, blockD, retR]
          | apply dwp_seq
          | apply dwp_region
          | apply ops_nil
          | (apply ops_plain; (· exact rfl))
          | (apply bx_buildL et66; (· exact rfl); (· exact rfl); (· exact rfl); (· decide); (· assumption); intro bo H1 hB)
          | (apply op_at; (· exact rfl))
          | (apply dwp_cond_f; (· exact rfl); (· (first | with_reducible assumption | with_reducible rfl | decide)))
          | apply dwp_block
          | apply dwp_exit
          | fail)
        have hB1 : Bx H H1 [(bf, .rows false 7 ((stC tab log 0).fires.map Fire.row)), (bm, .map (mapE Ev.dv (M.map Qe.kv))), (bo, .rows false 1 [])] [QF M] := by
          have h := hB.perm (List.perm_append_comm (l₁ := [_]) (l₂ := [_, _]))
          have e : rowsA tab tab.length = (stC tab log 0).fires.map Fire.row := by
            unfold rowsA
            rw [Nat.sub_self, List.take_length, List.replicate_zero, List.append_nil]
            show _ = ((tab.map fun x => Fire.mk x false false 0)).map Fire.row
            rw [List.map_map]; rfl
          rw [← e]; exact h
        have hl20 : log.length ≤ 20000 := by
          unfold evOk at he
          simp only [Bool.and_eq_true, Bool.not_eq_true', Bool.or_eq_false_iff, decide_eq_false_iff_not] at he
          omega
        refine dwp_loop (fun st => ∃ (s : CSt) (M1 : List Qe) (H1 : DH) (j bo co : Nat) (exo : Bool) (ro : List (List DV)), ∃ J : Nat → DV, (Bx H H1 [(bf, .rows false 7 (s.fires.map Fire.row)), (bm, .map (mapE Ev.dv (M1.map Qe.kv))), (bo, .rows false 1 ro)] [QF M] ∧ j ≤ log.length ∧ s = stC tab log j ∧ QRel M1 s.q ∧ (∀ e ∈ M1, SubQ M e) ∧ OpenR s.op co ro ∧ s.op.length ≤ j) ∧ st = ⟨(.sl p tab.length c ex :: .sl p2 log.length c2 ex2 :: J 2 :: J 3 :: J 4 :: J 5 :: .map (some bm) :: .sl (some (bf, 0, 7)) tab.length tab.length true :: J 8 :: J 9 :: J 10 :: .sl (some (bo, 0, 1)) s.op.length co exo :: J 12 :: J 13 :: J 14 :: J 15 :: J 16 :: J 17 :: J 18 :: J 19 :: J 20 :: J 21 :: J 22 :: J 23 :: J 24 :: J 25 :: J 26 :: J 27 :: J 28 :: J 29 :: J 30 :: J 31 :: J 32 :: J 33 :: J 34 :: J 35 :: J 36 :: J 37 :: J 38 :: J 39 :: J 40 :: J 41 :: J 42 :: J 43 :: J 44 :: J 45 :: J 46 :: J 47 :: J 48 :: J 49 :: J 50 :: J 51 :: J 52 :: J 53 :: J 54 :: J 55 :: J 56 :: J 57 :: J 58 :: J 59 :: J 60 :: .sl p2 log.length c2 ex2 :: .int .i64 (log.length : Int) :: .int .i64 (j : Int) :: J 64 :: J 65 :: J 66 :: J 67 :: J 68 :: J 69 :: J 70 :: J 71 :: J 72 :: J 73 :: J 74 :: J 75 :: J 76 :: J 77 :: J 78 :: J 79 :: J 80 :: J 81 :: J 82 :: J 83 :: J 84 :: J 85 :: J 86 :: J 87 :: J 88 :: J 89 :: J 90 :: J 91 :: J 92 :: J 93 :: J 94 :: J 95 :: J 96 :: J 97 :: J 98 :: J 99 :: J 100 :: J 101 :: J 102 :: J 103 :: J 104 :: J 105 :: J 106 :: J 107 :: J 108 :: J 109 :: J 110 :: J 111 :: J 112 :: J 113 :: J 114 :: J 115 :: J 116 :: J 117 :: J 118 :: J 119 :: J 120 :: []), H1⟩) (fun st => log.length - kOf st 63) (⟨stC tab log 0, M, _, 0, bo, 0, true, [], junk_facts (⟨hB1, Nat.zero_le _, rfl, hQ, hS0, ⟨rfl, Nat.le_refl _, rfl⟩, Nat.le_refl _⟩) rfl rfl⟩) ?_
        rintro st ⟨s, M1, H1, j, bo, co, exo, ro, J, ⟨hB, hj, hs1, hQ1, hS1, hOp, hoj⟩, rfl⟩
        have hW := stC_wf tab log j
        rw [← hs1] at hW
        by_cases hlt2 : j < log.length
        · obtain ⟨y, hy⟩ : ∃ y, log[j]? = some y := ⟨log[j], List.getElem?_eq_getElem hlt2⟩
          obtain ⟨loc2, i2, ro2, rs2, rfl, hloc2, ho2, hrx2⟩ := hs2.rd (k := j) (r := y.row) (by rw [List.getElem?_map, hy]; rfl)
          have hr2 : rs2[i2 + ((j : Int)).toNat]? = some y.row := by rw [Int.toNat_natCast]; exact hrx2
          have hc2 : decide ((j : Int) < (log.length : Int)) = true := by simp [hlt2]
          have hinj : 0 ≤ (j : Int) ∧ (j : Int) < (log.length : Int) := by omega
          have hw2 : IntKind.i64.wrap ((j : Int) + 1) = ((j + 1 : Nat) : Int) := by rw [wrapI (by omega)]; rfl
          have h0c : (0 : Int) ≤ 0 ∧ (0 : Int) ≤ (co : Int) := ⟨Int.le_refl _, by omega⟩
          repeat' (first
            | dsimp only [putD, DV.cells, DH.new_next, DH.set_next, List.length_cons, List.length_nil, Nat.reduceAdd, List.set_cons_zero, List.set_cons_succ, getD_zero, getD_succ, fieldAt_zero, fieldAt_succ, thenD, blockD, retR]
            | apply dwp_seq
            | apply dwp_region
            | apply ops_nil
            | (apply ops_plain; (· exact rfl))
            | (apply op_index_at; (· exact rfl); (· exact rfl); (· exact rfl); (· with_reducible exact hinj); (· exact rfl); (· exact rfl))
            | (apply op_load_at; (· exact rfl); (· exact rfl); (· exact hB.ab.obj hloc2 ho2); (· exact hr2); (· exact partEvR y))
            | (apply op_at; (· exact opD_slice_hi rfl rfl rfl rfl rfl h0c))
            | (apply bx_store0; (· exact rfl); (· exact rfl); (· exact rfl); (· assumption); (· (first | (dsimp only [putD, DV.cells, DH.new_next, DH.set_next, List.length_cons, List.length_nil, Nat.reduceAdd, List.set_cons_zero, List.set_cons_succ, getD_zero, getD_succ, fieldAt_zero, fieldAt_succ, thenD, blockD, retR, Sv.cells]; done) | (dsimp only [putD, DV.cells, DH.new_next, DH.set_next, List.length_cons, List.length_nil, Nat.reduceAdd, List.set_cons_zero, List.set_cons_succ, getD_zero, getD_succ, fieldAt_zero, fieldAt_succ, thenD, blockD, retR, Sv.cells]; exact rfl) | exact rfl)); (· (repeat (first | with_reducible exact Upd.here | with_reducible apply Upd.there))); (· exact rfl); (· exact rfl); (· exact rfl); (· exact rfl); intro H1 hB)
            | (apply bx_alloc; (· exact rfl); (· exact zero34); (· (first | (dsimp only [putD, DV.cells, DH.new_next, DH.set_next, List.length_cons, List.length_nil, Nat.reduceAdd, List.set_cons_zero, List.set_cons_succ, getD_zero, getD_succ, fieldAt_zero, fieldAt_succ, thenD, blockD, retR, Sv.cells]; done) | (dsimp only [putD, DV.cells, DH.new_next, DH.set_next, List.length_cons, List.length_nil, Nat.reduceAdd, List.set_cons_zero, List.set_cons_succ, getD_zero, getD_succ, fieldAt_zero, fieldAt_succ, thenD, blockD, retR, Sv.cells]; exact rfl) | exact rfl)); (· exact rfl); (· exact rfl); (· exact rfl); (· assumption); intro bev H1 hB)
            | (apply op_at; (· exact rfl))
            | (apply dwp_cond_t; (· exact rfl); (· (first | with_reducible assumption | with_reducible rfl | decide)))
            | apply dwp_block
            | apply dwp_skip
            | fail)
          have hI0 : OpenI s.op 0 (noteOp tab y (s.op.take 0)) co ro := OpenI.init hOp
          have hB2 : Bx H H1 [(bev, .rows false 5 [y.row]), (bf, .rows false 7 ((noteFs tab y s.fires (s.op.take 0)).map Fire.row)), (bm, .map (mapE Ev.dv (M1.map Qe.kv))), (bo, .rows false 1 ro)] [QF M] := hB
          refine dwp_loop (fun st => ∃ (H1 : DH) (i lw : Nat) (ri : List (List DV)) (fs : List Fire), ∃ J : Nat → DV, (Bx H H1 [(bev, .rows false 5 [y.row]), (bf, .rows false 7 (fs.map Fire.row)), (bm, .map (mapE Ev.dv (M1.map Qe.kv))), (bo, .rows false 1 ri)] [QF M] ∧ i ≤ s.op.length ∧ OpenI s.op i (noteOp tab y (s.op.take i)) co ri ∧ fs = noteFs tab y s.fires (s.op.take i) ∧ lw = (noteOp tab y (s.op.take i)).length) ∧ st = ⟨(.sl p tab.length c ex :: .sl (some (loc2, i2, 5)) log.length c2 ex2 :: J 2 :: J 3 :: J 4 :: J 5 :: .map (some bm) :: .sl (some (bf, 0, 7)) tab.length tab.length true :: J 8 :: J 9 :: J 10 :: J 11 :: J 12 :: .ptr (some (bev, 0, 0)) :: .sl (some (bo, 0, 1)) lw co exo :: J 15 :: J 16 :: J 17 :: J 18 :: J 19 :: J 20 :: J 21 :: J 22 :: J 23 :: J 24 :: J 25 :: J 26 :: J 27 :: J 28 :: J 29 :: J 30 :: J 31 :: J 32 :: J 33 :: J 34 :: J 35 :: J 36 :: J 37 :: J 38 :: J 39 :: J 40 :: J 41 :: J 42 :: J 43 :: J 44 :: J 45 :: J 46 :: J 47 :: J 48 :: J 49 :: J 50 :: J 51 :: J 52 :: J 53 :: J 54 :: J 55 :: J 56 :: J 57 :: J 58 :: J 59 :: J 60 :: .sl (some (loc2, i2, 5)) log.length c2 ex2 :: .int .i64 (log.length : Int) :: .int .i64 (j : Int) :: J 64 :: J 65 :: J 66 :: J 67 :: J 68 :: .sl (some (bo, 0, 1)) s.op.length co exo :: .int .i64 (s.op.length : Int) :: .int .i64 (i : Int) :: J 72 :: J 73 :: J 74 :: J 75 :: J 76 :: J 77 :: J 78 :: J 79 :: J 80 :: J 81 :: J 82 :: J 83 :: J 84 :: J 85 :: J 86 :: J 87 :: J 88 :: J 89 :: J 90 :: J 91 :: J 92 :: J 93 :: J 94 :: J 95 :: J 96 :: J 97 :: J 98 :: J 99 :: J 100 :: J 101 :: J 102 :: J 103 :: J 104 :: J 105 :: J 106 :: J 107 :: J 108 :: J 109 :: J 110 :: J 111 :: J 112 :: J 113 :: J 114 :: J 115 :: J 116 :: J 117 :: J 118 :: J 119 :: J 120 :: []), H1⟩) (fun st => s.op.length - kOf st 71) (⟨_, 0, 0, ro, _, junk_facts (⟨hB2, Nat.zero_le _, hI0, rfl, rfl⟩) rfl rfl⟩) ?_
          rintro st ⟨H1, i, lw, ri, fs, J, ⟨hB, hi, hI, hfs0, hlw0⟩, rfl⟩
          by_cases hlt3 : i < s.op.length
          · obtain ⟨v, hv⟩ : ∃ v, s.op[i]? = some v := ⟨s.op[i], List.getElem?_eq_getElem hlt3⟩
            have hwl := hI.le
            rw [← hlw0] at hwl
            have hwc : lw + 1 ≤ co := by have := hOp.le; omega
            have hcl := hI.c
            have hmD : lw + 1 ≤ mostD := by unfold mostD; omega
            obtain ⟨f0, hf0, _, _⟩ := hW.op v (List.mem_of_getElem? hv)
            have hvt : v < tab.length := by rw [← hW.len]; exact (List.getElem?_eq_some_iff.mp hf0).1
            obtain ⟨x, hx⟩ : ∃ x, tab[v]? = some x := ⟨tab[v], List.getElem?_eq_getElem hvt⟩
            obtain ⟨f, hf⟩ : ∃ f, fs[v]? = some f := ⟨_, List.getElem?_eq_getElem (by rw [hfs0, noteFs_len, hW.len]; exact hvt)⟩
            obtain ⟨loc, i0, ro1, rs1, rfl, hloc, ho1, hrx⟩ := hs.rd (k := v) (r := x.row) (by rw [List.getElem?_map, hx]; rfl)
            have hr1 : rs1[i0 + ((v : Int)).toNat]? = some x.row := by rw [Int.toNat_natCast]; exact hrx
            have hri : ri[0 + ((i : Int)).toNat]? = some (natRow v) := by rw [Nat.zero_add, Int.toNat_natCast]; exact hI.rest i v (Nat.le_refl _) hv
            have hc3 : decide ((i : Int) < (s.op.length : Int)) = true := by simp [hlt3]
            have hini : 0 ≤ (i : Int) ∧ (i : Int) < (s.op.length : Int) := by omega
            have hinv : 0 ≤ (v : Int) ∧ (v : Int) < (tab.length : Int) := by omega
            have hw3 : IntKind.i64.wrap ((i : Int) + 1) = ((i + 1 : Nat) : Int) := by rw [wrapI (by omega)]; rfl
            have hset1 := set_det1 hf
            have hset2 := set_det2 hf y
            cases hnt : noticesF x y with
            | true =>
              have hfs : noteFs tab y s.fires (s.op.take (i + 1)) = fs.modify v (markD y) := by rw [noteFs_take hv, notI_at hx, hnt, hfs0]; rfl
              have hop : noteOp tab y (s.op.take (i + 1)) = noteOp tab y (s.op.take i) := by rw [noteOp_take hv, notI_at hx, hnt]; simp
              repeat' (first
                | dsimp only [putD, DV.cells, DH.new_next, DH.set_next, List.length_cons, List.length_nil, Nat.reduceAdd, List.set_cons_zero, List.set_cons_succ, getD_zero, getD_succ, fieldAt_zero, fieldAt_succ, thenD, blockD, retR]
                | refine dwp_drawr _ rfl (fun H' => Above H H' ∧ H'.obj bev = some (.rows false 5 [y.row])) ⟨hB.ab, hB.get (by (repeat (first | with_reducible exact At.here | with_reducible apply At.there)))⟩ ?_
                | apply drawr_nil
                | (apply drawr_read; (· (first | exact wanted_plain rfl | (apply wanted_on; (· exact rfl); (· exact rfl); (· (first | with_reducible assumption | with_reducible rfl | decide))))); (· exact rfl); (· exact rfl); (· intro H' h; exact opD_load rfl rfl h.2 rfl (by (first | exact partInj _ _ _ _ | exact partEv _ _ _ _ _ | exact partFire _ _ _ _ _ _ _ | exact partEvR _ | exact rfl))))
                | (apply drawr_read; (· (first | exact wanted_plain rfl | (apply wanted_on; (· exact rfl); (· exact rfl); (· (first | with_reducible assumption | with_reducible rfl | decide))))); (· exact rfl); (· exact rfl); (· intro H' h; exact opD_load rfl rfl (h.1.obj hloc ho1) hr1 (partInjR x)))
                | (apply drawr_pure; (· (first | exact wanted_plain rfl | (apply wanted_on; (· exact rfl); (· exact rfl); (· (first | with_reducible assumption | with_reducible rfl | decide))))); (· exact rfl); (· exact rfl); (· exact opD_index rfl rfl rfl rfl rfl hinv))
                | (apply drawr_pure; (· (first | exact wanted_plain rfl | (apply wanted_on; (· exact rfl); (· exact rfl); (· (first | with_reducible assumption | with_reducible rfl | decide))))); (· exact rfl); (· exact rfl); (· exact rfl))
                | (apply drawr_move; (· (first | exact wanted_plain rfl | (apply wanted_on; (· exact rfl); (· exact rfl); (· (first | with_reducible assumption | with_reducible rfl | decide))))); (· exact rfl))
                | apply dwp_seq
                | apply dwp_region
                | apply ops_nil
                | (apply ops_plain; (· exact rfl))
                | (apply op_call; (· exact rfl); (· exact rfl); (· exact rfl); (refine (notices14 x y _).mono ?_; rintro r H' ⟨rfl, hab⟩; replace hB := hB.grow hab; refine ⟨⟨hB.ab, hB.get (by (repeat (first | with_reducible exact At.here | with_reducible apply At.there)))⟩, ?_⟩))
                | (apply op_index_at; (· exact rfl); (· exact rfl); (· exact rfl); (· with_reducible exact hini); (· exact rfl); (· exact rfl))
                | (apply op_load_at; (· exact rfl); (· exact rfl); (· exact hB.get (by (repeat (first | with_reducible exact At.here | with_reducible apply At.there)))); (· exact hri); (· exact rfl))
                | (apply bx_store; (· exact rfl); (· exact rfl); (· exact rfl); (· assumption); (· (repeat (first | with_reducible exact Upd.here | with_reducible apply Upd.there))); (· exact hset1); (· exact rfl); (· exact rfl); intro H1 hB)
                | (apply bx_store; (· exact rfl); (· exact rfl); (· exact rfl); (· assumption); (· (repeat (first | with_reducible exact Upd.here | with_reducible apply Upd.there))); (· exact hset2); (· exact rfl); (· exact rfl); intro H1 hB)
                | refine ⟨⟨hB.ab, hB.get (by (repeat (first | with_reducible exact At.here | with_reducible apply At.there)))⟩, ?_⟩
                | (apply op_told; (· exact rfl); (· exact congrArg (DV.int _) hw3))
                | (apply op_at; (· exact rfl))
                | (apply dwp_cond_t; (· exact rfl); (· (first | with_reducible assumption | with_reducible rfl | decide)))
                | apply dwp_block
                | apply dwp_skip
                | apply dwp_exit
                | fail)
              refine ⟨⟨_, i + 1, lw, ri, _, junk_facts ⟨hB, by omega, ?_, hfs.symm, ?_⟩ rfl rfl⟩, ?_⟩
              · rw [hop]; exact hI.drop
              · rw [hop]; exact hlw0
              · show s.op.length - ((i + 1 : Nat) : Int).toNat < s.op.length - (i : Int).toNat
                omega
            | false =>
              have hfs : noteFs tab y s.fires (s.op.take (i + 1)) = fs := by rw [noteFs_take hv, notI_at hx, hnt, hfs0]; rfl
              have hop : noteOp tab y (s.op.take (i + 1)) = noteOp tab y (s.op.take i) ++ [v] := by rw [noteOp_take hv, notI_at hx, hnt]; simp
              repeat' (first
                | dsimp only [putD, DV.cells, DH.new_next, DH.set_next, List.length_cons, List.length_nil, Nat.reduceAdd, List.set_cons_zero, List.set_cons_succ, getD_zero, getD_succ, fieldAt_zero, fieldAt_succ, thenD, blockD, retR]
                | refine dwp_drawr _ rfl (fun H' => Above H H' ∧ H'.obj bev = some (.rows false 5 [y.row])) ⟨hB.ab, hB.get (by (repeat (first | with_reducible exact At.here | with_reducible apply At.there)))⟩ ?_
                | apply drawr_nil
                | (apply drawr_read; (· (first | exact wanted_plain rfl | (apply wanted_on; (· exact rfl); (· exact rfl); (· (first | with_reducible assumption | with_reducible rfl | decide))))); (· exact rfl); (· exact rfl); (· intro H' h; exact opD_load rfl rfl h.2 rfl (by (first | exact partInj _ _ _ _ | exact partEv _ _ _ _ _ | exact partFire _ _ _ _ _ _ _ | exact partEvR _ | exact rfl))))
                | (apply drawr_read; (· (first | exact wanted_plain rfl | (apply wanted_on; (· exact rfl); (· exact rfl); (· (first | with_reducible assumption | with_reducible rfl | decide))))); (· exact rfl); (· exact rfl); (· intro H' h; exact opD_load rfl rfl (h.1.obj hloc ho1) hr1 (partInjR x)))
                | (apply drawr_pure; (· (first | exact wanted_plain rfl | (apply wanted_on; (· exact rfl); (· exact rfl); (· (first | with_reducible assumption | with_reducible rfl | decide))))); (· exact rfl); (· exact rfl); (· exact opD_index rfl rfl rfl rfl rfl hinv))
                | (apply drawr_pure; (· (first | exact wanted_plain rfl | (apply wanted_on; (· exact rfl); (· exact rfl); (· (first | with_reducible assumption | with_reducible rfl | decide))))); (· exact rfl); (· exact rfl); (· exact rfl))
                | (apply drawr_move; (· (first | exact wanted_plain rfl | (apply wanted_on; (· exact rfl); (· exact rfl); (· (first | with_reducible assumption | with_reducible rfl | decide))))); (· exact rfl))
                | apply dwp_seq
                | apply dwp_region
                | apply ops_nil
                | (apply ops_plain; (· exact rfl))
                | (apply op_call; (· exact rfl); (· exact rfl); (· exact rfl); (refine (notices14 x y _).mono ?_; rintro r H' ⟨rfl, hab⟩; replace hB := hB.grow hab; refine ⟨⟨hB.ab, hB.get (by (repeat (first | with_reducible exact At.here | with_reducible apply At.there)))⟩, ?_⟩))
                | (apply op_index_at; (· exact rfl); (· exact rfl); (· exact rfl); (· with_reducible exact hini); (· exact rfl); (· exact rfl))
                | (apply op_load_at; (· exact rfl); (· exact rfl); (· exact hB.get (by (repeat (first | with_reducible exact At.here | with_reducible apply At.there)))); (· exact hri); (· exact rfl))
                | (apply bx_buildL et66; (· exact rfl); (· exact rfl); (· exact rfl); (· decide); (· assumption); intro bk H1 hB)
                | (apply op_append_in (row := natRow v); (· exact rfl); (· exact rfl); (· exact rfl); (· exact et66); (· assumption); (· exact appended_box rfl (by assumption) At.here); (· exact ⟨rfl, rfl⟩); (· exact hwc); (· exact hcl); (· exact hmD); (· (repeat (first | with_reducible exact Upd.here | with_reducible apply Upd.there))); intro H1 hB)
                | (apply op_told; (· exact rfl); (· exact congrArg (DV.int _) hw3))
                | (apply op_at; (· exact rfl))
                | (apply dwp_cond_t; (· exact rfl); (· (first | with_reducible assumption | with_reducible rfl | decide)))
                | (apply dwp_cond_f; (· exact rfl); (· (first | with_reducible assumption | with_reducible rfl | decide)))
                | apply dwp_block
                | apply dwp_skip
                | fail)
              refine ⟨⟨_, i + 1, lw + 1, _, fs, junk_facts ⟨hB.drop1, by omega, ?_, hfs.symm, ?_⟩ rfl rfl⟩, ?_⟩
              · rw [hop, hlw0]; exact hI.keep hv
              · rw [hop, hlw0, List.length_append]; rfl
              · show s.op.length - ((i + 1 : Nat) : Int).toNat < s.op.length - (i : Int).toNat
                omega
          · have hie : i = s.op.length := by omega
            subst hie
            rw [List.take_length] at hI hfs0 hlw0
            have hOw := hI.fin hOp.le
            have hc3 : decide ((s.op.length : Int) < (s.op.length : Int)) = false := by simp
            subst hlw0 hfs0
            have hnl := noteOp_le tab y s.op
            rcases qlook hQ1 hS1 (hB.has InF.here) y with ⟨p17, c17, ex17, hq, hlk⟩ | ⟨v, r, lq, iq, cq, exq, kq, M2, hq, hfq, hrq, hQ2, hS2, hmq⟩
            · have hst := stC_succ (tab := tab) hy
              rw [← hs1, step_nil hq] at hst
              repeat' (first
                | dsimp only [putD, DV.cells, DH.new_next, DH.set_next, List.length_cons, List.length_nil, Nat.reduceAdd, List.set_cons_zero, List.set_cons_succ, getD_zero, getD_succ, fieldAt_zero, fieldAt_succ, thenD, blockD, retR]
                | apply dwp_seq
                | apply dwp_region
                | apply ops_nil
                | (apply ops_plain; (· exact rfl))
                | (apply bx_lookupU; (· exact rfl); (· exact rfl); (· exact rfl); (· assumption); (· (repeat (first | with_reducible exact At.here | with_reducible apply At.there))); (· exact hlk))
                | (apply op_told; (· exact rfl); (· exact congrArg (DV.int _) hw2))
                | (apply bx_load0; (· exact rfl); (· exact rfl); (· assumption); (· (repeat (first | with_reducible exact At.here | with_reducible apply At.there))); (· (first | exact partInj _ _ _ _ | exact partEv _ _ _ _ _ | exact partFire _ _ _ _ _ _ _ | exact partEvR _ | exact rfl)))
                | (apply op_at; (· exact rfl))
                | (apply dwp_cond_f; (· exact rfl); (· (first | with_reducible assumption | with_reducible rfl | decide)))
                | apply dwp_skip
                | apply dwp_exit
                | fail)
              refine ⟨⟨_, M1, _, j + 1, bo, co, exo, ri, junk_facts ⟨hB.drop1, by omega, hst.symm, hQ1, hS1, hOw, ?_⟩ rfl rfl⟩, ?_⟩
              · show (noteOp tab y s.op).length ≤ j + 1
                omega
              · show log.length - ((j + 1 : Nat) : Int).toNat < log.length - (j : Int).toNat
                omega
            · have hst := stC_succ (tab := tab) hy
              rw [← hs1, step_cons hq] at hst
              have hlk : LK M1 y (.sl (some (lq, iq, 1)) (r.length + 1) cq exq) := .inl ⟨_, hfq⟩
              have hpos : decide (((r.length + 1 : Nat) : Int) > 0) = true := by simp
              have hz0 : (0 : Int) ≤ 0 ∧ (0 : Int) < ((r.length + 1 : Nat) : Int) := by omega
              have hz1 : (0 : Int) ≤ 1 ∧ (1 : Int) ≤ ((r.length + 1 : Nat) : Int) := by omega
              obtain ⟨f0, hf0, _, _⟩ := hW.q y v (by rw [hq]; exact List.mem_cons_self)
              have hvt : v < tab.length := by rw [← hW.len]; exact (List.getElem?_eq_some_iff.mp hf0).1
              have hinv : 0 ≤ (v : Int) ∧ (v : Int) < (tab.length : Int) := by omega
              obtain ⟨f, hf⟩ : ∃ f, (noteFs tab y s.fires s.op)[v]? = some f := ⟨_, List.getElem?_eq_getElem (by rw [noteFs_len, hW.len]; exact hvt)⟩
              have hset3 := set_fired hf
              have hmA : ((noteOp tab y s.op).map natRow).length + [natRow v].length ≤ mostD := by
                rw [List.length_map]; show _ + 1 ≤ _; unfold mostD; omega
              repeat' (first
                | dsimp only [putD, DV.cells, DH.new_next, DH.set_next, List.length_cons, List.length_nil, Nat.reduceAdd, List.set_cons_zero, List.set_cons_succ, getD_zero, getD_succ, fieldAt_zero, fieldAt_succ, thenD, blockD, retR]
                | refine dwp_drawr _ rfl (fun H' => Above H H' ∧ H'.obj bev = some (.rows false 5 [y.row])) ⟨hB.ab, hB.get (by (repeat (first | with_reducible exact At.here | with_reducible apply At.there)))⟩ ?_
                | apply drawr_nil
                | (apply drawr_read; (· (first | exact wanted_plain rfl | (apply wanted_on; (· exact rfl); (· exact rfl); (· (first | with_reducible assumption | with_reducible rfl | decide))))); (· exact rfl); (· exact rfl); (· intro H' h; exact opD_load rfl rfl h.2 rfl (by (first | exact partInj _ _ _ _ | exact partEv _ _ _ _ _ | exact partFire _ _ _ _ _ _ _ | exact partEvR _ | exact rfl))))
                | (apply drawr_pure; (· (first | exact wanted_plain rfl | (apply wanted_on; (· exact rfl); (· exact rfl); (· (first | with_reducible assumption | with_reducible rfl | decide))))); (· exact rfl); (· exact rfl); (· exact rfl))
                | (apply drawr_pure; (· (first | exact wanted_plain rfl | (apply wanted_on; (· exact rfl); (· exact rfl); (· (first | with_reducible assumption | with_reducible rfl | decide))))); (· exact rfl); (· exact rfl); (· exact opD_slice_lo rfl rfl rfl rfl rfl hz1))
                | (apply drawr_move; (· (first | exact wanted_plain rfl | (apply wanted_on; (· exact rfl); (· exact rfl); (· (first | with_reducible assumption | with_reducible rfl | decide))))); (· exact rfl))
                | apply dwp_seq
                | apply dwp_region
                | apply ops_nil
                | (apply ops_plain; (· exact rfl))
                | (apply bx_lookupU; (· exact rfl); (· exact rfl); (· exact rfl); (· assumption); (· (repeat (first | with_reducible exact At.here | with_reducible apply At.there))); (· exact hlk))
                | (apply op_index_at; (· exact rfl); (· exact rfl); (· exact rfl); (· with_reducible exact hz0); (· exact rfl); (· exact rfl))
                | (apply op_index_at; (· exact rfl); (· exact rfl); (· exact rfl); (· with_reducible exact hinv); (· exact rfl); (· exact rfl))
                | (apply bx_loadQ; (· exact rfl); (· exact rfl); (· assumption); (· exact hrq))
                | (apply bx_store; (· exact rfl); (· exact rfl); (· exact rfl); (· assumption); (· (repeat (first | with_reducible exact Upd.here | with_reducible apply Upd.there))); (· exact hset3); (· exact rfl); (· exact rfl); intro H1 hB)
                | (apply bx_buildL et66; (· exact rfl); (· exact rfl); (· exact rfl); (· decide); (· assumption); intro bk H1 hB)
                | (apply op_append_own (new := [natRow v]); (· exact rfl); (· exact rfl); (· exact rfl); (· exact et66); (· exact hOw.own); (· assumption); (· (repeat (first | with_reducible exact Ctx.one | with_reducible apply Ctx.cons))); (· exact appended_box rfl (by assumption) At.here); (· simp); (· exact rfl); (· exact hmA); intro s' x' H1 o' hB; obtain ⟨b', c', ex', rs', rfl, rfl, hO'⟩ := open_own o')
                | (apply bx_update1e; (· exact rfl); (· exact rfl); (· exact rfl); (· exact rfl); (· exact rfl); (· assumption); (· exact keyOkE y); (· exact hfq); (· exact hmq); (· (repeat (first | with_reducible exact Upd.here | with_reducible apply Upd.there))); intro H1 hB)
                | refine ⟨⟨hB.ab, hB.get (by (repeat (first | with_reducible exact At.here | with_reducible apply At.there)))⟩, ?_⟩
                | (apply op_told; (· exact rfl); (· exact congrArg (DV.int _) hw2))
                | (apply bx_load0; (· exact rfl); (· exact rfl); (· assumption); (· (repeat (first | with_reducible exact At.here | with_reducible apply At.there))); (· (first | exact partInj _ _ _ _ | exact partEv _ _ _ _ _ | exact partFire _ _ _ _ _ _ _ | exact partEvR _ | exact rfl)))
                | (apply op_at; (· exact rfl))
                | (apply dwp_cond_t; (· exact rfl); (· (first | with_reducible assumption | with_reducible rfl | decide)))
                | (apply dwp_cond_f; (· exact rfl); (· (first | with_reducible assumption | with_reducible rfl | decide)))
                | apply dwp_exit
                | fail)
              refine ⟨⟨_, M2, _, j + 1, b', c', ex', rs', junk_facts ⟨hB.drop1.drop1, by omega, hst.symm, hQ2, hS2, hO', ?_⟩ rfl rfl⟩, ?_⟩
              · show (noteOp tab y s.op ++ [v]).length ≤ j + 1
                rw [List.length_append, List.length_singleton]
                omega
              · show log.length - ((j + 1 : Nat) : Int).toNat < log.length - (j : Int).toNat
                omega
        · have hje : j = log.length := by omega
          subst hje
          have hc2 : decide ((log.length : Int) < (log.length : Int)) = false := by simp
          rw [stC_all] at hs1
          repeat' (first
            | dsimp only [putD, DV.cells, DH.new_next, DH.set_next, List.length_cons, List.length_nil, Nat.reduceAdd, List.set_cons_zero, List.set_cons_succ, getD_zero, getD_succ, fieldAt_zero, fieldAt_succ, thenD, blockD, retR]
            | apply dwp_seq
            | apply dwp_region
            | apply ops_nil
            | (apply ops_plain; (· exact rfl))
            | (apply op_at; (· exact rfl))
            | (apply dwp_cond_f; (· exact rfl); (· (first | with_reducible assumption | with_reducible rfl | decide)))
            | apply dwp_ret
            | apply dwp_exit
            | (refine ⟨_, rfl, ?_⟩)
            | fail)
          obtain ⟨hb1, hb2, hb3⟩ := hB.obj _ List.mem_cons_self
          subst hs1
          exact ⟨hB.ab, by rw [if_pos ⟨trivial, trivial⟩]; exact ⟨bf, rfl, hb3, hb1, hb2⟩⟩
end Go.Det.C

/- Cover: the chapter's example. -/
namespace Go.Det.C
open Go Go.Det Go.Proofs
set_option maxRecDepth 4000
set_option maxHeartbeats 4000000
set_option linter.unusedVariables false
set_option linter.unusedSimpArgs false
def L9 : List FuncId := 18 :: 11 :: L
theorem okL9 : L9.all (fun f => okB Tryd.prog f || [84].contains f) = true := by kernel_rfl
noncomputable def E9 : List (FuncId × G) := [(38, gWrite), (42, gStr), (41, gItoa), (83, gNum), (96, gRead), (22, gLive), (106, gSet), (71, gUnits)]
theorem okE9 : ∀ f g, (f, g) ∈ E9 → ExtSound Tryd.prog g f := by
  intro f g h
  simp only [E9, List.mem_cons, List.not_mem_nil, or_false, Prod.mk.injEq] at h
  rcases h with ⟨rfl, rfl⟩ | ⟨rfl, rfl⟩ | ⟨rfl, rfl⟩ | ⟨rfl, rfl⟩ | ⟨rfl, rfl⟩ | ⟨rfl, rfl⟩ | ⟨rfl, rfl⟩ | ⟨rfl, rfl⟩
  · exact write38_ok
  · exact string42_ok
  · exact itoa41_ok
  · exact num83_ok
  · exact read96_ok
  · exact live22_ok
  · exact set106_ok
  · exact units71_ok
noncomputable def X9 : Ext := Xof L9 E9
theorem ok9 : ProgOk Tryd.prog X9 := progOk_of2 mixed okL9 add_code okE9
theorem up39 : ExtLe X3 X9 := extLe_more (M := [18, 11]) (T := [(38, gWrite), (42, gStr), (41, gItoa)]) (E := E3) (by decide +kernel)
theorem itoa9 (n : Int) (H : DH) (h0 : 0 ≤ n) (h1 : n < 100) : CallWp Tryd.prog X9 41 [.int .i64 n] H (fun r H2 => r = .str (decF n) ∧ H2 = H) :=
  call_table (g := gItoa) rfl (r := .str (decF n)) (H' := H) (by simp only [gItoa]; rw [if_pos ⟨h0, h1⟩]) ⟨rfl, rfl⟩
def liveX : Inj := ⟨5000, 5, 1, 5000⟩
def liveL : List Ev := [⟨5000, 11, 1, 5, 5000⟩, ⟨7000, 4, 0, 0, 1⟩]
def liveF : Fire := ⟨liveX, true, true, 7000⟩
theorem live_rep : tabOk [liveX] = true ∧ evOk liveL = true ∧ (reportC [liveX] liveL).fires = [liveF] := by decide +kernel
theorem live_text : textL [liveF] = [99, 114, 97, 115, 104, 32, 49, 32, 53, 110, 115, 32, 102, 105, 114, 101, 100, 32, 97, 116, 32, 55, 110, 115, 10, 49, 32, 111, 102, 32, 49, 32, 100, 101, 116, 101, 99, 116, 101, 100, 32, 49, 10] := by
  have h1 : decN 1 = [49] := decN_lt (by decide)
  have h5 : decN 5 = [53] := decN_lt (by decide)
  have h7 : decN 7 = [55] := decN_lt (by decide)
  simp [textL, tailF, lineF, cameF, faultF, faultL, ptextF, pickU, sgnF, decF, liveF, liveX, h1, h5, h7]
theorem live_good : ∀ f ∈ [liveF], GoodF f := by
  intro f hf
  rw [List.mem_singleton] at hf
  subst hf
  exact ⟨by decide +kernel, ⟨by decide, by decide⟩, ⟨by decide, by decide⟩⟩
theorem et23 : ElemT Tryd.prog 23 34 5 40 (.agg [.int .i64 0, .int .i64 0, .int .i64 0, .int .i64 0, .int .i64 0]) := ⟨rfl, rfl, rfl, by kernel_rfl, by decide, by decide, rfl, rfl⟩
theorem live11 (H : DH) : CallWp Tryd.prog X9 11 [] H (fun r H' => r = .bool true ∧ Above H H') := by
  have hB : Bx H H [] [] := Bx.init (fun f hf => by cases hf)
  obtain ⟨hr1, hr2, hr3⟩ := live_rep
  refine enter rfl Tryd.func11 rfl Tryd.ntmps11 rfl ?_
  dsimp only [List.cons_append, List.nil_append, List.length_cons, List.length_nil, List.replicate_succ, List.replicate_zero, Nat.reduceAdd, Nat.reduceSub]
  repeat' (first
    | dsimp only [putD, DV.cells, DH.new_next, DH.set_next, List.length_cons, List.length_nil, Nat.reduceAdd, List.set_cons_zero, List.set_cons_succ, getD_zero, getD_succ, fieldAt_zero, fieldAt_succ, thenD, blockD, retR]
    | apply dwp_seq
    | apply dwp_region
    | apply ops_nil
    | (apply ops_plain; (· exact rfl))
    | (apply ops_on; (· exact rfl); (· exact rfl); (· (first | with_reducible assumption | with_reducible rfl | decide)))
    | (apply op_call; (· exact rfl); (· exact rfl); (· exact rfl); (refine CallWp.up up39 ((report12 (tab := [liveX]) (log := liveL) (by decide) (by decide) (.at (hB.obj _ (List.mem_cons_of_mem _ List.mem_cons_self)).2.1 (hB.get (.there At.here)) (Nat.le_refl _) rfl) (.at (hB.obj _ List.mem_cons_self).2.1 (hB.get At.here) (Nat.le_refl _) rfl)).mono ?_); rintro r H' ⟨hab, hrep⟩; rw [if_pos ⟨hr1, hr2⟩, hr3] at hrep; obtain ⟨b, rfl, hbo, hb1, hb2⟩ := hrep; replace hB := hB.grow hab))
    | (apply op_call; (· exact rfl); (· exact rfl); (· exact rfl); (refine (text18 (Bd := 100) (l := [liveF]) rfl up39 rfl rfl (by decide) (fun n H' h0 h1 _ => itoa9 n H' h0 h1) live_good (by decide) (by decide) (.at hb2 hbo (Nat.le_refl _) rfl)).mono ?_; rintro r H' ⟨rfl, hab⟩; replace hB := hB.grow hab; rw [live_text]))
    | (apply op_pick_t; (· exact rfl); (· exact rfl); (· (first | with_reducible assumption | with_reducible rfl | decide)); (· exact rfl))
    | (apply bx_buildL et22; (· exact rfl); (· exact rfl); (· exact rfl); (· decide); (· assumption); intro bk H1 hB)
    | (apply bx_buildL et23; (· exact rfl); (· exact rfl); (· exact rfl); (· decide); (· assumption); intro bk2 H1 hB)
    | (apply bx_load0; (· exact rfl); (· exact rfl); (· assumption); (· (repeat (first | with_reducible exact At.here | with_reducible apply At.there))); (· (first | exact partInj _ _ _ _ | exact partInjR _ | exact partEv _ _ _ _ _ | exact rfl)))
    | (apply bx_store0; (· exact rfl); (· exact rfl); (· exact rfl); (· assumption); (· (first | (dsimp only [putD, DV.cells, DH.new_next, DH.set_next, List.length_cons, List.length_nil, Nat.reduceAdd, List.set_cons_zero, List.set_cons_succ, getD_zero, getD_succ, fieldAt_zero, fieldAt_succ, thenD, blockD, retR, Sv.cells]; done) | (dsimp only [putD, DV.cells, DH.new_next, DH.set_next, List.length_cons, List.length_nil, Nat.reduceAdd, List.set_cons_zero, List.set_cons_succ, getD_zero, getD_succ, fieldAt_zero, fieldAt_succ, thenD, blockD, retR, Sv.cells]; exact rfl) | exact rfl)); (· (repeat (first | with_reducible exact Upd.here | with_reducible apply Upd.there))); (· exact rfl); (· exact rfl); (· exact rfl); (· exact rfl); intro H1 hB)
    | (apply bx_alloc; (· exact rfl); (· exact zero30); (· (first | (dsimp only [putD, DV.cells, DH.new_next, DH.set_next, List.length_cons, List.length_nil, Nat.reduceAdd, List.set_cons_zero, List.set_cons_succ, getD_zero, getD_succ, fieldAt_zero, fieldAt_succ, thenD, blockD, retR, Sv.cells]; done) | (dsimp only [putD, DV.cells, DH.new_next, DH.set_next, List.length_cons, List.length_nil, Nat.reduceAdd, List.set_cons_zero, List.set_cons_succ, getD_zero, getD_succ, fieldAt_zero, fieldAt_succ, thenD, blockD, retR, Sv.cells]; exact rfl) | exact rfl)); (· exact rfl); (· exact rfl); (· exact rfl); (· assumption); intro b1 H1 hB)
    | (apply op_at; (· exact rfl))
    | apply dwp_ret
    | (refine ⟨_, rfl, ?_⟩)
    | fail)
  exact ⟨congrArg DV.bool (beq_self_eq_true _), hB.ab⟩
end Go.Det.C

/- Cover: CoverGrows' walk. -/
namespace Go.Det.C
open Go Go.Det Go.Proofs
set_option maxRecDepth 4000
set_option maxHeartbeats 4000000
set_option linter.unusedVariables false
set_option linter.unusedSimpArgs false
theorem eqStruct {P : Program} {n : Nat} {t : TypeId} {a b : List DV} {fs : Array Field} (hu : P.underlying t = some (.struct fs)) (hs : P.stoodInHeld t = false) (ha : a.all DV.one = true) (hb : b.all DV.one = true) : eqT P (n + 1) t (.agg a) (.agg b) = eqFs P (eqT P n) a b fs.toList := by
  simp only [eqT, hu]
  rw [if_neg (by rw [hs, ha, hb]; simp)]
theorem eqInjT20 (x y : Inj) : eqT Tryd.prog 20 30 (.agg x.row) (.agg y.row) = some (decide (x = y)) := by
  obtain ⟨a, b, c, d⟩ := x
  obtain ⟨a', b', c', d'⟩ := y
  rw [eqStruct (n := 19) Tryd.underlying30 (by decide +kernel) rfl rfl]
  rw [eqFs1 (v := a == a') (by decide) rfl rfl rfl, eqFs1 (v := b == b') (by decide) rfl rfl rfl, eqFs1 (v := c == c') (by decide) rfl rfl rfl, eqFs1 (v := d == d') (by decide) rfl rfl rfl]
  simp only [eqFs, Inj.mk.injEq, beq_iff_eq]
  by_cases h1 : a = a' <;> by_cases h2 : b = b' <;> by_cases h3 : c = c' <;> by_cases h4 : d = d' <;> simp [h1, h2, h3, h4]
theorem eqInjT19 (x y : Inj) : eqT Tryd.prog 19 30 (.agg x.row) (.agg y.row) = some (decide (x = y)) := by
  obtain ⟨a, b, c, d⟩ := x
  obtain ⟨a', b', c', d'⟩ := y
  rw [eqStruct (n := 18) Tryd.underlying30 (by decide +kernel) rfl rfl]
  rw [eqFs1 (v := a == a') (by decide) rfl rfl rfl, eqFs1 (v := b == b') (by decide) rfl rfl rfl, eqFs1 (v := c == c') (by decide) rfl rfl rfl, eqFs1 (v := d == d') (by decide) rfl rfl rfl]
  simp only [eqFs, Inj.mk.injEq, beq_iff_eq]
  by_cases h1 : a = a' <;> by_cases h2 : b = b' <;> by_cases h3 : c = c' <;> by_cases h4 : d = d' <;> simp [h1, h2, h3, h4]
theorem eqInjD (x y : Inj) : eqD Tryd.prog 30 (.agg x.row) (.agg y.row) = some (decide (x = y)) := by
  show (if Tryd.prog.eqGuardType Tryd.prog.depth 30 = true then none else eqT Tryd.prog 20 30 (.agg x.row) (.agg y.row)) = _
  rw [if_neg (by decide +kernel), eqInjT20]
end Go.Det.C

/- Cover: CoverExact's walk. -/
namespace Go.Det.C
open Go Go.Det Go.Proofs
set_option maxRecDepth 4000
set_option maxHeartbeats 4000000
set_option linter.unusedVariables false
set_option linter.unusedSimpArgs false
theorem eqFireT (f g : Fire) : eqT Tryd.prog 20 32 (.agg f.row) (.agg g.row) = some (decide (f = g)) := by
  obtain ⟨x, a, b, c⟩ := f
  obtain ⟨y, a', b', c'⟩ := g
  rw [eqStruct (n := 19) Tryd.underlying32 (by decide +kernel) rfl rfl]
  rw [eqFs1 (v := decide (x = y)) (by decide) (partInjF ⟨x, a, b, c⟩) (partInjF ⟨y, a', b', c'⟩) (eqInjT19 x y), eqFs1 (v := a == a') (by decide) rfl rfl rfl, eqFs1 (v := b == b') (by decide) rfl rfl rfl, eqFs1 (v := c == c') (by decide) rfl rfl rfl]
  simp only [eqFs, Fire.mk.injEq, beq_iff_eq, decide_eq_true_eq]
  by_cases h1 : x = y <;> by_cases h2 : a = a' <;> by_cases h3 : b = b' <;> by_cases h4 : c = c' <;> simp [h1, h2, h3, h4]
theorem eqFireD (x y : Fire) : eqD Tryd.prog 32 (.agg x.row) (.agg y.row) = some (decide (x = y)) := by
  show (if Tryd.prog.eqGuardType Tryd.prog.depth 32 = true then none else eqT Tryd.prog 20 32 (.agg x.row) (.agg y.row)) = _
  rw [if_neg (by decide +kernel), eqFireT]
theorem opD_neFire {cf : CallF} {o : Oper} {env : List DV} {H : DH} {u : TypeId} {a b : Operand} {x : Fire} (ho : o.op = .binOp .neq 32 a b u) (ha : evalO env a = some (.agg x.row)) (hb : evalO env b = some (.agg x.row)) : opD Tryd.prog cf o env H = some (.bool false, H) := by
  have h := opD_neql (P := Tryd.prog) (cf := cf) (H := H) ho ha hb (eqFireD x x)
  rw [h]; simp
theorem opD_told {P : Program} {cf : CallF} {o : Oper} {env : List DV} {H : DH} {v w : DV} (h : opD P cf o env H = some (v, H)) (e : v = w) : opD P cf o env H = some (w, H) := by rw [h, e]
section
variable {P : Program} {X : Ext} {all : Array Oper} {bef : Array Nat} {rs ms : List Nat} {i : Nat} {Φ : DH → Prop} {o : Oper} {r : List Oper} {st : DSt} {K : DSt → Prop}
theorem drawr_pick_t (hw : Region.wanted o (dyield all st.env) = true) {c x y : Operand} (ho : o.op = .pick c x y) {t : Bool} (hc : evalO st.env c = some (.bool t)) (hb : t = true) {v : DV} (hv : evalO st.env x = some v)
    (h : DrawR P X all bef rs ms Φ (i + 1) r ⟨putD st.env o.dst v, st.H⟩ K) : DrawR P X all bef rs ms Φ i (o :: r) st K :=
  drawr_pure hw (by rw [ho]; rfl) (by rw [ho]; rfl) (v := v) (by
    subst hb
    simp only [opD, ho, mover, reader, pureD, hc, hv]
    rfl) h
theorem drawr_pick_f (hw : Region.wanted o (dyield all st.env) = true) {c x y : Operand} (ho : o.op = .pick c x y) {t : Bool} (hc : evalO st.env c = some (.bool t)) (hb : t = false) {v : DV} (hv : evalO st.env y = some v)
    (h : DrawR P X all bef rs ms Φ (i + 1) r ⟨putD st.env o.dst v, st.H⟩ K) : DrawR P X all bef rs ms Φ i (o :: r) st K :=
  drawr_pure hw (by rw [ho]; rfl) (by rw [ho]; rfl) (v := v) (by
    subst hb
    simp only [opD, ho, mover, reader, pureD, hc, hv]
    rfl) h
end
theorem scan_succ {x : Inj} {log : List Ev} {j : Nat} {y : Ev} (h : log[j]? = some y) : scanF x (log.take (j + 1)) = scanStep x (scanF x (log.take j)) y := by
  unfold scanF
  rw [List.take_add_one, h, List.foldl_append]; rfl
theorem is_key {y : Ev} {x : Inj} (h1 : y.k = 11) (h2 : y.t = x.t) (h3 : y.w = x.w) (h4 : y.a = x.k) (h5 : y.b = x.u) : y = keyOf x := by
  cases y; cases x
  simp only [keyOf] at *
  subst h1 h2 h3 h4 h5; rfl
theorem sorted_tab {tab : List Inj} (h : tabOk tab = true) : sortedB tab = true := by
  unfold tabOk at h
  simp at h
  exact h.2.2
theorem exact4 {tab : List Inj} {log : List Ev} {p p2 : Option (Nat × Nat × Nat)} {c c2 : Nat} {ex ex2 : Bool} {H : DH} (hl1 : tab.length ≤ 9223372036854775807) (hl2 : log.length ≤ 9223372036854775807) (hs : Sl H 4 (tab.map Inj.row) p) (hs2 : Sl H 5 (log.map Ev.row) p2) :
    CallWp Tryd.prog X9 4 [.sl p tab.length c ex, .sl p2 log.length c2 ex2] H (fun r _ => r = .bool true) := by
  have hB : Bx H H [] [] := Bx.init (fun f hf => by cases hf)
  cases h200 : decide ((tab.length : Int) > 200) with
  | true =>
    refine enter rfl Tryd.func4 rfl Tryd.ntmps4 rfl ?_
    dsimp only [List.cons_append, List.nil_append, List.length_cons, List.length_nil, List.replicate_succ, List.replicate_zero, Nat.reduceAdd, Nat.reduceSub]
    repeat' (first
      | dsimp only [putD, DV.cells, DH.new_next, DH.set_next, List.length_cons, List.length_nil, Nat.reduceAdd, List.set_cons_zero, List.set_cons_succ, getD_zero, getD_succ, fieldAt_zero, fieldAt_succ, thenD, blockD, retR]
      | apply dwp_seq
      | apply dwp_region
      | apply ops_nil
      | (apply ops_plain; (· exact rfl))
      | (apply ops_off0; (· exact rfl); (· exact rfl); (· (first | with_reducible assumption | with_reducible rfl | decide)))
      | (apply op_call; (· exact rfl); (· exact rfl); (· exact rfl); (refine (live11 _).mono ?_; rintro r Ha ⟨rfl, haba⟩; replace hB := hB.grow haba))
      | (apply op_pick_t; (· exact rfl); (· exact rfl); (· (first | with_reducible assumption | with_reducible rfl | decide)); (· exact rfl))
      | (apply op_at; (· exact rfl))
      | (apply dwp_cond_t; (· exact rfl); (· (first | with_reducible assumption | with_reducible rfl | decide)))
      | (apply dwp_cond_f; (· exact rfl); (· (first | with_reducible assumption | with_reducible rfl | decide)))
      | apply dwp_skip
      | apply dwp_ret
      | (refine ⟨_, rfl, ?_⟩)
      | fail)
  | false =>
    cases h400 : decide ((log.length : Int) > 400) with
    | true =>
      refine enter rfl Tryd.func4 rfl Tryd.ntmps4 rfl ?_
      dsimp only [List.cons_append, List.nil_append, List.length_cons, List.length_nil, List.replicate_succ, List.replicate_zero, Nat.reduceAdd, Nat.reduceSub]
      repeat' (first
        | dsimp only [putD, DV.cells, DH.new_next, DH.set_next, List.length_cons, List.length_nil, Nat.reduceAdd, List.set_cons_zero, List.set_cons_succ, getD_zero, getD_succ, fieldAt_zero, fieldAt_succ, thenD, blockD, retR]
        | apply dwp_seq
        | apply dwp_region
        | apply ops_nil
        | (apply ops_plain; (· exact rfl))
        | (apply ops_on; (· exact rfl); (· exact rfl); (· (first | with_reducible assumption | with_reducible rfl | decide)))
        | (apply op_call; (· exact rfl); (· exact rfl); (· exact rfl); (refine (live11 _).mono ?_; rintro r Ha ⟨rfl, haba⟩; replace hB := hB.grow haba))
        | (apply op_pick_f; (· exact rfl); (· exact rfl); (· (first | with_reducible assumption | with_reducible rfl | decide)); (· exact rfl))
        | (apply op_at; (· exact rfl))
        | (apply dwp_cond_t; (· exact rfl); (· (first | with_reducible assumption | with_reducible rfl | decide)))
        | (apply dwp_cond_f; (· exact rfl); (· (first | with_reducible assumption | with_reducible rfl | decide)))
        | apply dwp_skip
        | apply dwp_ret
        | (refine ⟨_, rfl, ?_⟩)
        | fail)
    | false =>
      have hm4 : log.length ≤ 400 := by simp at h400; omega
      have hm2 : tab.length ≤ 200 := by simp at h200; omega
      have hnn : ((tab.length : Int) != (tab.length : Int)) = false := by simp
      cases ht : tabOk tab with
      | false =>
        have hok : ¬ (tabOk tab = true ∧ evOk log = true) := by rw [ht]; simp
        cases he : evOk log with
        | false =>
          refine enter rfl Tryd.func4 rfl Tryd.ntmps4 rfl ?_
          dsimp only [List.cons_append, List.nil_append, List.length_cons, List.length_nil, List.replicate_succ, List.replicate_zero, Nat.reduceAdd, Nat.reduceSub]
          repeat' (first
            | dsimp only [putD, DV.cells, DH.new_next, DH.set_next, List.length_cons, List.length_nil, Nat.reduceAdd, List.set_cons_zero, List.set_cons_succ, getD_zero, getD_succ, fieldAt_zero, fieldAt_succ, thenD, blockD, retR]
            | apply dwp_seq
            | apply dwp_region
            | apply ops_nil
            | (apply ops_plain; (· exact rfl))
            | (apply ops_on; (· exact rfl); (· exact rfl); (· (first | with_reducible assumption | with_reducible rfl | decide)))
            | (apply ops_off0; (· exact rfl); (· exact rfl); (· (first | with_reducible assumption | with_reducible rfl | decide)))
            | (apply op_call; (· exact rfl); (· exact rfl); (· exact rfl); (refine (live11 _).mono ?_; rintro r Ha ⟨rfl, haba⟩; replace hB := hB.grow haba))
            | (apply op_call; (· exact rfl); (· exact rfl); (· exact rfl); (refine CallWp.up up39 ((report12 (tab := tab) (log := log) hl1 hl2 (hs.mono hB.ab) (hs2.mono hB.ab)).mono ?_); rintro r Hb ⟨haab, hrep⟩; rw [if_neg hok] at hrep; subst hrep; replace hB := hB.grow haab))
            | (apply op_call; (· exact rfl); (· exact rfl); (· exact rfl); (refine CallWp.up up39 ((check20 hl1 (hs.mono hB.ab)).mono ?_); rintro r H' ⟨rfl, hab⟩; replace hB := hB.grow hab; simp only [ht, if_true, Bool.false_eq_true, if_false]))
            | (apply op_pick_t; (· exact rfl); (· exact rfl); (· (first | with_reducible assumption | with_reducible rfl | decide)); (· exact rfl))
            | (apply op_pick_f; (· exact rfl); (· exact rfl); (· (first | with_reducible assumption | with_reducible rfl | decide)); (· exact rfl))
            | (apply op_at; (· exact rfl))
            | (apply dwp_cond_t; (· exact rfl); (· (first | with_reducible assumption | with_reducible rfl | decide)))
            | (apply dwp_cond_f; (· exact rfl); (· (first | with_reducible assumption | with_reducible rfl | decide)))
            | apply dwp_skip
            | apply dwp_ret
            | (refine ⟨_, rfl, ?_⟩)
            | fail)
        | true =>
          refine enter rfl Tryd.func4 rfl Tryd.ntmps4 rfl ?_
          dsimp only [List.cons_append, List.nil_append, List.length_cons, List.length_nil, List.replicate_succ, List.replicate_zero, Nat.reduceAdd, Nat.reduceSub]
          repeat' (first
            | dsimp only [putD, DV.cells, DH.new_next, DH.set_next, List.length_cons, List.length_nil, Nat.reduceAdd, List.set_cons_zero, List.set_cons_succ, getD_zero, getD_succ, fieldAt_zero, fieldAt_succ, thenD, blockD, retR]
            | apply dwp_seq
            | apply dwp_region
            | apply ops_nil
            | (apply ops_plain; (· exact rfl))
            | (apply ops_on; (· exact rfl); (· exact rfl); (· (first | with_reducible assumption | with_reducible rfl | decide)))
            | (apply ops_off0; (· exact rfl); (· exact rfl); (· (first | with_reducible assumption | with_reducible rfl | decide)))
            | (apply op_call; (· exact rfl); (· exact rfl); (· exact rfl); (refine (live11 _).mono ?_; rintro r Ha ⟨rfl, haba⟩; replace hB := hB.grow haba))
            | (apply op_call; (· exact rfl); (· exact rfl); (· exact rfl); (refine CallWp.up up39 ((report12 (tab := tab) (log := log) hl1 hl2 (hs.mono hB.ab) (hs2.mono hB.ab)).mono ?_); rintro r Hb ⟨haab, hrep⟩; rw [if_neg hok] at hrep; subst hrep; replace hB := hB.grow haab))
            | (apply op_call; (· exact rfl); (· exact rfl); (· exact rfl); (refine CallWp.up up39 ((check20 hl1 (hs.mono hB.ab)).mono ?_); rintro r H' ⟨rfl, hab⟩; replace hB := hB.grow hab; simp only [ht, if_true, Bool.false_eq_true, if_false]))
            | (apply op_pick_t; (· exact rfl); (· exact rfl); (· (first | with_reducible assumption | with_reducible rfl | decide)); (· exact rfl))
            | (apply op_pick_f; (· exact rfl); (· exact rfl); (· (first | with_reducible assumption | with_reducible rfl | decide)); (· exact rfl))
            | (apply op_at; (· exact rfl))
            | (apply dwp_cond_t; (· exact rfl); (· (first | with_reducible assumption | with_reducible rfl | decide)))
            | (apply dwp_cond_f; (· exact rfl); (· (first | with_reducible assumption | with_reducible rfl | decide)))
            | apply dwp_skip
            | apply dwp_ret
            | (refine ⟨_, rfl, ?_⟩)
            | fail)
      | true =>
        cases he : evOk log with
        | false =>
          have hok : ¬ (tabOk tab = true ∧ evOk log = true) := by rw [he]; simp
          refine enter rfl Tryd.func4 rfl Tryd.ntmps4 rfl ?_
          dsimp only [List.cons_append, List.nil_append, List.length_cons, List.length_nil, List.replicate_succ, List.replicate_zero, Nat.reduceAdd, Nat.reduceSub]
          repeat' (first
            | dsimp only [putD, DV.cells, DH.new_next, DH.set_next, List.length_cons, List.length_nil, Nat.reduceAdd, List.set_cons_zero, List.set_cons_succ, getD_zero, getD_succ, fieldAt_zero, fieldAt_succ, thenD, blockD, retR]
            | apply dwp_seq
            | apply dwp_region
            | apply ops_nil
            | (apply ops_plain; (· exact rfl))
            | (apply ops_on; (· exact rfl); (· exact rfl); (· (first | with_reducible assumption | with_reducible rfl | decide)))
            | (apply op_call; (· exact rfl); (· exact rfl); (· exact rfl); (refine (live11 _).mono ?_; rintro r Ha ⟨rfl, haba⟩; replace hB := hB.grow haba))
            | (apply op_call; (· exact rfl); (· exact rfl); (· exact rfl); (refine CallWp.up up39 ((report12 (tab := tab) (log := log) hl1 hl2 (hs.mono hB.ab) (hs2.mono hB.ab)).mono ?_); rintro r Hb ⟨haab, hrep⟩; rw [if_neg hok] at hrep; subst hrep; replace hB := hB.grow haab))
            | (apply op_call; (· exact rfl); (· exact rfl); (· exact rfl); (refine CallWp.up up39 ((check20 hl1 (hs.mono hB.ab)).mono ?_); rintro r H' ⟨rfl, hab⟩; replace hB := hB.grow hab; simp only [ht, if_true, Bool.false_eq_true, if_false]))
            | (apply op_call; (· exact rfl); (· exact rfl); (· exact rfl); (refine CallWp.up up39 ((check21 hl2 (hs2.mono hB.ab)).mono ?_); rintro r H' ⟨rfl, hab⟩; replace hB := hB.grow hab; simp only [he, if_true, Bool.false_eq_true, if_false]))
            | (apply op_pick_t; (· exact rfl); (· exact rfl); (· (first | with_reducible assumption | with_reducible rfl | decide)); (· exact rfl))
            | (apply op_pick_f; (· exact rfl); (· exact rfl); (· (first | with_reducible assumption | with_reducible rfl | decide)); (· exact rfl))
            | (apply op_at; (· exact rfl))
            | (apply dwp_cond_t; (· exact rfl); (· (first | with_reducible assumption | with_reducible rfl | decide)))
            | (apply dwp_cond_f; (· exact rfl); (· (first | with_reducible assumption | with_reducible rfl | decide)))
            | apply dwp_skip
            | apply dwp_ret
            | (refine ⟨_, rfl, ?_⟩)
            | fail)
          exact rfl
        | true =>
          have hok : tabOk tab = true ∧ evOk log = true := ⟨ht, he⟩
          refine enter rfl Tryd.func4 rfl Tryd.ntmps4 rfl ?_
          dsimp only [List.cons_append, List.nil_append, List.length_cons, List.length_nil, List.replicate_succ, List.replicate_zero, Nat.reduceAdd, Nat.reduceSub]
          repeat' (first
            | dsimp only [putD, DV.cells, DH.new_next, DH.set_next, List.length_cons, List.length_nil, Nat.reduceAdd, List.set_cons_zero, List.set_cons_succ, getD_zero, getD_succ, fieldAt_zero, fieldAt_succ, thenD, blockD, retR]
            | apply dwp_seq
            | apply dwp_region
            | apply ops_nil
            | (apply ops_plain; (· exact rfl))
            | (apply ops_on; (· exact rfl); (· exact rfl); (· (first | with_reducible assumption | with_reducible rfl | decide)))
            | (apply op_call; (· exact rfl); (· exact rfl); (· exact rfl); (refine (live11 _).mono ?_; rintro r Ha ⟨rfl, haba⟩; replace hB := hB.grow haba))
            | (apply op_call; (· exact rfl); (· exact rfl); (· exact rfl); (refine CallWp.up up39 ((report12 (tab := tab) (log := log) hl1 hl2 (hs.mono hB.ab) (hs2.mono hB.ab)).mono ?_); rintro r Hb ⟨haab, hrep⟩; rw [if_pos hok] at hrep; obtain ⟨ba, rfl, hao, hal1, hal2⟩ := hrep; replace hB := hB.grow haab))
            | (apply op_pick_f; (· exact rfl); (· exact rfl); (· (first | with_reducible assumption | with_reducible rfl | decide)); (· exact rfl))
            | (apply op_at; (· exact rfl))
            | (apply dwp_cond_f; (· exact rfl); (· (first | with_reducible assumption | with_reducible rfl | decide)))
            | apply dwp_block
            | apply dwp_skip
            | fail)
          have hW : WFC tab (reportC tab log) := WFC.report tab _
          have hs4 := hs.mono hB.ab
          have hs5 := hs2.mono hB.ab
          have hB0 : Bx Hb Hb [] [] := Bx.init (fun f hf => by cases hf)
          refine dwp_loop (fun st => ∃ (H1 : DH) (i : Nat), ∃ J : Nat → DV, (Bx Hb H1 [] [] ∧ i ≤ tab.length) ∧ st = ⟨(.sl p tab.length c ex :: .sl p2 log.length c2 ex2 :: J 2 :: J 3 :: J 4 :: .bool true :: .sl (some (ba, 0, 7)) tab.length tab.length true :: J 7 :: J 8 :: J 9 :: J 10 :: J 11 :: J 12 :: J 13 :: J 14 :: J 15 :: J 16 :: J 17 :: J 18 :: J 19 :: J 20 :: J 21 :: J 22 :: J 23 :: J 24 :: J 25 :: J 26 :: J 27 :: J 28 :: J 29 :: J 30 :: J 31 :: J 32 :: J 33 :: J 34 :: J 35 :: J 36 :: J 37 :: J 38 :: J 39 :: J 40 :: J 41 :: J 42 :: J 43 :: J 44 :: J 45 :: J 46 :: J 47 :: J 48 :: J 49 :: J 50 :: J 51 :: J 52 :: J 53 :: J 54 :: J 55 :: .sl p tab.length c ex :: .int .i64 (tab.length : Int) :: .int .i64 (i : Int) :: J 59 :: J 60 :: J 61 :: J 62 :: J 63 :: J 64 :: J 65 :: J 66 :: J 67 :: J 68 :: J 69 :: J 70 :: J 71 :: J 72 :: J 73 :: J 74 :: J 75 :: J 76 :: J 77 :: J 78 :: J 79 :: J 80 :: J 81 :: J 82 :: J 83 :: J 84 :: J 85 :: J 86 :: J 87 :: J 88 :: J 89 :: J 90 :: J 91 :: J 92 :: J 93 :: J 94 :: J 95 :: J 96 :: J 97 :: J 98 :: J 99 :: J 100 :: J 101 :: J 102 :: J 103 :: J 104 :: J 105 :: J 106 :: J 107 :: J 108 :: J 109 :: J 110 :: J 111 :: J 112 :: J 113 :: J 114 :: J 115 :: J 116 :: J 117 :: J 118 :: J 119 :: J 120 :: J 121 :: J 122 :: J 123 :: J 124 :: J 125 :: J 126 :: J 127 :: J 128 :: J 129 :: J 130 :: J 131 :: J 132 :: J 133 :: J 134 :: J 135 :: J 136 :: J 137 :: J 138 :: J 139 :: []), H1⟩) (fun st => tab.length - kOf st 58) (⟨_, 0, junk_facts (⟨hB0, Nat.zero_le _⟩) rfl rfl⟩) ?_
          rintro st ⟨H1, i, J, ⟨hB, hi⟩, rfl⟩
          by_cases hlt : i < tab.length
          · obtain ⟨x, hx⟩ : ∃ x, tab[i]? = some x := ⟨tab[i], List.getElem?_eq_getElem hlt⟩
            obtain ⟨loc, i0, ro, rs, rfl, hloc, ho, hall⟩ := sl_all hs4 (fun e => by rw [List.map_eq_nil_iff] at e; subst e; simp at hlt)
            have hrx := hall i x.row (by rw [List.getElem?_map, hx]; rfl)
            have hr1 : rs[i0 + ((i : Int)).toNat]? = some x.row := by rw [Int.toNat_natCast]; exact hrx
            have hc : decide ((i : Int) < (tab.length : Int)) = true := by simp [hlt]
            have hin1 : 0 ≤ (i : Int) ∧ (i : Int) < (tab.length : Int) := by omega
            have hw : IntKind.i64.wrap ((i : Int) + 1) = ((i + 1 : Nat) : Int) := by rw [wrapI (by omega)]; rfl
            by_cases hdup : i ≠ 0 ∧ tab[i - 1]? = some x
            · obtain ⟨h0, hz⟩ := hdup
              obtain ⟨z, hzx⟩ : ∃ z, z = x := ⟨x, rfl⟩
              rw [← hzx] at hz
              have hp0 : decide ((i : Int) > 0) = true := by simp; omega
              have hwz : IntKind.i64.wrap ((i : Int) - 1) = ((i - 1 : Nat) : Int) := by rw [wrapI (by omega)]; omega
              have hinz : 0 ≤ ((i - 1 : Nat) : Int) ∧ ((i - 1 : Nat) : Int) < (tab.length : Int) := by omega
              have hrz0 := hall (i - 1) z.row (by rw [List.getElem?_map, hz]; rfl)
              have hrz : rs[i0 + (((i - 1 : Nat) : Int)).toNat]? = some z.row := by rw [Int.toNat_natCast]; exact hrz0
              have hzd : decide (z = x) = true := by simp [hzx]
              repeat' (first
                | dsimp only [putD, DV.cells, DH.new_next, DH.set_next, List.length_cons, List.length_nil, Nat.reduceAdd, List.set_cons_zero, List.set_cons_succ, getD_zero, getD_succ, fieldAt_zero, fieldAt_succ, thenD, blockD, retR]
                | refine dwp_drawr _ rfl (fun H' => Above Hb H' ∧ H'.obj b9 = some (.rows false 4 [x.row])) ⟨hB.ab, (show Bx Hb _ [(b9, .rows false 4 [x.row])] [] from hB).get At.here⟩ ?_
                | apply drawr_nil
                | (apply drawr_read; (· (first | exact wanted_plain rfl | (apply wanted_on; (· exact rfl); (· exact rfl); (· (first | with_reducible assumption | with_reducible rfl | decide))))); (· exact rfl); (· exact rfl); (· intro H' h; exact opD_load rfl rfl h.2 rfl (partInjR x)))
                | (apply drawr_read; (· (first | exact wanted_plain rfl | (apply wanted_on; (· exact rfl); (· exact rfl); (· (first | with_reducible assumption | with_reducible rfl | decide))))); (· exact rfl); (· exact rfl); (· intro H' h; exact opD_load rfl rfl (h.1.obj hloc ho) hrz (partInjR z)))
                | (apply drawr_pure; (· (first | exact wanted_plain rfl | (apply wanted_on; (· exact rfl); (· exact rfl); (· (first | with_reducible assumption | with_reducible rfl | decide))))); (· exact rfl); (· exact rfl); (· exact opD_index rfl rfl rfl rfl rfl hinz))
                | (apply drawr_pure; (· (first | exact wanted_plain rfl | (apply wanted_on; (· exact rfl); (· exact rfl); (· (first | with_reducible assumption | with_reducible rfl | decide))))); (· exact rfl); (· exact rfl); (· exact opD_told (opD_eql rfl rfl rfl (eqInjD z x)) (congrArg DV.bool hzd)))
                | (apply drawr_pure; (· (first | exact wanted_plain rfl | (apply wanted_on; (· exact rfl); (· exact rfl); (· (first | with_reducible assumption | with_reducible rfl | decide))))); (· exact rfl); (· exact rfl); (· exact opD_told rfl (congrArg (DV.int _) hwz)))
                | (apply drawr_pick_t; (· (first | exact wanted_plain rfl | (apply wanted_on; (· exact rfl); (· exact rfl); (· (first | with_reducible assumption | with_reducible rfl | decide))))); (· exact rfl); (· exact rfl); (· (first | with_reducible assumption | with_reducible rfl | decide)); (· exact rfl))
                | (apply drawr_pure; (· (first | exact wanted_plain rfl | (apply wanted_on; (· exact rfl); (· exact rfl); (· (first | with_reducible assumption | with_reducible rfl | decide))))); (· exact rfl); (· exact rfl); (· exact rfl))
                | apply dwp_seq
                | apply dwp_region
                | apply ops_nil
                | (apply ops_plain; (· exact rfl))
                | (apply op_index_at; (· exact rfl); (· exact rfl); (· exact rfl); (· with_reducible exact hin1); (· exact rfl); (· exact rfl))
                | (apply op_load_at; (· exact rfl); (· exact rfl); (· exact hB.ab.obj hloc ho); (· exact hr1); (· exact partInjR x))
                | (apply bx_store0; (· exact rfl); (· exact rfl); (· exact rfl); (· assumption); (· (first | (dsimp only [putD, DV.cells, DH.new_next, DH.set_next, List.length_cons, List.length_nil, Nat.reduceAdd, List.set_cons_zero, List.set_cons_succ, getD_zero, getD_succ, fieldAt_zero, fieldAt_succ, thenD, blockD, retR, Sv.cells]; done) | (dsimp only [putD, DV.cells, DH.new_next, DH.set_next, List.length_cons, List.length_nil, Nat.reduceAdd, List.set_cons_zero, List.set_cons_succ, getD_zero, getD_succ, fieldAt_zero, fieldAt_succ, thenD, blockD, retR, Sv.cells]; exact rfl) | exact rfl)); (· (repeat (first | with_reducible exact Upd.here | with_reducible apply Upd.there))); (· exact rfl); (· exact rfl); (· exact rfl); (· exact rfl); intro H1 hB)
                | (apply bx_alloc; (· exact rfl); (· exact zero30); (· (first | (dsimp only [putD, DV.cells, DH.new_next, DH.set_next, List.length_cons, List.length_nil, Nat.reduceAdd, List.set_cons_zero, List.set_cons_succ, getD_zero, getD_succ, fieldAt_zero, fieldAt_succ, thenD, blockD, retR, Sv.cells]; done) | (dsimp only [putD, DV.cells, DH.new_next, DH.set_next, List.length_cons, List.length_nil, Nat.reduceAdd, List.set_cons_zero, List.set_cons_succ, getD_zero, getD_succ, fieldAt_zero, fieldAt_succ, thenD, blockD, retR, Sv.cells]; exact rfl) | exact rfl)); (· exact rfl); (· exact rfl); (· exact rfl); (· assumption); intro b9 H1 hB)
                | (apply op_at; (· exact rfl))
                | (apply dwp_cond_t; (· exact rfl); (· (first | with_reducible assumption | with_reducible rfl | decide)))
                | apply dwp_block
                | apply dwp_skip
                | apply dwp_ret
                | (refine ⟨_, rfl, ?_⟩)
                | fail)
            · have hor : i = 0 ∨ ∃ z, tab[i - 1]? = some z ∧ z ≠ x := by
                by_cases h0 : i = 0
                · exact .inl h0
                · exact .inr ⟨_, List.getElem?_eq_getElem (by omega), fun e => hdup ⟨h0, by rw [List.getElem?_eq_getElem (by omega), e]⟩⟩
              have hfo := first_of (sorted_tab ht) hx hor
              repeat' (first
                | dsimp only [putD, DV.cells, DH.new_next, DH.set_next, List.length_cons, List.length_nil, Nat.reduceAdd, List.set_cons_zero, List.set_cons_succ, getD_zero, getD_succ, fieldAt_zero, fieldAt_succ, thenD, blockD, retR]
                | (refine dwp_cutAt (id := 14) (fun st => ∃ J : Nat → DV, st = ⟨(.sl (some (loc, i0, 4)) tab.length c ex :: .sl p2 log.length c2 ex2 :: J 2 :: J 3 :: J 4 :: .bool true :: .sl (some (ba, 0, 7)) tab.length tab.length true :: J 7 :: .int .i64 (i : Int) :: .ptr (some (b9, 0, 0)) :: J 10 :: J 11 :: J 12 :: J 13 :: J 14 :: J 15 :: J 16 :: J 17 :: J 18 :: J 19 :: J 20 :: J 21 :: J 22 :: J 23 :: J 24 :: J 25 :: J 26 :: J 27 :: J 28 :: J 29 :: J 30 :: J 31 :: J 32 :: J 33 :: J 34 :: J 35 :: J 36 :: J 37 :: J 38 :: J 39 :: J 40 :: J 41 :: J 42 :: J 43 :: J 44 :: J 45 :: J 46 :: J 47 :: J 48 :: J 49 :: J 50 :: J 51 :: J 52 :: J 53 :: J 54 :: J 55 :: .sl (some (loc, i0, 4)) tab.length c ex :: .int .i64 (tab.length : Int) :: .int .i64 (i : Int) :: J 59 :: J 60 :: J 61 :: J 62 :: J 63 :: J 64 :: J 65 :: J 66 :: J 67 :: J 68 :: J 69 :: J 70 :: J 71 :: J 72 :: .bool false :: J 74 :: J 75 :: J 76 :: J 77 :: J 78 :: J 79 :: J 80 :: J 81 :: J 82 :: J 83 :: J 84 :: J 85 :: J 86 :: J 87 :: J 88 :: J 89 :: J 90 :: J 91 :: J 92 :: J 93 :: J 94 :: J 95 :: J 96 :: J 97 :: J 98 :: J 99 :: J 100 :: J 101 :: J 102 :: J 103 :: J 104 :: J 105 :: J 106 :: J 107 :: J 108 :: J 109 :: J 110 :: J 111 :: J 112 :: J 113 :: J 114 :: J 115 :: J 116 :: J 117 :: J 118 :: J 119 :: J 120 :: J 121 :: J 122 :: J 123 :: J 124 :: J 125 :: J 126 :: J 127 :: J 128 :: J 129 :: J 130 :: J 131 :: J 132 :: J 133 :: J 134 :: J 135 :: J 136 :: J 137 :: J 138 :: J 139 :: []), H1⟩) ?_ ?_)
                | apply dwp_seq
                | apply dwp_region
                | apply ops_nil
                | (apply ops_plain; (· exact rfl))
                | (apply op_index_at; (· exact rfl); (· exact rfl); (· exact rfl); (· with_reducible exact hin1); (· exact rfl); (· exact rfl))
                | (apply op_load_at; (· exact rfl); (· exact rfl); (· exact hB.ab.obj hloc ho); (· exact hr1); (· exact partInjR x))
                | (apply bx_store0; (· exact rfl); (· exact rfl); (· exact rfl); (· assumption); (· (first | (dsimp only [putD, DV.cells, DH.new_next, DH.set_next, List.length_cons, List.length_nil, Nat.reduceAdd, List.set_cons_zero, List.set_cons_succ, getD_zero, getD_succ, fieldAt_zero, fieldAt_succ, thenD, blockD, retR, Sv.cells]; done) | (dsimp only [putD, DV.cells, DH.new_next, DH.set_next, List.length_cons, List.length_nil, Nat.reduceAdd, List.set_cons_zero, List.set_cons_succ, getD_zero, getD_succ, fieldAt_zero, fieldAt_succ, thenD, blockD, retR, Sv.cells]; exact rfl) | exact rfl)); (· (repeat (first | with_reducible exact Upd.here | with_reducible apply Upd.there))); (· exact rfl); (· exact rfl); (· exact rfl); (· exact rfl); intro H1 hB)
                | (apply bx_alloc; (· exact rfl); (· exact zero30); (· (first | (dsimp only [putD, DV.cells, DH.new_next, DH.set_next, List.length_cons, List.length_nil, Nat.reduceAdd, List.set_cons_zero, List.set_cons_succ, getD_zero, getD_succ, fieldAt_zero, fieldAt_succ, thenD, blockD, retR, Sv.cells]; done) | (dsimp only [putD, DV.cells, DH.new_next, DH.set_next, List.length_cons, List.length_nil, Nat.reduceAdd, List.set_cons_zero, List.set_cons_succ, getD_zero, getD_succ, fieldAt_zero, fieldAt_succ, thenD, blockD, retR, Sv.cells]; exact rfl) | exact rfl)); (· exact rfl); (· exact rfl); (· exact rfl); (· assumption); intro b9 H1 hB)
                | (apply op_at; (· exact rfl))
                | (apply dwp_cond_t; (· exact rfl); (· (first | with_reducible assumption | with_reducible rfl | decide)))
                | apply dwp_block
                | apply dwp_skip
                | fail)
              · refine ⟨?_⟩
                rcases hor with h0 | ⟨z, hz, hzx⟩
                · have hp0 : decide ((i : Int) > 0) = false := by subst h0; rfl
                  repeat' (first
                    | dsimp only [putD, DV.cells, DH.new_next, DH.set_next, List.length_cons, List.length_nil, Nat.reduceAdd, List.set_cons_zero, List.set_cons_succ, getD_zero, getD_succ, fieldAt_zero, fieldAt_succ, thenD, blockD, retR]
                    | refine dwp_drawr _ rfl (fun H' => Above Hb H' ∧ H'.obj b9 = some (.rows false 4 [x.row])) ⟨hB.ab, (show Bx Hb _ [(b9, .rows false 4 [x.row])] [] from hB).get At.here⟩ ?_
                    | apply drawr_nil
                    | (apply drawr_pick_f; (· (first | exact wanted_plain rfl | (apply wanted_on; (· exact rfl); (· exact rfl); (· (first | with_reducible assumption | with_reducible rfl | decide))))); (· exact rfl); (· exact rfl); (· (first | with_reducible assumption | with_reducible rfl | decide)); (· exact rfl))
                    | (apply drawr_pure; (· (first | exact wanted_plain rfl | (apply wanted_on; (· exact rfl); (· exact rfl); (· (first | with_reducible assumption | with_reducible rfl | decide))))); (· exact rfl); (· exact rfl); (· exact rfl))
                    | (apply drawr_off; (· (first | (apply wanted_off1; (· exact rfl); (· exact rfl); (· (first | with_reducible assumption | with_reducible rfl | decide))) | (apply wanted_off0; (· exact rfl); (· exact rfl); (· (first | with_reducible assumption | with_reducible rfl | decide))) | (apply wanted_none; (· exact rfl); (· exact rfl)))))
                    | fail)
                  exact ⟨rfl, junk_eq rfl rfl⟩
                · have h0 : i ≠ 0 := by
                    intro h0; subst h0
                    simp only [Nat.zero_sub] at hz
                    rw [hx] at hz
                    exact hzx (Option.some.inj hz).symm
                  have hp0 : decide ((i : Int) > 0) = true := by simp; omega
                  have hwz : IntKind.i64.wrap ((i : Int) - 1) = ((i - 1 : Nat) : Int) := by rw [wrapI (by omega)]; omega
                  have hinz : 0 ≤ ((i - 1 : Nat) : Int) ∧ ((i - 1 : Nat) : Int) < (tab.length : Int) := by omega
                  have hrz0 := hall (i - 1) z.row (by rw [List.getElem?_map, hz]; rfl)
                  have hrz : rs[i0 + (((i - 1 : Nat) : Int)).toNat]? = some z.row := by rw [Int.toNat_natCast]; exact hrz0
                  have hzd : decide (z = x) = false := by simp [hzx]
                  repeat' (first
                    | dsimp only [putD, DV.cells, DH.new_next, DH.set_next, List.length_cons, List.length_nil, Nat.reduceAdd, List.set_cons_zero, List.set_cons_succ, getD_zero, getD_succ, fieldAt_zero, fieldAt_succ, thenD, blockD, retR]
                    | refine dwp_drawr _ rfl (fun H' => Above Hb H' ∧ H'.obj b9 = some (.rows false 4 [x.row])) ⟨hB.ab, (show Bx Hb _ [(b9, .rows false 4 [x.row])] [] from hB).get At.here⟩ ?_
                    | apply drawr_nil
                    | (apply drawr_read; (· (first | exact wanted_plain rfl | (apply wanted_on; (· exact rfl); (· exact rfl); (· (first | with_reducible assumption | with_reducible rfl | decide))))); (· exact rfl); (· exact rfl); (· intro H' h; exact opD_load rfl rfl h.2 rfl (partInjR x)))
                    | (apply drawr_read; (· (first | exact wanted_plain rfl | (apply wanted_on; (· exact rfl); (· exact rfl); (· (first | with_reducible assumption | with_reducible rfl | decide))))); (· exact rfl); (· exact rfl); (· intro H' h; exact opD_load rfl rfl (h.1.obj hloc ho) hrz (partInjR z)))
                    | (apply drawr_pure; (· (first | exact wanted_plain rfl | (apply wanted_on; (· exact rfl); (· exact rfl); (· (first | with_reducible assumption | with_reducible rfl | decide))))); (· exact rfl); (· exact rfl); (· exact opD_index rfl rfl rfl rfl rfl hinz))
                    | (apply drawr_pure; (· (first | exact wanted_plain rfl | (apply wanted_on; (· exact rfl); (· exact rfl); (· (first | with_reducible assumption | with_reducible rfl | decide))))); (· exact rfl); (· exact rfl); (· exact opD_told (opD_eql rfl rfl rfl (eqInjD z x)) (congrArg DV.bool hzd)))
                    | (apply drawr_pure; (· (first | exact wanted_plain rfl | (apply wanted_on; (· exact rfl); (· exact rfl); (· (first | with_reducible assumption | with_reducible rfl | decide))))); (· exact rfl); (· exact rfl); (· exact opD_told rfl (congrArg (DV.int _) hwz)))
                    | (apply drawr_pick_t; (· (first | exact wanted_plain rfl | (apply wanted_on; (· exact rfl); (· exact rfl); (· (first | with_reducible assumption | with_reducible rfl | decide))))); (· exact rfl); (· exact rfl); (· (first | with_reducible assumption | with_reducible rfl | decide)); (· exact rfl))
                    | (apply drawr_pure; (· (first | exact wanted_plain rfl | (apply wanted_on; (· exact rfl); (· exact rfl); (· (first | with_reducible assumption | with_reducible rfl | decide))))); (· exact rfl); (· exact rfl); (· exact rfl))
                    | fail)
                  exact ⟨rfl, junk_eq rfl rfl⟩
              · rintro st ⟨J, rfl⟩
                try dsimp only [thenD]
                repeat' (first
                  | dsimp only [putD, DV.cells, DH.new_next, DH.set_next, List.length_cons, List.length_nil, Nat.reduceAdd, List.set_cons_zero, List.set_cons_succ, getD_zero, getD_succ, fieldAt_zero, fieldAt_succ, thenD, blockD, retR]
                  | apply dwp_seq
                  | apply dwp_region
                  | apply ops_nil
                  | (apply ops_plain; (· exact rfl))
                  | (apply op_at; (· exact rfl))
                  | (apply dwp_cond_f; (· exact rfl); (· (first | with_reducible assumption | with_reducible rfl | decide)))
                  | apply dwp_block
                  | apply dwp_skip
                  | fail)
                refine dwp_loop (fun st => ∃ (H1 : DH) (j : Nat) (f d : Bool) (a : Int), ∃ J : Nat → DV, (Bx Hb H1 [(b9, .rows false 4 [x.row])] [] ∧ j ≤ log.length ∧ Scan.mk f d a = scanF x (log.take j)) ∧ st = ⟨(.sl (some (loc, i0, 4)) tab.length c ex :: .sl p2 log.length c2 ex2 :: J 2 :: J 3 :: J 4 :: .bool true :: .sl (some (ba, 0, 7)) tab.length tab.length true :: J 7 :: .int .i64 (i : Int) :: .ptr (some (b9, 0, 0)) :: .bool f :: .bool d :: .int .i64 a :: J 13 :: J 14 :: J 15 :: J 16 :: J 17 :: J 18 :: J 19 :: J 20 :: J 21 :: J 22 :: J 23 :: J 24 :: J 25 :: J 26 :: J 27 :: J 28 :: J 29 :: J 30 :: J 31 :: J 32 :: J 33 :: J 34 :: J 35 :: J 36 :: J 37 :: J 38 :: J 39 :: J 40 :: J 41 :: J 42 :: J 43 :: J 44 :: J 45 :: J 46 :: J 47 :: J 48 :: J 49 :: J 50 :: J 51 :: J 52 :: J 53 :: J 54 :: J 55 :: .sl (some (loc, i0, 4)) tab.length c ex :: .int .i64 (tab.length : Int) :: .int .i64 (i : Int) :: J 59 :: J 60 :: J 61 :: J 62 :: J 63 :: J 64 :: J 65 :: J 66 :: J 67 :: J 68 :: J 69 :: J 70 :: J 71 :: J 72 :: J 73 :: J 74 :: .sl p2 log.length c2 ex2 :: .int .i64 (log.length : Int) :: .int .i64 (j : Int) :: J 78 :: J 79 :: J 80 :: J 81 :: J 82 :: J 83 :: J 84 :: J 85 :: J 86 :: J 87 :: J 88 :: J 89 :: J 90 :: J 91 :: J 92 :: J 93 :: J 94 :: J 95 :: J 96 :: J 97 :: J 98 :: J 99 :: J 100 :: J 101 :: J 102 :: J 103 :: J 104 :: J 105 :: J 106 :: J 107 :: J 108 :: J 109 :: J 110 :: J 111 :: J 112 :: J 113 :: J 114 :: J 115 :: J 116 :: J 117 :: J 118 :: J 119 :: J 120 :: J 121 :: J 122 :: J 123 :: J 124 :: J 125 :: J 126 :: J 127 :: J 128 :: J 129 :: J 130 :: J 131 :: J 132 :: J 133 :: J 134 :: J 135 :: J 136 :: J 137 :: J 138 :: J 139 :: []), H1⟩) (fun st => log.length - kOf st 77) (⟨_, 0, false, false, 0, junk_facts (⟨hB, Nat.zero_le _, rfl⟩) rfl rfl⟩) ?_
                rintro st ⟨H1, j, f, d, a, J, ⟨hB, hj, hsc⟩, rfl⟩
                by_cases hlt2 : j < log.length
                · obtain ⟨y, hy⟩ : ∃ y, log[j]? = some y := ⟨log[j], List.getElem?_eq_getElem hlt2⟩
                  obtain ⟨loc2, i2, ro2, rs2, rfl, hloc2, ho2, hrx2⟩ := hs5.rd (k := j) (r := y.row) (by rw [List.getElem?_map, hy]; rfl)
                  have hr2 : rs2[i2 + ((j : Int)).toNat]? = some y.row := by rw [Int.toNat_natCast]; exact hrx2
                  have hc2 : decide ((j : Int) < (log.length : Int)) = true := by simp [hlt2]
                  have hinj : 0 ≤ (j : Int) ∧ (j : Int) < (log.length : Int) := by omega
                  have hw2 : IntKind.i64.wrap ((j : Int) + 1) = ((j + 1 : Nat) : Int) := by rw [wrapI (by omega)]; rfl
                  have hsc' : scanF x (log.take (j + 1)) = scanStep x ⟨f, d, a⟩ y := by rw [scan_succ hy, hsc]
                  cases f with
                  | true =>
                    cases d with
                    | true =>
                      repeat' (first
                        | dsimp only [putD, DV.cells, DH.new_next, DH.set_next, List.length_cons, List.length_nil, Nat.reduceAdd, List.set_cons_zero, List.set_cons_succ, getD_zero, getD_succ, fieldAt_zero, fieldAt_succ, thenD, blockD, retR]
                        | apply dwp_seq
                        | apply dwp_region
                        | apply ops_nil
                        | (apply ops_plain; (· exact rfl))
                        | (apply ops_on; (· exact rfl); (· exact rfl); (· (first | with_reducible assumption | with_reducible rfl | decide)))
                        | (apply ops_off1; (· exact rfl); (· exact rfl); (· (first | with_reducible assumption | with_reducible rfl | decide)))
                        | (apply ops_off0; (· exact rfl); (· exact rfl); (· (first | with_reducible assumption | with_reducible rfl | decide)))
                        | (apply ops_offn; (· exact rfl); (· exact rfl))
                        | (apply op_pick_t; (· exact rfl); (· exact rfl); (· (first | with_reducible assumption | with_reducible rfl | decide)); (· exact rfl))
                        | (apply op_pick_f; (· exact rfl); (· exact rfl); (· (first | with_reducible assumption | with_reducible rfl | decide)); (· exact rfl))
                        | (apply op_index_at; (· exact rfl); (· exact rfl); (· exact rfl); (· with_reducible exact hinj); (· exact rfl); (· exact rfl))
                        | (apply op_load_at; (· exact rfl); (· exact rfl); (· exact hB.ab.obj hloc2 ho2); (· exact hr2); (· exact partEvR y))
                        | (apply op_told; (· exact rfl); (· exact congrArg (DV.int _) hw2))
                        | (apply bx_store0; (· exact rfl); (· exact rfl); (· exact rfl); (· assumption); (· (first | (dsimp only [putD, DV.cells, DH.new_next, DH.set_next, List.length_cons, List.length_nil, Nat.reduceAdd, List.set_cons_zero, List.set_cons_succ, getD_zero, getD_succ, fieldAt_zero, fieldAt_succ, thenD, blockD, retR, Sv.cells]; done) | (dsimp only [putD, DV.cells, DH.new_next, DH.set_next, List.length_cons, List.length_nil, Nat.reduceAdd, List.set_cons_zero, List.set_cons_succ, getD_zero, getD_succ, fieldAt_zero, fieldAt_succ, thenD, blockD, retR, Sv.cells]; exact rfl) | exact rfl)); (· (repeat (first | with_reducible exact Upd.here | with_reducible apply Upd.there))); (· exact rfl); (· exact rfl); (· exact rfl); (· exact rfl); intro H1 hB)
                        | (apply bx_alloc; (· exact rfl); (· exact zero34); (· (first | (dsimp only [putD, DV.cells, DH.new_next, DH.set_next, List.length_cons, List.length_nil, Nat.reduceAdd, List.set_cons_zero, List.set_cons_succ, getD_zero, getD_succ, fieldAt_zero, fieldAt_succ, thenD, blockD, retR, Sv.cells]; done) | (dsimp only [putD, DV.cells, DH.new_next, DH.set_next, List.length_cons, List.length_nil, Nat.reduceAdd, List.set_cons_zero, List.set_cons_succ, getD_zero, getD_succ, fieldAt_zero, fieldAt_succ, thenD, blockD, retR, Sv.cells]; exact rfl) | exact rfl)); (· exact rfl); (· exact rfl); (· exact rfl); (· assumption); intro b14 H1 hB)
                        | (apply op_at; (· exact rfl))
                        | (apply dwp_cond_t; (· exact rfl); (· (first | with_reducible assumption | with_reducible rfl | decide)))
                        | (apply dwp_cond_f; (· exact rfl); (· (first | with_reducible assumption | with_reducible rfl | decide)))
                        | apply dwp_block
                        | apply dwp_skip
                        | fail)
                      refine ⟨⟨_, j + 1, true, true, a, junk_facts ⟨hB.drop1, by omega, ?_⟩ rfl rfl⟩, ?_⟩
                      · rw [hsc']; simp [scanStep]
                      · show log.length - ((j + 1 : Nat) : Int).toNat < log.length - (j : Int).toNat
                        omega
                    | false =>
                      cases hnt : noticesF x y with
                      | true =>
                        repeat' (first
                          | dsimp only [putD, DV.cells, DH.new_next, DH.set_next, List.length_cons, List.length_nil, Nat.reduceAdd, List.set_cons_zero, List.set_cons_succ, getD_zero, getD_succ, fieldAt_zero, fieldAt_succ, thenD, blockD, retR]
                          | apply dwp_seq
                          | apply dwp_region
                          | apply ops_nil
                          | (apply ops_plain; (· exact rfl))
                          | (apply ops_on; (· exact rfl); (· exact rfl); (· (first | with_reducible assumption | with_reducible rfl | decide)))
                          | (apply ops_off0; (· exact rfl); (· exact rfl); (· (first | with_reducible assumption | with_reducible rfl | decide)))
                          | (apply ops_offn; (· exact rfl); (· exact rfl))
                          | (apply op_call; (· exact rfl); (· exact rfl); (· exact rfl); (refine CallWp.up up39 ((notices14 x y _).mono ?_); rintro r H' ⟨rfl, hab⟩; replace hB := hB.grow hab))
                          | (apply op_pick_t; (· exact rfl); (· exact rfl); (· (first | with_reducible assumption | with_reducible rfl | decide)); (· exact rfl))
                          | (apply op_index_at; (· exact rfl); (· exact rfl); (· exact rfl); (· with_reducible exact hinj); (· exact rfl); (· exact rfl))
                          | (apply op_load_at; (· exact rfl); (· exact rfl); (· exact hB.ab.obj hloc2 ho2); (· exact hr2); (· exact partEvR y))
                          | (apply op_told; (· exact rfl); (· exact congrArg (DV.int _) hw2))
                          | (apply bx_load0; (· exact rfl); (· exact rfl); (· assumption); (· (repeat (first | with_reducible exact At.here | with_reducible apply At.there))); (· (first | exact partInjR _ | exact partEvR _ | exact rfl)))
                          | (apply bx_store0; (· exact rfl); (· exact rfl); (· exact rfl); (· assumption); (· (first | (dsimp only [putD, DV.cells, DH.new_next, DH.set_next, List.length_cons, List.length_nil, Nat.reduceAdd, List.set_cons_zero, List.set_cons_succ, getD_zero, getD_succ, fieldAt_zero, fieldAt_succ, thenD, blockD, retR, Sv.cells]; done) | (dsimp only [putD, DV.cells, DH.new_next, DH.set_next, List.length_cons, List.length_nil, Nat.reduceAdd, List.set_cons_zero, List.set_cons_succ, getD_zero, getD_succ, fieldAt_zero, fieldAt_succ, thenD, blockD, retR, Sv.cells]; exact rfl) | exact rfl)); (· (repeat (first | with_reducible exact Upd.here | with_reducible apply Upd.there))); (· exact rfl); (· exact rfl); (· exact rfl); (· exact rfl); intro H1 hB)
                          | (apply bx_alloc; (· exact rfl); (· exact zero34); (· (first | (dsimp only [putD, DV.cells, DH.new_next, DH.set_next, List.length_cons, List.length_nil, Nat.reduceAdd, List.set_cons_zero, List.set_cons_succ, getD_zero, getD_succ, fieldAt_zero, fieldAt_succ, thenD, blockD, retR, Sv.cells]; done) | (dsimp only [putD, DV.cells, DH.new_next, DH.set_next, List.length_cons, List.length_nil, Nat.reduceAdd, List.set_cons_zero, List.set_cons_succ, getD_zero, getD_succ, fieldAt_zero, fieldAt_succ, thenD, blockD, retR, Sv.cells]; exact rfl) | exact rfl)); (· exact rfl); (· exact rfl); (· exact rfl); (· assumption); intro b14 H1 hB)
                          | (apply op_at; (· exact rfl))
                          | (apply dwp_cond_t; (· exact rfl); (· (first | with_reducible assumption | with_reducible rfl | decide)))
                          | apply dwp_block
                          | apply dwp_skip
                          | fail)
                        refine ⟨⟨_, j + 1, true, true, y.t, junk_facts ⟨hB.drop1, by omega, ?_⟩ rfl rfl⟩, ?_⟩
                        · rw [hsc']; simp [scanStep, hnt]
                        · show log.length - ((j + 1 : Nat) : Int).toNat < log.length - (j : Int).toNat
                          omega
                      | false =>
                        repeat' (first
                          | dsimp only [putD, DV.cells, DH.new_next, DH.set_next, List.length_cons, List.length_nil, Nat.reduceAdd, List.set_cons_zero, List.set_cons_succ, getD_zero, getD_succ, fieldAt_zero, fieldAt_succ, thenD, blockD, retR]
                          | apply dwp_seq
                          | apply dwp_region
                          | apply ops_nil
                          | (apply ops_plain; (· exact rfl))
                          | (apply ops_on; (· exact rfl); (· exact rfl); (· (first | with_reducible assumption | with_reducible rfl | decide)))
                          | (apply ops_off0; (· exact rfl); (· exact rfl); (· (first | with_reducible assumption | with_reducible rfl | decide)))
                          | (apply ops_offn; (· exact rfl); (· exact rfl))
                          | (apply op_call; (· exact rfl); (· exact rfl); (· exact rfl); (refine CallWp.up up39 ((notices14 x y _).mono ?_); rintro r H' ⟨rfl, hab⟩; replace hB := hB.grow hab))
                          | (apply op_pick_t; (· exact rfl); (· exact rfl); (· (first | with_reducible assumption | with_reducible rfl | decide)); (· exact rfl))
                          | (apply op_index_at; (· exact rfl); (· exact rfl); (· exact rfl); (· with_reducible exact hinj); (· exact rfl); (· exact rfl))
                          | (apply op_load_at; (· exact rfl); (· exact rfl); (· exact hB.ab.obj hloc2 ho2); (· exact hr2); (· exact partEvR y))
                          | (apply op_told; (· exact rfl); (· exact congrArg (DV.int _) hw2))
                          | (apply bx_load0; (· exact rfl); (· exact rfl); (· assumption); (· (repeat (first | with_reducible exact At.here | with_reducible apply At.there))); (· (first | exact partInjR _ | exact partEvR _ | exact rfl)))
                          | (apply bx_store0; (· exact rfl); (· exact rfl); (· exact rfl); (· assumption); (· (first | (dsimp only [putD, DV.cells, DH.new_next, DH.set_next, List.length_cons, List.length_nil, Nat.reduceAdd, List.set_cons_zero, List.set_cons_succ, getD_zero, getD_succ, fieldAt_zero, fieldAt_succ, thenD, blockD, retR, Sv.cells]; done) | (dsimp only [putD, DV.cells, DH.new_next, DH.set_next, List.length_cons, List.length_nil, Nat.reduceAdd, List.set_cons_zero, List.set_cons_succ, getD_zero, getD_succ, fieldAt_zero, fieldAt_succ, thenD, blockD, retR, Sv.cells]; exact rfl) | exact rfl)); (· (repeat (first | with_reducible exact Upd.here | with_reducible apply Upd.there))); (· exact rfl); (· exact rfl); (· exact rfl); (· exact rfl); intro H1 hB)
                          | (apply bx_alloc; (· exact rfl); (· exact zero34); (· (first | (dsimp only [putD, DV.cells, DH.new_next, DH.set_next, List.length_cons, List.length_nil, Nat.reduceAdd, List.set_cons_zero, List.set_cons_succ, getD_zero, getD_succ, fieldAt_zero, fieldAt_succ, thenD, blockD, retR, Sv.cells]; done) | (dsimp only [putD, DV.cells, DH.new_next, DH.set_next, List.length_cons, List.length_nil, Nat.reduceAdd, List.set_cons_zero, List.set_cons_succ, getD_zero, getD_succ, fieldAt_zero, fieldAt_succ, thenD, blockD, retR, Sv.cells]; exact rfl) | exact rfl)); (· exact rfl); (· exact rfl); (· exact rfl); (· assumption); intro b14 H1 hB)
                          | (apply op_at; (· exact rfl))
                          | (apply dwp_cond_t; (· exact rfl); (· (first | with_reducible assumption | with_reducible rfl | decide)))
                          | (apply dwp_cond_f; (· exact rfl); (· (first | with_reducible assumption | with_reducible rfl | decide)))
                          | apply dwp_block
                          | apply dwp_skip
                          | fail)
                        refine ⟨⟨_, j + 1, true, false, a, junk_facts ⟨hB.drop1, by omega, ?_⟩ rfl rfl⟩, ?_⟩
                        · rw [hsc']; simp [scanStep, hnt]
                        · show log.length - ((j + 1 : Nat) : Int).toNat < log.length - (j : Int).toNat
                          omega
                  | false =>
                    cases k1 : (y.k == 11) with
                    | false =>
                      have hnk : decide (y = keyOf x) = false := by
                        rw [decide_eq_false_iff_not]
                        intro e
                        rw [e] at k1
                        simp [keyOf] at k1
                      repeat' (first
                        | dsimp only [putD, DV.cells, DH.new_next, DH.set_next, List.length_cons, List.length_nil, Nat.reduceAdd, List.set_cons_zero, List.set_cons_succ, getD_zero, getD_succ, fieldAt_zero, fieldAt_succ, thenD, blockD, retR]
                        | apply dwp_seq
                        | apply dwp_region
                        | apply ops_nil
                        | (apply ops_plain; (· exact rfl))
                        | (apply ops_on; (· exact rfl); (· exact rfl); (· (first | with_reducible assumption | with_reducible rfl | decide)))
                        | (apply ops_off1; (· exact rfl); (· exact rfl); (· (first | with_reducible assumption | with_reducible rfl | decide)))
                        | (apply op_pick_f; (· exact rfl); (· exact rfl); (· (first | with_reducible assumption | with_reducible rfl | decide)); (· exact rfl))
                        | (apply op_index_at; (· exact rfl); (· exact rfl); (· exact rfl); (· with_reducible exact hinj); (· exact rfl); (· exact rfl))
                        | (apply op_load_at; (· exact rfl); (· exact rfl); (· exact hB.ab.obj hloc2 ho2); (· exact hr2); (· exact partEvR y))
                        | (apply op_told; (· exact rfl); (· exact congrArg (DV.int _) hw2))
                        | (apply bx_load0; (· exact rfl); (· exact rfl); (· assumption); (· (repeat (first | with_reducible exact At.here | with_reducible apply At.there))); (· (first | exact partInjR _ | exact partEvR _ | exact rfl)))
                        | (apply bx_store0; (· exact rfl); (· exact rfl); (· exact rfl); (· assumption); (· (first | (dsimp only [putD, DV.cells, DH.new_next, DH.set_next, List.length_cons, List.length_nil, Nat.reduceAdd, List.set_cons_zero, List.set_cons_succ, getD_zero, getD_succ, fieldAt_zero, fieldAt_succ, thenD, blockD, retR, Sv.cells]; done) | (dsimp only [putD, DV.cells, DH.new_next, DH.set_next, List.length_cons, List.length_nil, Nat.reduceAdd, List.set_cons_zero, List.set_cons_succ, getD_zero, getD_succ, fieldAt_zero, fieldAt_succ, thenD, blockD, retR, Sv.cells]; exact rfl) | exact rfl)); (· (repeat (first | with_reducible exact Upd.here | with_reducible apply Upd.there))); (· exact rfl); (· exact rfl); (· exact rfl); (· exact rfl); intro H1 hB)
                        | (apply bx_alloc; (· exact rfl); (· exact zero34); (· (first | (dsimp only [putD, DV.cells, DH.new_next, DH.set_next, List.length_cons, List.length_nil, Nat.reduceAdd, List.set_cons_zero, List.set_cons_succ, getD_zero, getD_succ, fieldAt_zero, fieldAt_succ, thenD, blockD, retR, Sv.cells]; done) | (dsimp only [putD, DV.cells, DH.new_next, DH.set_next, List.length_cons, List.length_nil, Nat.reduceAdd, List.set_cons_zero, List.set_cons_succ, getD_zero, getD_succ, fieldAt_zero, fieldAt_succ, thenD, blockD, retR, Sv.cells]; exact rfl) | exact rfl)); (· exact rfl); (· exact rfl); (· exact rfl); (· assumption); intro b14 H1 hB)
                        | (apply op_at; (· exact rfl))
                        | (apply dwp_cond_t; (· exact rfl); (· (first | with_reducible assumption | with_reducible rfl | decide)))
                        | (apply dwp_cond_f; (· exact rfl); (· (first | with_reducible assumption | with_reducible rfl | decide)))
                        | apply dwp_block
                        | apply dwp_skip
                        | fail)
                      refine ⟨⟨_, j + 1, false, d, a, junk_facts ⟨hB.drop1, by omega, ?_⟩ rfl rfl⟩, ?_⟩
                      · rw [hsc']; simp [scanStep, hnk]
                      · show log.length - ((j + 1 : Nat) : Int).toNat < log.length - (j : Int).toNat
                        omega
                    | true =>
                      cases k2 : (y.t == x.t) with
                      | false =>
                        have hnk : decide (y = keyOf x) = false := by
                          rw [decide_eq_false_iff_not]
                          intro e
                          rw [e] at k2
                          simp [keyOf] at k2
                        repeat' (first
                          | dsimp only [putD, DV.cells, DH.new_next, DH.set_next, List.length_cons, List.length_nil, Nat.reduceAdd, List.set_cons_zero, List.set_cons_succ, getD_zero, getD_succ, fieldAt_zero, fieldAt_succ, thenD, blockD, retR]
                          | apply dwp_seq
                          | apply dwp_region
                          | apply ops_nil
                          | (apply ops_plain; (· exact rfl))
                          | (apply ops_on; (· exact rfl); (· exact rfl); (· (first | with_reducible assumption | with_reducible rfl | decide)))
                          | (apply ops_off1; (· exact rfl); (· exact rfl); (· (first | with_reducible assumption | with_reducible rfl | decide)))
                          | (apply op_pick_t; (· exact rfl); (· exact rfl); (· (first | with_reducible assumption | with_reducible rfl | decide)); (· exact rfl))
                          | (apply op_pick_f; (· exact rfl); (· exact rfl); (· (first | with_reducible assumption | with_reducible rfl | decide)); (· exact rfl))
                          | (apply op_index_at; (· exact rfl); (· exact rfl); (· exact rfl); (· with_reducible exact hinj); (· exact rfl); (· exact rfl))
                          | (apply op_load_at; (· exact rfl); (· exact rfl); (· exact hB.ab.obj hloc2 ho2); (· exact hr2); (· exact partEvR y))
                          | (apply op_told; (· exact rfl); (· exact congrArg (DV.int _) hw2))
                          | (apply bx_load0; (· exact rfl); (· exact rfl); (· assumption); (· (repeat (first | with_reducible exact At.here | with_reducible apply At.there))); (· (first | exact partInjR _ | exact partEvR _ | exact rfl)))
                          | (apply bx_store0; (· exact rfl); (· exact rfl); (· exact rfl); (· assumption); (· (first | (dsimp only [putD, DV.cells, DH.new_next, DH.set_next, List.length_cons, List.length_nil, Nat.reduceAdd, List.set_cons_zero, List.set_cons_succ, getD_zero, getD_succ, fieldAt_zero, fieldAt_succ, thenD, blockD, retR, Sv.cells]; done) | (dsimp only [putD, DV.cells, DH.new_next, DH.set_next, List.length_cons, List.length_nil, Nat.reduceAdd, List.set_cons_zero, List.set_cons_succ, getD_zero, getD_succ, fieldAt_zero, fieldAt_succ, thenD, blockD, retR, Sv.cells]; exact rfl) | exact rfl)); (· (repeat (first | with_reducible exact Upd.here | with_reducible apply Upd.there))); (· exact rfl); (· exact rfl); (· exact rfl); (· exact rfl); intro H1 hB)
                          | (apply bx_alloc; (· exact rfl); (· exact zero34); (· (first | (dsimp only [putD, DV.cells, DH.new_next, DH.set_next, List.length_cons, List.length_nil, Nat.reduceAdd, List.set_cons_zero, List.set_cons_succ, getD_zero, getD_succ, fieldAt_zero, fieldAt_succ, thenD, blockD, retR, Sv.cells]; done) | (dsimp only [putD, DV.cells, DH.new_next, DH.set_next, List.length_cons, List.length_nil, Nat.reduceAdd, List.set_cons_zero, List.set_cons_succ, getD_zero, getD_succ, fieldAt_zero, fieldAt_succ, thenD, blockD, retR, Sv.cells]; exact rfl) | exact rfl)); (· exact rfl); (· exact rfl); (· exact rfl); (· assumption); intro b14 H1 hB)
                          | (apply op_at; (· exact rfl))
                          | (apply dwp_cond_t; (· exact rfl); (· (first | with_reducible assumption | with_reducible rfl | decide)))
                          | (apply dwp_cond_f; (· exact rfl); (· (first | with_reducible assumption | with_reducible rfl | decide)))
                          | apply dwp_block
                          | apply dwp_skip
                          | fail)
                        refine ⟨⟨_, j + 1, false, d, a, junk_facts ⟨hB.drop1, by omega, ?_⟩ rfl rfl⟩, ?_⟩
                        · rw [hsc']; simp [scanStep, hnk]
                        · show log.length - ((j + 1 : Nat) : Int).toNat < log.length - (j : Int).toNat
                          omega
                      | true =>
                        cases k3 : (y.w == x.w) with
                        | false =>
                          have hnk : decide (y = keyOf x) = false := by
                            rw [decide_eq_false_iff_not]
                            intro e
                            rw [e] at k3
                            simp [keyOf] at k3
                          repeat' (first
                            | dsimp only [putD, DV.cells, DH.new_next, DH.set_next, List.length_cons, List.length_nil, Nat.reduceAdd, List.set_cons_zero, List.set_cons_succ, getD_zero, getD_succ, fieldAt_zero, fieldAt_succ, thenD, blockD, retR]
                            | apply dwp_seq
                            | apply dwp_region
                            | apply ops_nil
                            | (apply ops_plain; (· exact rfl))
                            | (apply ops_on; (· exact rfl); (· exact rfl); (· (first | with_reducible assumption | with_reducible rfl | decide)))
                            | (apply ops_off1; (· exact rfl); (· exact rfl); (· (first | with_reducible assumption | with_reducible rfl | decide)))
                            | (apply op_pick_t; (· exact rfl); (· exact rfl); (· (first | with_reducible assumption | with_reducible rfl | decide)); (· exact rfl))
                            | (apply op_pick_f; (· exact rfl); (· exact rfl); (· (first | with_reducible assumption | with_reducible rfl | decide)); (· exact rfl))
                            | (apply op_index_at; (· exact rfl); (· exact rfl); (· exact rfl); (· with_reducible exact hinj); (· exact rfl); (· exact rfl))
                            | (apply op_load_at; (· exact rfl); (· exact rfl); (· exact hB.ab.obj hloc2 ho2); (· exact hr2); (· exact partEvR y))
                            | (apply op_told; (· exact rfl); (· exact congrArg (DV.int _) hw2))
                            | (apply bx_load0; (· exact rfl); (· exact rfl); (· assumption); (· (repeat (first | with_reducible exact At.here | with_reducible apply At.there))); (· (first | exact partInjR _ | exact partEvR _ | exact rfl)))
                            | (apply bx_store0; (· exact rfl); (· exact rfl); (· exact rfl); (· assumption); (· (first | (dsimp only [putD, DV.cells, DH.new_next, DH.set_next, List.length_cons, List.length_nil, Nat.reduceAdd, List.set_cons_zero, List.set_cons_succ, getD_zero, getD_succ, fieldAt_zero, fieldAt_succ, thenD, blockD, retR, Sv.cells]; done) | (dsimp only [putD, DV.cells, DH.new_next, DH.set_next, List.length_cons, List.length_nil, Nat.reduceAdd, List.set_cons_zero, List.set_cons_succ, getD_zero, getD_succ, fieldAt_zero, fieldAt_succ, thenD, blockD, retR, Sv.cells]; exact rfl) | exact rfl)); (· (repeat (first | with_reducible exact Upd.here | with_reducible apply Upd.there))); (· exact rfl); (· exact rfl); (· exact rfl); (· exact rfl); intro H1 hB)
                            | (apply bx_alloc; (· exact rfl); (· exact zero34); (· (first | (dsimp only [putD, DV.cells, DH.new_next, DH.set_next, List.length_cons, List.length_nil, Nat.reduceAdd, List.set_cons_zero, List.set_cons_succ, getD_zero, getD_succ, fieldAt_zero, fieldAt_succ, thenD, blockD, retR, Sv.cells]; done) | (dsimp only [putD, DV.cells, DH.new_next, DH.set_next, List.length_cons, List.length_nil, Nat.reduceAdd, List.set_cons_zero, List.set_cons_succ, getD_zero, getD_succ, fieldAt_zero, fieldAt_succ, thenD, blockD, retR, Sv.cells]; exact rfl) | exact rfl)); (· exact rfl); (· exact rfl); (· exact rfl); (· assumption); intro b14 H1 hB)
                            | (apply op_at; (· exact rfl))
                            | (apply dwp_cond_t; (· exact rfl); (· (first | with_reducible assumption | with_reducible rfl | decide)))
                            | (apply dwp_cond_f; (· exact rfl); (· (first | with_reducible assumption | with_reducible rfl | decide)))
                            | apply dwp_block
                            | apply dwp_skip
                            | fail)
                          refine ⟨⟨_, j + 1, false, d, a, junk_facts ⟨hB.drop1, by omega, ?_⟩ rfl rfl⟩, ?_⟩
                          · rw [hsc']; simp [scanStep, hnk]
                          · show log.length - ((j + 1 : Nat) : Int).toNat < log.length - (j : Int).toNat
                            omega
                        | true =>
                          cases k4 : (y.a == x.k) with
                          | false =>
                            have hnk : decide (y = keyOf x) = false := by
                              rw [decide_eq_false_iff_not]
                              intro e
                              rw [e] at k4
                              simp [keyOf] at k4
                            repeat' (first
                              | dsimp only [putD, DV.cells, DH.new_next, DH.set_next, List.length_cons, List.length_nil, Nat.reduceAdd, List.set_cons_zero, List.set_cons_succ, getD_zero, getD_succ, fieldAt_zero, fieldAt_succ, thenD, blockD, retR]
                              | apply dwp_seq
                              | apply dwp_region
                              | apply ops_nil
                              | (apply ops_plain; (· exact rfl))
                              | (apply ops_on; (· exact rfl); (· exact rfl); (· (first | with_reducible assumption | with_reducible rfl | decide)))
                              | (apply ops_off1; (· exact rfl); (· exact rfl); (· (first | with_reducible assumption | with_reducible rfl | decide)))
                              | (apply op_pick_t; (· exact rfl); (· exact rfl); (· (first | with_reducible assumption | with_reducible rfl | decide)); (· exact rfl))
                              | (apply op_pick_f; (· exact rfl); (· exact rfl); (· (first | with_reducible assumption | with_reducible rfl | decide)); (· exact rfl))
                              | (apply op_index_at; (· exact rfl); (· exact rfl); (· exact rfl); (· with_reducible exact hinj); (· exact rfl); (· exact rfl))
                              | (apply op_load_at; (· exact rfl); (· exact rfl); (· exact hB.ab.obj hloc2 ho2); (· exact hr2); (· exact partEvR y))
                              | (apply op_told; (· exact rfl); (· exact congrArg (DV.int _) hw2))
                              | (apply bx_load0; (· exact rfl); (· exact rfl); (· assumption); (· (repeat (first | with_reducible exact At.here | with_reducible apply At.there))); (· (first | exact partInjR _ | exact partEvR _ | exact rfl)))
                              | (apply bx_store0; (· exact rfl); (· exact rfl); (· exact rfl); (· assumption); (· (first | (dsimp only [putD, DV.cells, DH.new_next, DH.set_next, List.length_cons, List.length_nil, Nat.reduceAdd, List.set_cons_zero, List.set_cons_succ, getD_zero, getD_succ, fieldAt_zero, fieldAt_succ, thenD, blockD, retR, Sv.cells]; done) | (dsimp only [putD, DV.cells, DH.new_next, DH.set_next, List.length_cons, List.length_nil, Nat.reduceAdd, List.set_cons_zero, List.set_cons_succ, getD_zero, getD_succ, fieldAt_zero, fieldAt_succ, thenD, blockD, retR, Sv.cells]; exact rfl) | exact rfl)); (· (repeat (first | with_reducible exact Upd.here | with_reducible apply Upd.there))); (· exact rfl); (· exact rfl); (· exact rfl); (· exact rfl); intro H1 hB)
                              | (apply bx_alloc; (· exact rfl); (· exact zero34); (· (first | (dsimp only [putD, DV.cells, DH.new_next, DH.set_next, List.length_cons, List.length_nil, Nat.reduceAdd, List.set_cons_zero, List.set_cons_succ, getD_zero, getD_succ, fieldAt_zero, fieldAt_succ, thenD, blockD, retR, Sv.cells]; done) | (dsimp only [putD, DV.cells, DH.new_next, DH.set_next, List.length_cons, List.length_nil, Nat.reduceAdd, List.set_cons_zero, List.set_cons_succ, getD_zero, getD_succ, fieldAt_zero, fieldAt_succ, thenD, blockD, retR, Sv.cells]; exact rfl) | exact rfl)); (· exact rfl); (· exact rfl); (· exact rfl); (· assumption); intro b14 H1 hB)
                              | (apply op_at; (· exact rfl))
                              | (apply dwp_cond_t; (· exact rfl); (· (first | with_reducible assumption | with_reducible rfl | decide)))
                              | (apply dwp_cond_f; (· exact rfl); (· (first | with_reducible assumption | with_reducible rfl | decide)))
                              | apply dwp_block
                              | apply dwp_skip
                              | fail)
                            refine ⟨⟨_, j + 1, false, d, a, junk_facts ⟨hB.drop1, by omega, ?_⟩ rfl rfl⟩, ?_⟩
                            · rw [hsc']; simp [scanStep, hnk]
                            · show log.length - ((j + 1 : Nat) : Int).toNat < log.length - (j : Int).toNat
                              omega
                          | true =>
                            cases k5 : (y.b == x.u) with
                            | false =>
                              have hnk : decide (y = keyOf x) = false := by
                                rw [decide_eq_false_iff_not]
                                intro e
                                rw [e] at k5
                                simp [keyOf] at k5
                              repeat' (first
                                | dsimp only [putD, DV.cells, DH.new_next, DH.set_next, List.length_cons, List.length_nil, Nat.reduceAdd, List.set_cons_zero, List.set_cons_succ, getD_zero, getD_succ, fieldAt_zero, fieldAt_succ, thenD, blockD, retR]
                                | apply dwp_seq
                                | apply dwp_region
                                | apply ops_nil
                                | (apply ops_plain; (· exact rfl))
                                | (apply ops_on; (· exact rfl); (· exact rfl); (· (first | with_reducible assumption | with_reducible rfl | decide)))
                                | (apply ops_off1; (· exact rfl); (· exact rfl); (· (first | with_reducible assumption | with_reducible rfl | decide)))
                                | (apply op_pick_t; (· exact rfl); (· exact rfl); (· (first | with_reducible assumption | with_reducible rfl | decide)); (· exact rfl))
                                | (apply op_pick_f; (· exact rfl); (· exact rfl); (· (first | with_reducible assumption | with_reducible rfl | decide)); (· exact rfl))
                                | (apply op_index_at; (· exact rfl); (· exact rfl); (· exact rfl); (· with_reducible exact hinj); (· exact rfl); (· exact rfl))
                                | (apply op_load_at; (· exact rfl); (· exact rfl); (· exact hB.ab.obj hloc2 ho2); (· exact hr2); (· exact partEvR y))
                                | (apply op_told; (· exact rfl); (· exact congrArg (DV.int _) hw2))
                                | (apply bx_load0; (· exact rfl); (· exact rfl); (· assumption); (· (repeat (first | with_reducible exact At.here | with_reducible apply At.there))); (· (first | exact partInjR _ | exact partEvR _ | exact rfl)))
                                | (apply bx_store0; (· exact rfl); (· exact rfl); (· exact rfl); (· assumption); (· (first | (dsimp only [putD, DV.cells, DH.new_next, DH.set_next, List.length_cons, List.length_nil, Nat.reduceAdd, List.set_cons_zero, List.set_cons_succ, getD_zero, getD_succ, fieldAt_zero, fieldAt_succ, thenD, blockD, retR, Sv.cells]; done) | (dsimp only [putD, DV.cells, DH.new_next, DH.set_next, List.length_cons, List.length_nil, Nat.reduceAdd, List.set_cons_zero, List.set_cons_succ, getD_zero, getD_succ, fieldAt_zero, fieldAt_succ, thenD, blockD, retR, Sv.cells]; exact rfl) | exact rfl)); (· (repeat (first | with_reducible exact Upd.here | with_reducible apply Upd.there))); (· exact rfl); (· exact rfl); (· exact rfl); (· exact rfl); intro H1 hB)
                                | (apply bx_alloc; (· exact rfl); (· exact zero34); (· (first | (dsimp only [putD, DV.cells, DH.new_next, DH.set_next, List.length_cons, List.length_nil, Nat.reduceAdd, List.set_cons_zero, List.set_cons_succ, getD_zero, getD_succ, fieldAt_zero, fieldAt_succ, thenD, blockD, retR, Sv.cells]; done) | (dsimp only [putD, DV.cells, DH.new_next, DH.set_next, List.length_cons, List.length_nil, Nat.reduceAdd, List.set_cons_zero, List.set_cons_succ, getD_zero, getD_succ, fieldAt_zero, fieldAt_succ, thenD, blockD, retR, Sv.cells]; exact rfl) | exact rfl)); (· exact rfl); (· exact rfl); (· exact rfl); (· assumption); intro b14 H1 hB)
                                | (apply op_at; (· exact rfl))
                                | (apply dwp_cond_t; (· exact rfl); (· (first | with_reducible assumption | with_reducible rfl | decide)))
                                | (apply dwp_cond_f; (· exact rfl); (· (first | with_reducible assumption | with_reducible rfl | decide)))
                                | apply dwp_block
                                | apply dwp_skip
                                | fail)
                              refine ⟨⟨_, j + 1, (y.b == x.u), d, a, junk_facts ⟨hB.drop1, by omega, ?_⟩ rfl rfl⟩, ?_⟩
                              · rw [hsc']; simp [scanStep, hnk, k5]
                              · show log.length - ((j + 1 : Nat) : Int).toNat < log.length - (j : Int).toNat
                                omega
                            | true =>
                              have hyk : decide (y = keyOf x) = true := by
                                simp only [beq_iff_eq] at k1 k2 k3 k4 k5
                                rw [decide_eq_true_eq]; exact is_key k1 k2 k3 k4 k5
                              repeat' (first
                                | dsimp only [putD, DV.cells, DH.new_next, DH.set_next, List.length_cons, List.length_nil, Nat.reduceAdd, List.set_cons_zero, List.set_cons_succ, getD_zero, getD_succ, fieldAt_zero, fieldAt_succ, thenD, blockD, retR]
                                | apply dwp_seq
                                | apply dwp_region
                                | apply ops_nil
                                | (apply ops_plain; (· exact rfl))
                                | (apply ops_on; (· exact rfl); (· exact rfl); (· (first | with_reducible assumption | with_reducible rfl | decide)))
                                | (apply ops_off1; (· exact rfl); (· exact rfl); (· (first | with_reducible assumption | with_reducible rfl | decide)))
                                | (apply op_pick_t; (· exact rfl); (· exact rfl); (· (first | with_reducible assumption | with_reducible rfl | decide)); (· exact rfl))
                                | (apply op_pick_f; (· exact rfl); (· exact rfl); (· (first | with_reducible assumption | with_reducible rfl | decide)); (· exact rfl))
                                | (apply op_index_at; (· exact rfl); (· exact rfl); (· exact rfl); (· with_reducible exact hinj); (· exact rfl); (· exact rfl))
                                | (apply op_load_at; (· exact rfl); (· exact rfl); (· exact hB.ab.obj hloc2 ho2); (· exact hr2); (· exact partEvR y))
                                | (apply op_told; (· exact rfl); (· exact congrArg (DV.int _) hw2))
                                | (apply bx_load0; (· exact rfl); (· exact rfl); (· assumption); (· (repeat (first | with_reducible exact At.here | with_reducible apply At.there))); (· (first | exact partInjR _ | exact partEvR _ | exact rfl)))
                                | (apply bx_store0; (· exact rfl); (· exact rfl); (· exact rfl); (· assumption); (· (first | (dsimp only [putD, DV.cells, DH.new_next, DH.set_next, List.length_cons, List.length_nil, Nat.reduceAdd, List.set_cons_zero, List.set_cons_succ, getD_zero, getD_succ, fieldAt_zero, fieldAt_succ, thenD, blockD, retR, Sv.cells]; done) | (dsimp only [putD, DV.cells, DH.new_next, DH.set_next, List.length_cons, List.length_nil, Nat.reduceAdd, List.set_cons_zero, List.set_cons_succ, getD_zero, getD_succ, fieldAt_zero, fieldAt_succ, thenD, blockD, retR, Sv.cells]; exact rfl) | exact rfl)); (· (repeat (first | with_reducible exact Upd.here | with_reducible apply Upd.there))); (· exact rfl); (· exact rfl); (· exact rfl); (· exact rfl); intro H1 hB)
                                | (apply bx_alloc; (· exact rfl); (· exact zero34); (· (first | (dsimp only [putD, DV.cells, DH.new_next, DH.set_next, List.length_cons, List.length_nil, Nat.reduceAdd, List.set_cons_zero, List.set_cons_succ, getD_zero, getD_succ, fieldAt_zero, fieldAt_succ, thenD, blockD, retR, Sv.cells]; done) | (dsimp only [putD, DV.cells, DH.new_next, DH.set_next, List.length_cons, List.length_nil, Nat.reduceAdd, List.set_cons_zero, List.set_cons_succ, getD_zero, getD_succ, fieldAt_zero, fieldAt_succ, thenD, blockD, retR, Sv.cells]; exact rfl) | exact rfl)); (· exact rfl); (· exact rfl); (· exact rfl); (· assumption); intro b14 H1 hB)
                                | (apply op_at; (· exact rfl))
                                | (apply dwp_cond_t; (· exact rfl); (· (first | with_reducible assumption | with_reducible rfl | decide)))
                                | (apply dwp_cond_f; (· exact rfl); (· (first | with_reducible assumption | with_reducible rfl | decide)))
                                | apply dwp_block
                                | apply dwp_skip
                                | fail)
                              refine ⟨⟨_, j + 1, (y.b == x.u), d, a, junk_facts ⟨hB.drop1, by omega, ?_⟩ rfl rfl⟩, ?_⟩
                              · rw [hsc']; simp [scanStep, hyk, k5]
                              · show log.length - ((j + 1 : Nat) : Int).toNat < log.length - (j : Int).toNat
                                omega
                · have hje : j = log.length := by omega
                  subst hje
                  have hc2 : decide ((log.length : Int) < (log.length : Int)) = false := by simp
                  rw [List.take_length] at hsc
                  have hfi := first (log := log) hx hfo
                  rw [← hsc] at hfi
                  have hrF : ((reportC tab log).fires.map Fire.row)[0 + ((i : Int)).toNat]? = some (Fire.row ⟨x, f, d, a⟩) := by rw [Nat.zero_add, Int.toNat_natCast, List.getElem?_map, hfi]; rfl
                  repeat' (first
                    | dsimp only [putD, DV.cells, DH.new_next, DH.set_next, List.length_cons, List.length_nil, Nat.reduceAdd, List.set_cons_zero, List.set_cons_succ, getD_zero, getD_succ, fieldAt_zero, fieldAt_succ, thenD, blockD, retR]
                    | refine dwp_drawr _ rfl (fun H' => Above Hb H' ∧ H'.obj b9 = some (.rows false 4 [x.row])) ⟨hB.ab, (show Bx Hb _ [(b9, .rows false 4 [x.row])] [] from hB).get At.here⟩ ?_
                    | apply drawr_nil
                    | (apply drawr_read; (· (first | exact wanted_plain rfl | (apply wanted_on; (· exact rfl); (· exact rfl); (· (first | with_reducible assumption | with_reducible rfl | decide))))); (· exact rfl); (· exact rfl); (· intro H' h; exact opD_load rfl rfl h.2 rfl (partInjR x)))
                    | (apply drawr_read; (· (first | exact wanted_plain rfl | (apply wanted_on; (· exact rfl); (· exact rfl); (· (first | with_reducible assumption | with_reducible rfl | decide))))); (· exact rfl); (· exact rfl); (· intro H' h; exact opD_load rfl rfl (h.1.obj hal2 hao) hrF (partFireR ⟨x, f, d, a⟩)))
                    | (apply drawr_pure; (· (first | exact wanted_plain rfl | (apply wanted_on; (· exact rfl); (· exact rfl); (· (first | with_reducible assumption | with_reducible rfl | decide))))); (· exact rfl); (· exact rfl); (· exact opD_index rfl rfl rfl rfl rfl hin1))
                    | (apply drawr_pure; (· (first | exact wanted_plain rfl | (apply wanted_on; (· exact rfl); (· exact rfl); (· (first | with_reducible assumption | with_reducible rfl | decide))))); (· exact rfl); (· exact rfl); (· exact opD_neFire (x := ⟨x, f, d, a⟩) rfl rfl rfl))
                    | (apply drawr_pure; (· (first | exact wanted_plain rfl | (apply wanted_on; (· exact rfl); (· exact rfl); (· (first | with_reducible assumption | with_reducible rfl | decide))))); (· exact rfl); (· exact rfl); (· exact rfl))
                    | apply dwp_seq
                    | apply dwp_region
                    | apply ops_nil
                    | (apply ops_plain; (· exact rfl))
                    | (apply op_told; (· exact rfl); (· exact congrArg (DV.int _) hw))
                    | (apply op_at; (· exact rfl))
                    | (apply dwp_cond_f; (· exact rfl); (· (first | with_reducible assumption | with_reducible rfl | decide)))
                    | apply dwp_skip
                    | apply dwp_exit
                    | fail)
                  exact ⟨⟨_, i + 1, junk_facts ⟨hB.drop1, by omega⟩ rfl rfl⟩, by show tab.length - ((i + 1 : Nat) : Int).toNat < tab.length - (i : Int).toNat; omega⟩
          · have hie : i = tab.length := by omega
            subst hie
            have hc : decide ((tab.length : Int) < (tab.length : Int)) = false := by simp
            repeat' (first
              | dsimp only [putD, DV.cells, DH.new_next, DH.set_next, List.length_cons, List.length_nil, Nat.reduceAdd, List.set_cons_zero, List.set_cons_succ, getD_zero, getD_succ, fieldAt_zero, fieldAt_succ, thenD, blockD, retR]
              | apply dwp_seq
              | apply dwp_region
              | apply ops_nil
              | (apply ops_plain; (· exact rfl))
              | (apply op_at; (· exact rfl))
              | (apply dwp_cond_f; (· exact rfl); (· (first | with_reducible assumption | with_reducible rfl | decide)))
              | apply dwp_ret
              | apply dwp_exit
              | (refine ⟨_, rfl, ?_⟩)
              | fail)
end Go.Det.C

/- A row out of what the deterministic reading comes to: slices' weights handed on. -/
namespace Go.Det
set_option linter.unusedVariables false
set_option linter.unusedSimpArgs false
open Go.ChangeShapes Go.WideShapes Go.RowKit
section
variable {P : Program} {A : Type} {enc : TypeId × Value → A} {W : World}
end
end Go.Det
