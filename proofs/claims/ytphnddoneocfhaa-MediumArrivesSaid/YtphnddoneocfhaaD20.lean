/- A row out of what the deterministic reading comes to. -/
import Derived.Test.YtphnddoneocfhaaD19
namespace Go.Det
set_option linter.unusedVariables false
set_option linter.unusedSimpArgs false
open Go.ChangeShapes Go.WideShapes Go.RowKit

section
variable {P : Program} {A : Type} {enc : TypeId × Value → A} {W : World}

/-- An argument. -/
def TArg (P : Program) (H : DH) (t : TypeId) (d : DV) : Prop :=
  match P.underlying t with
  | some (.struct _) | some (.array _ _) => ∃ ds, d = .agg ds ∧ Typed P H t ds
  | _ => Typed P H t [d]

def TArgs (P : Program) (H : DH) : List TypeId → List DV → Prop
  | [], [] => True
  | t :: ts, d :: ds => TArg P H t d ∧ TArgs P H ts ds
  | _, _ => False

theorem TArg.mono {H H' : DH} (h : ∀ l o, H.obj l = some o → H'.obj l = some o) {t : TypeId} {d : DV} (k : TArg P H t d) : TArg P H' t d := by
  unfold TArg at *
  cases hu : P.underlying t with
  | none => rw [hu] at k; exact Typed.mono h k
  | some d =>
    rw [hu] at k
    cases d <;> first
      | exact Typed.mono h k
      | (obtain ⟨ds, h1, h2⟩ := k; exact ⟨ds, h1, h2.mono h⟩)

theorem TArgs.mono {H H' : DH} (h : ∀ l o, H.obj l = some o → H'.obj l = some o) : ∀ {ts : List TypeId} {ds : List DV}, TArgs P H ts ds → TArgs P H' ts ds
  | [], [], _ => trivial
  | _ :: _, _ :: _, k => ⟨k.1.mono h, k.2.mono h⟩
  | [], _ :: _, k => k.elim
  | _ :: _, [], k => k.elim

theorem has_room {r : Reach} {b : Nat} {t : TypeId} {a : Addr} {n c : Nat} (h : Cell.okWide P W r b t (.slice (some a) n c)) : 0 < W.heap.size := by
  have h' : Cell.ok P W r b t (.slice (some a) n c) := by
    unfold Cell.okWide at h
    cases hu : P.underlying t with
    | none => rw [hu] at h; exact h
    | some d => rw [hu] at h; cases d <;> exact h
  unfold Cell.ok at h'
  cases hu : P.underlying t with
  | none => rw [hu] at h'; exact h'.elim
  | some d =>
    rw [hu] at h'
    cases d <;> try exact h'.elim
    obtain ⟨_, _, _, _, row, cells, hs, _⟩ := h'
    unfold World.shape? at hs
    split at hs
    · rename_i hb
      have := (Array.getElem?_eq_some_iff.mp hb).1
      omega
    · cases hs

theorem arg_in {b : Nat} {t : TypeId} {v : Value} {d : DataW A} {ps : List MemPlace} (hv : Value.okWide P W .any b t v) (h : DataW.Trod enc P W 0 (fun _ => true) true t v d ps) {n : Nat} (hok : okTy P n t = true) {ρ : Rho} {H : DH} (ha : Agree ρ H W) (hr : RO H) :
    ∃ ρ' H' x, Grows W ρ H ρ' H' ∧ VR ρ' x v ∧ TArg P H' t x := by
  obtain ⟨fuel, hf⟩ := h
  unfold Value.okWide at hv
  split at hv
  · rename_i fs hu
    obtain ⟨cs, rfl, hsz, ts, hts, _, hc⟩ := hv
    obtain ⟨ρ', H', ds, g, v1, o1, t1⟩ := trod_in fuel n t _ _ hf hok (by
      intro a m c hm
      obtain ⟨i, hi, he⟩ := List.getElem_of_mem hm
      have hi' : i < cs.size := by simpa [Value.cells] using hi
      obtain ⟨u, _, hu'⟩ := hc i (.slice (some a) m c) (by rw [Array.getElem?_eq_getElem hi']; congr 1)
      exact has_room hu') ρ H ha hr
    refine ⟨ρ', H', .agg ds, g, ?_, ?_⟩
    · simp only [VR]; exact ⟨o1, cs, rfl, v1⟩
    · unfold TArg; rw [hu]; exact ⟨ds, rfl, t1⟩
  · rename_i fs m hu
    obtain ⟨cs, rfl, hsz, ts, hts, _, hc⟩ := hv
    obtain ⟨ρ', H', ds, g, v1, o1, t1⟩ := trod_in fuel n t _ _ hf hok (by
      intro a m c hm
      obtain ⟨i, hi, he⟩ := List.getElem_of_mem hm
      have hi' : i < cs.size := by simpa [Value.cells] using hi
      obtain ⟨u, _, hu'⟩ := hc i (.slice (some a) m c) (by rw [Array.getElem?_eq_getElem hi']; congr 1)
      exact has_room hu') ρ H ha hr
    refine ⟨ρ', H', .agg ds, g, ?_, ?_⟩
    · simp only [VR]; exact ⟨o1, cs, rfl, v1⟩
    · unfold TArg; rw [hu]; exact ⟨ds, rfl, t1⟩
  · rename_i h1 h2
    have hcell : v.cells.toList = [v] := by
      cases v <;> try rfl
      exfalso
      unfold Cell.okWide Cell.ok at hv
      cases hu : P.underlying t with
      | none => rw [hu] at hv; exact hv
      | some d => rw [hu] at hv; cases d <;> exact hv
    rw [hcell] at hf
    obtain ⟨ρ', H', ds, g, v1, o1, t1⟩ := trod_in fuel n t _ _ hf hok (by
      intro a m c hm
      simp at hm
      rw [← hm] at hv
      exact has_room hv) ρ H ha hr
    have hl := VRs.length v1
    simp at hl
    obtain ⟨x, rfl⟩ := List.length_eq_one_iff.mp hl.symm
    refine ⟨ρ', H', x, g, by simpa [VRs] using v1, ?_⟩
    unfold TArg
    split
    · rename_i fs hu; exact absurd hu (h1 fs)
    · rename_i n m hu; exact absurd hu (h2 n m)
    · exact t1

theorem args_in {b n : Nat} : ∀ (ts : List TypeId) (vs : List Value) (ds : List (DataW A)) (ps : List MemPlace), (∀ (j : Nat) t v, ts[j]? = some t → vs[j]? = some v → Value.okWide P W .any b t v) → DataW.TrodAll enc P W 0 (fun _ => true) true ts vs ds ps → (ts.all fun t => okTy P n t) = true →
    ∀ {ρ : Rho} {H : DH}, Agree ρ H W → RO H → ∃ ρ' H' xs, Grows W ρ H ρ' H' ∧ VRs ρ' xs vs ∧ TArgs P H' ts xs
  | [], vs, ds, ps, hv, h, hok, ρ, H, ha, hr => by
    obtain ⟨rfl, rfl, rfl⟩ := trodAll_nil h
    exact ⟨ρ, H, [], .refl ha hr, .nil, trivial⟩
  | t :: ts, vs, ds, ps, hv, h, hok, ρ, H, ha, hr => by
    obtain ⟨v, vs', d, ds', p, q, rfl, rfl, rfl, h1, h2⟩ := trodAll_cons h
    simp only [List.all_cons, Bool.and_eq_true] at hok
    obtain ⟨ρ1, H1, x, g1, v1, t1⟩ := arg_in (hv 0 t v rfl rfl) h1 hok.1 ha hr
    obtain ⟨ρ2, H2, xs, g2, v2, t2⟩ := args_in ts vs' ds' q (fun j t' v' h3 h4 => hv (j + 1) t' v' (by simpa using h3) (by simpa using h4)) h2 hok.2 g1.agree g1.ro
    exact ⟨ρ2, H2, x :: xs, g1.trans g2, .cons (VR.mono g2.le _ _ v1) v2, t1.mono g2.obj, t2⟩

theorem empty_agree : Agree (fun _ => none) ⟨0, fun _ => none⟩ W where
  low := fun l p h => by cases h
  lies := fun l p h => by cases h
  obj := fun l o h => by cases h
  apart := fun l l' o o' p p' _ h => by cases h

/-- Nothing of what there was ahead of the call has changed. -/
theorem Moves.below {ρ ρ' : Rho} {H H' : DH} {w w' : World} (h : Moves ρ H w ρ' H' w') (hr : RO H) : Below w.heap.size w w' :=
  ⟨h.os, h.tape, h.output, h.size, fun k hk => h.same k hk fun ⟨l, o, _, ho, hf, _⟩ => by rw [hr l o ho] at hf; cases hf⟩

theorem trodAll_below (hl : laidOutB P = true) {W' : World} (hb : Below W.heap.size W W') : ∀ (ts : List TypeId) (vs : List Value) (ds : List (DataW A)) (ps : List MemPlace), (ts.all fun t => P.readableRec t && decide (t < P.types.size)) = true →
    DataW.TrodAll enc P W 0 (fun _ => true) true ts vs ds ps → ∃ ps', DataW.TrodAll enc P W' 0 (fun b => decide (b < W.heap.size)) true ts vs ds ps'
  | [], vs, ds, ps, _, h => by
    obtain ⟨rfl, rfl, rfl⟩ := trodAll_nil h
    exact ⟨[], trodAll_mk0⟩
  | t :: ts, vs, ds, ps, hr, h => by
    obtain ⟨v, vs', d, ds', p, q, rfl, rfl, rfl, h1, h2⟩ := trodAll_cons h
    simp only [List.all_cons, Bool.and_eq_true, decide_eq_true_eq] at hr
    obtain ⟨q', hq'⟩ := trodAll_below hl hb ts vs' ds' q (by simpa using hr.2) h2
    have hlt : ∀ x ∈ p, x.block < W.heap.size := by obtain ⟨m, hm⟩ := h1; exact DataW.trod_lt m _ _ _ hm
    exact ⟨p ++ q', trodAll_cons_mk (Below.trod hl hr.1.1 hr.1.2 h1 hb hlt) hq'⟩

/-- A row whose call answers true, whatever it is handed. -/
theorem row_true {C : Checked} {os : Os} {f : FuncId} {fn : Func} {c : Code} {s : ChangeSpec} {conds : List PathCond} {X : Ext} {ts : List TypeId} {rt : TypeId} {n : Nat}
    (own : ownKnob C.prog.godebug = none) (started : os.Started) (noInit : C.prog.inits.idxOf? f = none) (hfn : C.prog.funcs[f]? = some fn)
    (witness : ∃ (w : World) (tape : Tape) (i : Input), w.os = os ∧ (w.forCall tape i).Shaped C.prog ∧ i.vars = [] ∧ Input.okWide C.prog (w.forCall tape i) .any w.heap.size f i ∧
      s.pre6 enc C.prog fn conds false (w.forCall tape i).memory i.args ∧ Assume.holds {} C.prog (lone (Frame.enter C.prog f i.args .normal) [] (w.forCall tape i)))
    (hb : fn.body = some c) (hX : ProgOk C.prog X) (hx : X f = none) (hts : fn.params = ts.toArray) (hrt : fn.resultTypes = #[rt]) (hrb : C.prog.underlying rt = some .bool)
    (hok : (ts.all fun t => okTy C.prog n t) = true) (hread : (ts.all fun t => C.prog.readableRec t && decide (t < C.prog.types.size)) = true) (hlaid : laidOutB C.prog = true)
    (hvars : s.vars = []) (hs : ∀ ds : List (DataW A), ds.length = ts.length → s.fn A ds = { results := [.lit (.bool true)], args := ds })
    (law : ∀ H xs, RO H → TArgs C.prog H ts xs → ∃ k H', callD C.prog X k f xs H = some (.bool true, H')) :
    ReturnsInHanded {} C os f .any (s.pre6 enc C.prog fn conds false) (s.post enc C.prog fn false true false false) := by
  refine returnsInHanded_of_change_sized own started noInit hfn witness ?_
  intro W base args ds gs before hval hW hcnd hsz hhold
  have hW' := hW
  obtain ⟨p, q, hA, hV, rfl, hfz, hnd⟩ := hW
  rw [hvars] at hV
  obtain ⟨rfl, rfl⟩ := trodVars_none hV
  have hts' : fn.params.toList = ts := by rw [hts]
  have hA' := hA
  rw [hts'] at hA'
  obtain ⟨ρ, H, xs, g, v1, t1⟩ := args_in (n := n) ts args.toList ds p (fun j t v h1 h2 => hval j t v (by rw [hts]; simpa using h1) (by simpa using h2)) hA' hok (empty_agree (W := W)) (fun l o h => by cases h)
  obtain ⟨k, H', hcall⟩ := law H xs g.ro t1
  have hlen : ds.length = ts.length := by
    clear hval hW' hcnd hsz hhold hA hok hread t1 law hs
    revert hA'
    generalize args.toList = vs
    clear v1
    intro hA'
    have : ∀ (ts : List TypeId) (vs : List Value) (ds : List (DataW A)) (p : List MemPlace), DataW.TrodAll enc C.prog W 0 (fun _ => true) true ts vs ds p → ds.length = ts.length := by
      intro ts
      induction ts with
      | nil => intro vs ds p h; obtain ⟨_, rfl, _⟩ := trodAll_nil h; rfl
      | cons t ts ih =>
        intro vs ds p h
        obtain ⟨v, vs', d, ds', p, q, rfl, rfl, rfl, h1, h2⟩ := trodAll_cons h
        simp [ih _ _ _ h2]
    exact this ts vs ds p hA'
  refine (calls_sound hX hfn hb hx hcall g.agree v1).mono fun e W' he => ?_
  cases e with
  | returned v =>
    obtain ⟨ρ', hv, hm⟩ := he
    simp only [VR] at hv
    subst hv
    have hbel := hm.below g.ro
    obtain ⟨pa, hpa⟩ := trodAll_below hlaid hbel ts args.toList ds p hread hA'
    refine ⟨_, rfl, ds, [], _, [], pa, [], hW', ?_, ?_, ?_, hbel.frame _, fun h => by cases h⟩
    · rw [List.append_nil, hs ds hlen, hrt]
      exact trodAll_mk1 (shut_bool hrb true)
    · rw [List.append_nil, hs ds hlen, hts']
      exact hpa
    · rw [hvars]
      simp only [DataW.TrodVars, List.append_nil, hs ds hlen]
  | panicked ch => exact he.elim
  | outgrown => exact he.elim

end
end Go.Det
