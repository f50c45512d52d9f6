/- A row out of what a call comes to, where variables of the program's packages lie as its text lays them. -/
import Derived.Handed
import Derived.LaidMore
import Derived.Stop.Joined
import Derived.Test.YtlmjhpnmfmnmgaaDoorCovT14
namespace Go.Det
set_option linter.unusedVariables false
set_option linter.unusedSimpArgs false
open Go.ChangeShapes Go.WideShapes Go.RowKit
section
variable {P : Program} {A : Type} {enc : TypeId × Value → A} {W : World}
theorem calls_cd {X : Ext} (hX : ProgOk P X) {f : FuncId} {fn : Func} {c : Code} (hf : P.funcs[f]? = some fn) (hb : fn.body = some c) (hx : X f = none) {args : List DV} {H : DH} (h : CallWp P X f args H (fun r _ => r = .bool true)) (ρ : Rho) (w : World) (vs : Array Value) (ha : Agree ρ H w) (hv : VRs ρ args vs.toList) :
    Calls P f vs w fun | .returned v, w' => ∃ ρ' H', VR ρ' (.bool true) v ∧ Moves ρ H w ρ' H' w' | _, _ => False := by
  obtain ⟨k, r, H', h1, rfl⟩ := h.ex
  refine (calls_sound hX hf hb hx h1 ha hv).mono fun e w' he => ?_
  cases e with
  | returned v => obtain ⟨ρ', h2, h3⟩ := he; exact ⟨ρ', H', h2, h3⟩
  | panicked ch => exact he.elim
  | outgrown => exact he.elim
end
end Go.Det

/- A row whose law may look at two variables of the library's: they lie pinned in the heap. -/
namespace Go.Det
set_option linter.unusedVariables false
set_option linter.unusedSimpArgs false
open Go.ChangeShapes Go.WideShapes Go.RowKit
/-- Two variables of the library's, as they lie. -/
def Pins (g0 g1 : Nat) (T : Obj → Obj → Prop) (H : DH) : Prop := ∃ o0 o1, H.obj 0 = some (.pin g0 o0) ∧ H.obj 1 = some (.pin g1 o1) ∧ T o0 o1
def pinH (g0 g1 : Nat) (o0 o1 : Obj) : DH := ⟨2, fun l => if l = 0 then some (.pin g0 o0) else if l = 1 then some (.pin g1 o1) else none⟩
def pinR (g0 g1 : Nat) : Rho := fun l => if l = 0 then some ⟨g0, 0, 0, 0⟩ else if l = 1 then some ⟨g1, 0, 0, 0⟩ else none
theorem pins_ro {g0 g1 : Nat} {o0 o1 : Obj} : RO (pinH g0 g1 o0 o1) := by
  intro l o h
  unfold pinH at h
  simp only at h
  split at h
  · cases h; rfl
  · split at h
    · cases h; rfl
    · cases h
theorem pins_agree {W : World} {g0 g1 : Nat} {o0 o1 : Obj} (h0 : W.heap[g0]? = some o0) (h1 : W.heap[g1]? = some o1) : Agree (pinR g0 g1) (pinH g0 g1 o0 o1) W where
  low := by
    intro l pl h
    unfold pinR at h
    show l < 2
    split at h
    · omega
    · split at h
      · omega
      · cases h
  lies := by
    intro l pl h
    unfold pinR at h
    split at h
    · cases h; exact (Array.getElem?_eq_some_iff.mp h0).1
    · split at h
      · cases h; exact (Array.getElem?_eq_some_iff.mp h1).1
      · cases h
  obj := by
    intro l o h
    unfold pinH at h
    simp only at h
    split at h
    · rename_i e
      cases h
      subst e
      exact ⟨⟨g0, 0, 0, 0⟩, rfl, h0, rfl⟩
    · split at h
      · rename_i e
        cases h
        subst e
        exact ⟨⟨g1, 0, 0, 0⟩, rfl, h1, rfl⟩
      · cases h
  apart := by
    intro l l' o o' pl pl' _ h _ hro
    have := pins_ro l o h
    rw [hro] at this
    cases this
section
variable {P : Program} {A : Type} {enc : TypeId × Value → A} {W : World}
/-- A row whose call answers true, whatever it is handed. -/
theorem row_lawP {C : Checked} {os : Os} {f : FuncId} {fn : Func} {s : ChangeSpec} {conds : List PathCond} {ts : List TypeId} {rt : TypeId} {n : Nat} {Y : World → Array Value → Prop} {g0 g1 : Nat} {T : Obj → Obj → Prop} (hg : g0 ≠ g1) (hT : ∀ (W : World) (args : Array Value), Y W args → ∃ o0 o1, W.heap[g0]? = some o0 ∧ W.heap[g1]? = some o1 ∧ T o0 o1)
    (hY : ∀ (w w' : World) (args : Array Value), w.heap = w'.heap → Y w args → Y w' args)
    (own : ownKnob C.prog.godebug = none) (started : os.Started) (noInit : C.prog.inits.idxOf? f = none) (hfn : C.prog.funcs[f]? = some fn)
    (witness : ∃ (w : World) (tape : Tape) (i : Input), w.os = os ∧ (w.forCall tape i).Shaped C.prog ∧ i.vars = [] ∧ Input.okWide C.prog (w.forCall tape i) .any w.heap.size f i ∧
      ((s.pre enc C.prog fn conds false (w.forCall tape i).memory i.args ∧ Y (w.forCall tape i).memory i.args) ∧ sizedMet enc C.prog fn (OpenSpec.ofChange s) false (w.forCall tape i).memory i.args) ∧ Assume.holds {} C.prog (lone (Frame.enter C.prog f i.args .normal) [] (w.forCall tape i)))
    (hts : fn.params = ts.toArray) (hrt : fn.resultTypes = #[rt]) (hrb : C.prog.underlying rt = some .bool)
    (hok : (ts.all fun t => okTy C.prog n t) = true) (hread : (ts.all fun t => C.prog.readableRec t && decide (t < C.prog.types.size)) = true) (hlaid : laidOutB C.prog = true)
    (hvars : s.vars = []) (hs : ∀ ds : List (DataW A), ds.length = ts.length → s.fn A ds = { results := [.lit (.bool true)], args := ds })
    (law : ∀ H xs, RO H → WF H → Pins g0 g1 T H → TArgs C.prog H ts xs → ∀ (ρ : Rho) (w : World) (vs : Array Value), Agree ρ H w → VRs ρ xs vs.toList → Calls C.prog f vs w fun | .returned v, w' => ∃ ρ' H', VR ρ' (.bool true) v ∧ Moves ρ H w ρ' H' w' | _, _ => False) :
    ReturnsInHanded {} C os f .any (fun w args => (s.pre enc C.prog fn conds false w args ∧ Y w args) ∧ sizedMet enc C.prog fn (OpenSpec.ofChange s) false w args) (s.post enc C.prog fn false true false false) := by
  refine returnsInHanded_of_change_and hY own started noInit hfn witness ?_
  intro W base args ds gs before hval hW hcnd hsz hyy hhold
  have hW' := hW
  obtain ⟨p, q, hA, hV, rfl, hfz, hnd⟩ := hW
  rw [hvars] at hV
  obtain ⟨rfl, rfl⟩ := trodVars_none hV
  have hts' : fn.params.toList = ts := by rw [hts]
  have hA' := hA
  rw [hts'] at hA'
  obtain ⟨o0, o1, hb0, hb1, hto⟩ := hT _ _ hyy
  obtain ⟨ρ, H, xs, g, v1, t1⟩ := args_in (n := n) ts args.toList ds p (fun j t v h1 h2 => hval j t v (by rw [hts]; simpa using h1) (by simpa using h2)) hA' hok (pins_agree hb0 hb1) pins_ro
  have hlen : ds.length = ts.length := by
    clear hval hW' hcnd hsz hyy hhold hA hok hread t1 law hs
    revert hA'
    generalize args.toList = vs
    clear v1
    intro hA'
    have : ∀ (ts : List TypeId) (vs : List Value) (ds : List (DataW A)) (p : List MemPlace), DataW.TrodAll enc C.prog W 0 (fun _ => true) true ts vs ds p → ds.length = ts.length := by
      intro ts
      induction ts with
      | nil => intro vs ds p h; obtain ⟨_, rfl, _⟩ := trodAll_nil h; rfl
      | cons t ts ih =>
        intro vs ds p h
        obtain ⟨v, vs', d, ds', p, q, rfl, rfl, rfl, h1, h2⟩ := trodAll_cons h
        simp [ih _ _ _ h2]
    exact this ts vs ds p hA'
  refine (law H xs g.ro g.agree.wf ⟨o0, o1, g.obj 0 _ rfl, g.obj 1 _ rfl, hto⟩ t1 ρ W args g.agree v1).mono fun e W' he => ?_
  cases e with
  | returned v =>
    obtain ⟨ρ', H', hv, hm⟩ := he
    simp only [VR] at hv
    subst hv
    have hbel := hm.below g.ro
    obtain ⟨pa, hpa⟩ := trodAll_below hlaid hbel ts args.toList ds p hread hA'
    refine ⟨_, rfl, ds, [], _, [], pa, [], hW', ?_, ?_, ?_, hbel.frame _, fun h => by cases h⟩
    · rw [List.append_nil, hs ds hlen, hrt]
      exact trodAll_mk1 (shut_bool hrb true)
    · rw [List.append_nil, hs ds hlen, hts']
      exact hpa
    · rw [hvars]
      simp only [DataW.TrodVars, List.append_nil, hs ds hlen]
  | panicked ch => exact he.elim
  | outgrown => exact he.elim
end
end Go.Det
