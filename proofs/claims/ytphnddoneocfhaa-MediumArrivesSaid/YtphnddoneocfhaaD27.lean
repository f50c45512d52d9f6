/- Regions that draw their order, where what is read stays readable in all heaps of a kind, and what is done stays within that kind. -/
import Derived.Test.YtphnddoneocfhaaD26
namespace Go.Det
set_option linter.unusedVariables false
set_option linter.unusedSimpArgs false

section
variable {P : Program} {X : Ext}

/-- What is left of a region whose operations below b stand before all that comes; what was read since reads the same in each heap of the kind Φ. -/
structure DrawP (P : Program) (X : Ext) (all : Array Oper) (bef : Array Nat) (b : Nat) (Φ : DH → Prop) (i : Nat) (l : List Oper) (st : DSt) (K : DSt → Prop) : Prop where
  ex : ∀ seen was, (∀ s ∈ seen, s.i < i ∧ (b ≤ s.i → ∀ H', Φ H' → readD P s.o (evalO s.env) H' = some s.v)) → (∀ w ∈ was, w.i < i ∧ (b ≤ w.i → Φ w.H)) → Φ st.H → DrawWp P X all bef l i seen was st K

theorem wanted_none {o : Oper} {y : Nat → Option Bool} {g : Nat} {w : Bool} (hg : o.guard = some (g, w)) (hy : y g = none) : Region.wanted o y = false := by unfold Region.wanted; rw [hg]; simp [hy]

theorem ops_offn {all : Array Oper} {o : Oper} {r : List Oper} {st : DSt} {K : DSt → Prop} {g : Nat} {w : Bool} (hg : o.guard = some (g, w)) (hy : dyield all st.env g = none)
    (h : OpsWp P X all r ⟨putD st.env o.dst undefD, st.H⟩ K) : OpsWp P X all (o :: r) st K :=
  ops_off (wanted_none hg hy) h

theorem dwp_drawp {id : Nat} {ops : Array Oper} {st : DSt} {Q : DExit → DSt → Prop} (bef : Array Nat) (hbef : Region.before ops = bef) (Φ : DH → Prop) (h0 : Φ st.H) (h : DrawP P X ops bef 0 Φ 0 ops.toList st (fun st' => Q .normal st')) : Dwp P X (.region id ops true) st Q :=
  dwp_draw bef hbef (h.ex [] [] (by simp) (by simp) h0)

section
variable {all : Array Oper} {bef : Array Nat} {b i : Nat} {Φ : DH → Prop} {o : Oper} {r : List Oper} {st : DSt} {K : DSt → Prop}

theorem drawc_pick_t (hw : Region.wanted o (dyield all st.env) = true) {c x y : Operand} (ho : o.op = .pick c x y) {t : Bool} (hc : evalO st.env c = some (.bool t)) (hb : t = true) {v : DV} (hv : evalO st.env x = some v)
    (h : DrawC P X all bef b (i + 1) r ⟨putD st.env o.dst v, st.H⟩ K) : DrawC P X all bef b i (o :: r) st K :=
  drawc_pick hw ho hc (by subst hb; exact hv) h

theorem drawc_pick_f (hw : Region.wanted o (dyield all st.env) = true) {c x y : Operand} (ho : o.op = .pick c x y) {t : Bool} (hc : evalO st.env c = some (.bool t)) (hb : t = false) {v : DV} (hv : evalO st.env y = some v)
    (h : DrawC P X all bef b (i + 1) r ⟨putD st.env o.dst v, st.H⟩ K) : DrawC P X all bef b i (o :: r) st K :=
  drawc_pick hw ho hc (by subst hb; exact hv) h

theorem drawp_nil (h : K st) : DrawP P X all bef b Φ i [] st K := ⟨fun _ _ _ _ _ => draw_nil h⟩

theorem drawp_off (hw : Region.wanted o (dyield all st.env) = false) (h : DrawP P X all bef b Φ (i + 1) r ⟨putD st.env o.dst undefD, st.H⟩ K) : DrawP P X all bef b Φ i (o :: r) st K :=
  ⟨fun seen was hs hw' h0 => draw_off hw (h.ex seen was (fun s m => ⟨by have := (hs s m).1; omega, (hs s m).2⟩) (fun s m => ⟨by have := (hw' s m).1; omega, (hw' s m).2⟩) h0)⟩

theorem drawp_pure (hw : Region.wanted o (dyield all st.env) = true) (hm : mover P o.op = false) (hr : reader P o.op = false) {v : DV} (hv : opD P (fun _ _ _ => none) o st.env st.H = some (v, st.H))
    (h : DrawP P X all bef b Φ (i + 1) r ⟨putD st.env o.dst v, st.H⟩ K) : DrawP P X all bef b Φ i (o :: r) st K :=
  ⟨fun seen was hs hw' h0 => draw_pure hw hm hr (op_at hv (h.ex seen was (fun s m => ⟨by have := (hs s m).1; omega, (hs s m).2⟩) (fun s m => ⟨by have := (hw' s m).1; omega, (hw' s m).2⟩) h0))⟩

theorem drawp_read (hw : Region.wanted o (dyield all st.env) = true) (hm : mover P o.op = false) (hr : reader P o.op = true) (hb : allBits b (bef.getD i 0) = true) {v : DV} (hv : ∀ H', Φ H' → opD P (fun _ _ _ => none) o st.env H' = some (v, H'))
    (h : DrawP P X all bef b Φ (i + 1) r ⟨putD st.env o.dst v, st.H⟩ K) : DrawP P X all bef b Φ i (o :: r) st K := by
  refine ⟨fun seen was hs hw' h0 => draw_read hw hm hr (op_at (hv _ h0) ⟨?_, h.ex _ was ?_ (fun s m => ⟨by have := (hw' s m).1; omega, (hw' s m).2⟩) h0⟩)⟩
  · unfold stillWas
    rw [List.all_eq_true]
    intro w m
    rw [Bool.or_eq_true]
    rcases Nat.lt_or_ge w.i b with hlt | hge
    · exact .inl (allBits_at hb hlt)
    · right
      exact still_of ((opD_stays (hv _ ((hw' w m).2 hge)) hm).2.1 hr)
  · intro s m
    rcases List.mem_cons.mp m with rfl | m
    · exact ⟨Nat.lt_succ_self _, fun _ H' hp => (opD_stays (hv _ hp) hm).2.1 hr⟩
    · exact ⟨by have := (hs s m).1; omega, (hs s m).2⟩

/-- What changes the heap, but stays within its kind. -/
theorem drawp_move (hw : Region.wanted o (dyield all st.env) = true) (hm : mover P o.op = true) (hb : allBits b (bef.getD i 0) = true)
    (h : OpWp P X o st.env st.H (fun v H => Φ H ∧ DrawP P X all bef b Φ (i + 1) r ⟨putD st.env o.dst v, H⟩ K)) : DrawP P X all bef b Φ i (o :: r) st K := by
  refine ⟨fun seen was hs hw' h0 => draw_move hw hm ?_⟩
  obtain ⟨k, v, H, h1, hH, h2⟩ := h.ex
  refine ⟨⟨k, v, H, h1, ?_, h2.ex _ _ ?_ ?_ hH⟩⟩
  · unfold stillAll
    rw [List.all_eq_true]
    intro s m
    rw [Bool.or_eq_true]
    rcases Nat.lt_or_ge s.i b with hlt | hge
    · exact .inl (allBits_at hb hlt)
    · exact .inr (still_of ((hs s m).2 hge _ hH))
  · exact fun s m => ⟨by have := (hs s m).1; omega, (hs s m).2⟩
  · intro w m
    rcases List.mem_cons.mp m with rfl | m
    · exact ⟨Nat.lt_succ_self _, fun _ => h0⟩
    · exact ⟨by have := (hw' w m).1; omega, (hw' w m).2⟩

/-- What changes the heap, behind all that stands before it: the kind may be another one from there on. -/
theorem drawp_sync (Ψ : DH → Prop) (hw : Region.wanted o (dyield all st.env) = true) (hm : mover P o.op = true) (hb : allBits i (bef.getD i 0) = true)
    (h : OpWp P X o st.env st.H (fun v H => Ψ H ∧ DrawP P X all bef (i + 1) Ψ (i + 1) r ⟨putD st.env o.dst v, H⟩ K)) : DrawP P X all bef b Φ i (o :: r) st K := by
  refine ⟨fun seen was hs hw' h0 => draw_move hw hm ?_⟩
  obtain ⟨k, v, H, h1, hH, h2⟩ := h.ex
  refine ⟨⟨k, v, H, h1, ?_, h2.ex _ _ ?_ ?_ hH⟩⟩
  · unfold stillAll
    rw [List.all_eq_true]
    intro s m
    rw [Bool.or_eq_true]
    exact .inl (allBits_at hb (hs s m).1)
  · exact fun s m => ⟨by have := (hs s m).1; omega, fun h => by have := (hs s m).1; omega⟩
  · intro w m
    rcases List.mem_cons.mp m with rfl | m
    · exact ⟨Nat.lt_succ_self _, fun h => absurd h (by simp only; omega)⟩
    · exact ⟨by have := (hw' w m).1; omega, fun h => by have := (hw' w m).1; omega⟩
end
end
end Go.Det
