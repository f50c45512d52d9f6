/- Regions that draw their order, where what is called leaves the heap as it is, or comes behind all that stands before it. -/
import Derived.Test.YtphnddoneocfhaaD22
namespace Go.Det
set_option linter.unusedVariables false
set_option linter.unusedSimpArgs false

mutual
theorem DV.beq_refl : ∀ (a : DV), DV.beq a a = true
  | .bool a => by simp [DV.beq]
  | .int _ _ => by simp [DV.beq]
  | .str _ => by simp [DV.beq]
  | .ptr _ => by simp [DV.beq]
  | .sl _ _ _ _ => by simp [DV.beq]
  | .map _ => by simp [DV.beq]
  | .nilFunc => by simp [DV.beq]
  | .nilIface => by simp [DV.beq]
  | .iface t v => by simp [DV.beq, DV.beq_refl v]
  | .agg a => by simp [DV.beq, DV.beqs_refl a]
  | .tuple a => by simp [DV.beq, DV.beqs_refl a]
  | .func f a c => by simp [DV.beq, DV.beqs_refl a, DV.beqs_refl c]
theorem DV.beqs_refl : ∀ (a : List DV), DV.beqs a a = true
  | [] => by simp [DV.beqs]
  | x :: a => by simp [DV.beqs, DV.beq_refl x, DV.beqs_refl a]
end

section
variable {P : Program} {X : Ext}

theorem still_of {s : Seen} {H : DH} (h : readD P s.o (evalO s.env) H = some s.v) : s.still P H = true := by
  unfold Seen.still
  rw [h]
  exact DV.beq_refl _

def allBits (b bi : Nat) : Bool := (List.range b).all fun j => bi.testBit j

theorem allBits_at {b bi j : Nat} (h : allBits b bi = true) (hj : j < b) : bi.testBit j = true := List.all_eq_true.mp h j (List.mem_range.mpr hj)

/-- What is left of a region whose operations below b stand before all that comes; what was read since reads the same. -/
structure DrawC (P : Program) (X : Ext) (all : Array Oper) (bef : Array Nat) (b i : Nat) (l : List Oper) (st : DSt) (K : DSt → Prop) : Prop where
  ex : ∀ seen was, (∀ s ∈ seen, s.i < i ∧ (b ≤ s.i → readD P s.o (evalO s.env) st.H = some s.v)) → (∀ w ∈ was, w.i < i ∧ (b ≤ w.i → w.H = st.H)) → DrawWp P X all bef l i seen was st K

theorem dwp_drawc {id : Nat} {ops : Array Oper} {st : DSt} {Q : DExit → DSt → Prop} (bef : Array Nat) (hbef : Region.before ops = bef) (h : DrawC P X ops bef 0 0 ops.toList st (fun st' => Q .normal st')) : Dwp P X (.region id ops true) st Q :=
  dwp_draw bef hbef (h.ex [] [] (by simp) (by simp))

section
variable {all : Array Oper} {bef : Array Nat} {b i : Nat} {o : Oper} {r : List Oper} {st : DSt} {K : DSt → Prop}

theorem drawc_nil (h : K st) : DrawC P X all bef b i [] st K := ⟨fun _ _ _ _ => draw_nil h⟩

theorem drawc_off (hw : Region.wanted o (dyield all st.env) = false) (h : DrawC P X all bef b (i + 1) r ⟨putD st.env o.dst undefD, st.H⟩ K) : DrawC P X all bef b i (o :: r) st K :=
  ⟨fun seen was hs hw' => draw_off hw (h.ex seen was (fun s m => ⟨by have := (hs s m).1; omega, (hs s m).2⟩) (fun s m => ⟨by have := (hw' s m).1; omega, (hw' s m).2⟩))⟩

theorem drawc_pure (hw : Region.wanted o (dyield all st.env) = true) (hm : mover P o.op = false) (hr : reader P o.op = false) {v : DV} (hv : opD P (fun _ _ _ => none) o st.env st.H = some (v, st.H))
    (h : DrawC P X all bef b (i + 1) r ⟨putD st.env o.dst v, st.H⟩ K) : DrawC P X all bef b i (o :: r) st K :=
  ⟨fun seen was hs hw' => draw_pure hw hm hr (op_at hv (h.ex seen was (fun s m => ⟨by have := (hs s m).1; omega, (hs s m).2⟩) (fun s m => ⟨by have := (hw' s m).1; omega, (hw' s m).2⟩)))⟩

theorem drawc_pick (hw : Region.wanted o (dyield all st.env) = true) {c x y : Operand} (ho : o.op = .pick c x y) {t : Bool} (hc : evalO st.env c = some (.bool t)) {v : DV} (hv : evalO st.env (if t then x else y) = some v)
    (h : DrawC P X all bef b (i + 1) r ⟨putD st.env o.dst v, st.H⟩ K) : DrawC P X all bef b i (o :: r) st K :=
  drawc_pure hw (by rw [ho]; rfl) (by rw [ho]; rfl) (v := v) (by
    simp only [opD, ho, mover, reader, pureD, hc]
    cases t <;> simp_all) h

theorem drawc_read (hw : Region.wanted o (dyield all st.env) = true) (hm : mover P o.op = false) (hr : reader P o.op = true) (hb : allBits b (bef.getD i 0) = true) {v : DV} (hv : opD P (fun _ _ _ => none) o st.env st.H = some (v, st.H))
    (h : DrawC P X all bef b (i + 1) r ⟨putD st.env o.dst v, st.H⟩ K) : DrawC P X all bef b i (o :: r) st K := by
  refine ⟨fun seen was hs hw' => draw_read hw hm hr (op_at hv ⟨?_, h.ex _ was ?_ (fun s m => ⟨by have := (hw' s m).1; omega, (hw' s m).2⟩)⟩)⟩
  · unfold stillWas
    rw [List.all_eq_true]
    intro w m
    rw [Bool.or_eq_true]
    rcases Nat.lt_or_ge w.i b with hlt | hge
    · exact .inl (allBits_at hb hlt)
    · right
      have := (hw' w m).2 hge
      rw [this]
      exact still_of ((opD_stays hv hm).2.1 hr)
  · intro s m
    rcases List.mem_cons.mp m with rfl | m
    · exact ⟨Nat.lt_succ_self _, fun _ => (opD_stays hv hm).2.1 hr⟩
    · exact ⟨by have := (hs s m).1; omega, (hs s m).2⟩

/-- A call that leaves the heap as it is. -/
theorem drawc_same (hw : Region.wanted o (dyield all st.env) = true) (hm : mover P o.op = true) (hb : allBits b (bef.getD i 0) = true)
    (h : OpWp P X o st.env st.H (fun v H => H = st.H ∧ DrawC P X all bef b (i + 1) r ⟨putD st.env o.dst v, st.H⟩ K)) : DrawC P X all bef b i (o :: r) st K := by
  refine ⟨fun seen was hs hw' => draw_move hw hm ?_⟩
  obtain ⟨k, v, H, h1, hH, h2⟩ := h.ex
  subst hH
  refine ⟨⟨k, v, st.H, h1, ?_, h2.ex _ _ ?_ ?_⟩⟩
  · unfold stillAll
    rw [List.all_eq_true]
    intro s m
    rw [Bool.or_eq_true]
    rcases Nat.lt_or_ge s.i b with hlt | hge
    · exact .inl (allBits_at hb hlt)
    · exact .inr (still_of ((hs s m).2 hge))
  · exact fun s m => ⟨by have := (hs s m).1; omega, (hs s m).2⟩
  · intro w m
    rcases List.mem_cons.mp m with rfl | m
    · exact ⟨Nat.lt_succ_self _, fun _ => rfl⟩
    · exact ⟨by have := (hw' w m).1; omega, (hw' w m).2⟩

/-- What changes the heap, behind all that stands before it. -/
theorem drawc_sync (hw : Region.wanted o (dyield all st.env) = true) (hm : mover P o.op = true) (hb : allBits i (bef.getD i 0) = true)
    (h : OpWp P X o st.env st.H (fun v H => DrawC P X all bef (i + 1) (i + 1) r ⟨putD st.env o.dst v, H⟩ K)) : DrawC P X all bef b i (o :: r) st K := by
  refine ⟨fun seen was hs hw' => draw_move hw hm ?_⟩
  obtain ⟨k, v, H, h1, h2⟩ := h.ex
  refine ⟨⟨k, v, H, h1, ?_, h2.ex _ _ ?_ ?_⟩⟩
  · unfold stillAll
    rw [List.all_eq_true]
    intro s m
    rw [Bool.or_eq_true]
    exact .inl (allBits_at hb (hs s m).1)
  · exact fun s m => ⟨by have := (hs s m).1; omega, fun h => by have := (hs s m).1; omega⟩
  · intro w m
    rcases List.mem_cons.mp m with rfl | m
    · exact ⟨Nat.lt_succ_self _, fun h => absurd h (by simp only; omega)⟩
    · exact ⟨by have := (hw' w m).1; omega, fun h => by have := (hw' w m).1; omega⟩
end
end
end Go.Det
