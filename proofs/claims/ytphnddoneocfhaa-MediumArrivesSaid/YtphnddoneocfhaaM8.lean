/- A thing of one's own. -/
import Derived.Test.YtphnddoneocfhaaM7
namespace Go.Det.M11
open Go Go.Det Go.Proofs
set_option maxRecDepth 4000
set_option maxHeartbeats 4000000
set_option linter.unusedVariables false
set_option linter.unusedSimpArgs false

theorem resOf_cell {P : Program} {a : Tmp} {t : TypeId} {env : List DV} {H : DH} {l i q sz : Nat} {ro : Bool} {rs : List (List DV)} {r : List DV} {v : DV} (hp : env.getD a undefD = .ptr (some (l, i, q))) (ho : H.obj l = some (.rows ro sz rs)) (hr : rs[i]? = some r) (hv : partD P t r q = some v) : resOf P [.cell a t] env H = some v := by
  simp only [resOf, List.map_cons, List.map_nil, hp, loadD, ho, hr, hv]

/-- The bytes of a thing may be read. -/
def AirOk (H : DH) (a : AirV) : Prop := BOk H (.sl a.p a.n a.c a.ex) a.n
theorem AirOk.mono {H H' : DH} (h : Above H H') {a : AirV} (k : AirOk H a) : AirOk H' a := BOk.mono h k

/-- The same thing, but for where its bytes lie. -/
def AirV.at (a : AirV) (p : Option (Nat × Nat × Nat)) (c : Nat) (ex : Bool) : AirV := ⟨a.id, a.fr, a.ch, a.at_, a.en, p, a.n, c, ex, a.bad, a.le⟩

theorem own50 (H : DH) (a : AirV) (hb : AirOk H a) (hn : a.n ≤ 64) : CallWp Try.prog X3 50 [a.dv] H (fun r H' => Above H H' ∧ ∃ p c ex, r = (a.at p c ex).dv ∧ AirOk H' (a.at p c ex) ∧ ∀ loc i z, p = some (loc, i, z) → H.next + 2 ≤ loc) := by
  refine enter rfl Try.func50 rfl Try.ntmps50 rfl ?_
  dsimp only [List.cons_append, List.nil_append, List.length_cons, List.length_nil, List.replicate_succ, List.replicate_zero, Nat.reduceAdd, Nat.reduceSub]
  repeat' (first
    | refine dwp_seq ?_
    | refine dwp_region ?_
    | refine ops_nil ?_
    | (refine ⟨_, resOf_cell rfl (by repeat (first | exact obj_here rfl | exact obj_set | assumption | refine obj_skip (by (try simp only [DH.new_next, DH.set_next]); omega) ?_ | refine obj_past (by (try simp only [DH.new_next, DH.set_next]); omega) ?_)) rfl rfl, ?_⟩; dsimp only)
    | (refine ops_plain rfl ?_; (first | (refine op_call rfl rfl rfl ?_; refine (clone73 _ _ _ (hb.mono (((Above.refl H).new _).new _)) hn).mono ?_; rintro r H1 ⟨hab, hbok, p, c, ex, rfl, hfresh⟩; have hbox := hab.obj (l := H.next) (by (try simp only [DH.new_next]); omega) (obj_skip (by (try simp only [DH.new_next]); omega) (obj_here rfl)); have hcell := hab.obj (l := H.next + 1) (by (try simp only [DH.new_next]); omega) (obj_here rfl)) | refine op_pick_t rfl rfl (by first | assumption | with_reducible rfl | decide) rfl ?_ | refine op_pick_f rfl rfl (by first | assumption | with_reducible rfl | decide) rfl ?_ | refine op_at (opD_load rfl rfl (by repeat (first | exact obj_here rfl | exact obj_set | assumption | refine obj_skip (by (try simp only [DH.new_next, DH.set_next]); omega) ?_ | refine obj_past (by (try simp only [DH.new_next, DH.set_next]); omega) ?_)) rfl rfl) ?_ | refine op_at (opD_store rfl rfl rfl rfl rfl (by repeat (first | exact obj_here rfl | exact obj_set | assumption | refine obj_skip (by (try simp only [DH.new_next, DH.set_next]); omega) ?_ | refine obj_past (by (try simp only [DH.new_next, DH.set_next]); omega) ?_)) rfl) ?_ | refine op_at (opD_eqb rfl rfl rfl rfl) ?_ | refine op_at (opD_neqb rfl rfl rfl rfl) ?_ | refine op_at rfl ?_); dsimp only [putD, DV.cells, DH.new_next, DH.set_next, List.length_cons, List.length_nil, Nat.reduceAdd, List.set_cons_zero, List.set_cons_succ, getD_zero, getD_succ, fieldAt_zero, fieldAt_succ, thenD, blockD, retR])
    | (refine ops_on rfl rfl (by first | assumption | with_reducible rfl | decide) ?_; (first | (refine op_call rfl rfl rfl ?_; refine (clone73 _ _ _ (hb.mono (((Above.refl H).new _).new _)) hn).mono ?_; rintro r H1 ⟨hab, hbok, p, c, ex, rfl, hfresh⟩; have hbox := hab.obj (l := H.next) (by (try simp only [DH.new_next]); omega) (obj_skip (by (try simp only [DH.new_next]); omega) (obj_here rfl)); have hcell := hab.obj (l := H.next + 1) (by (try simp only [DH.new_next]); omega) (obj_here rfl)) | refine op_pick_t rfl rfl (by first | assumption | with_reducible rfl | decide) rfl ?_ | refine op_pick_f rfl rfl (by first | assumption | with_reducible rfl | decide) rfl ?_ | refine op_at (opD_load rfl rfl (by repeat (first | exact obj_here rfl | exact obj_set | assumption | refine obj_skip (by (try simp only [DH.new_next, DH.set_next]); omega) ?_ | refine obj_past (by (try simp only [DH.new_next, DH.set_next]); omega) ?_)) rfl rfl) ?_ | refine op_at (opD_store rfl rfl rfl rfl rfl (by repeat (first | exact obj_here rfl | exact obj_set | assumption | refine obj_skip (by (try simp only [DH.new_next, DH.set_next]); omega) ?_ | refine obj_past (by (try simp only [DH.new_next, DH.set_next]); omega) ?_)) rfl) ?_ | refine op_at (opD_eqb rfl rfl rfl rfl) ?_ | refine op_at (opD_neqb rfl rfl rfl rfl) ?_ | refine op_at rfl ?_); dsimp only [putD, DV.cells, DH.new_next, DH.set_next, List.length_cons, List.length_nil, Nat.reduceAdd, List.set_cons_zero, List.set_cons_succ, getD_zero, getD_succ, fieldAt_zero, fieldAt_succ, thenD, blockD, retR])
    | (refine ops_off1 rfl rfl (by first | assumption | with_reducible rfl | decide) ?_; dsimp only [putD, DV.cells, DH.new_next, DH.set_next, List.length_cons, List.length_nil, Nat.reduceAdd, List.set_cons_zero, List.set_cons_succ, getD_zero, getD_succ, fieldAt_zero, fieldAt_succ, thenD, blockD, retR])
    | (refine ops_off0 rfl rfl (by first | assumption | with_reducible rfl | decide) ?_; dsimp only [putD, DV.cells, DH.new_next, DH.set_next, List.length_cons, List.length_nil, Nat.reduceAdd, List.set_cons_zero, List.set_cons_succ, getD_zero, getD_succ, fieldAt_zero, fieldAt_succ, thenD, blockD, retR])
    | (refine ops_split1 rfl rfl ?_ ?_ <;> intro hb)
    | (refine ops_split0 rfl rfl ?_ ?_ <;> intro hb)
    | ((first | (refine op_call rfl rfl rfl ?_; refine (clone73 _ _ _ (hb.mono (((Above.refl H).new _).new _)) hn).mono ?_; rintro r H1 ⟨hab, hbok, p, c, ex, rfl, hfresh⟩; have hbox := hab.obj (l := H.next) (by (try simp only [DH.new_next]); omega) (obj_skip (by (try simp only [DH.new_next]); omega) (obj_here rfl)); have hcell := hab.obj (l := H.next + 1) (by (try simp only [DH.new_next]); omega) (obj_here rfl)) | refine op_pick_t rfl rfl (by first | assumption | with_reducible rfl | decide) rfl ?_ | refine op_pick_f rfl rfl (by first | assumption | with_reducible rfl | decide) rfl ?_ | refine op_at (opD_load rfl rfl (by repeat (first | exact obj_here rfl | exact obj_set | assumption | refine obj_skip (by (try simp only [DH.new_next, DH.set_next]); omega) ?_ | refine obj_past (by (try simp only [DH.new_next, DH.set_next]); omega) ?_)) rfl rfl) ?_ | refine op_at (opD_store rfl rfl rfl rfl rfl (by repeat (first | exact obj_here rfl | exact obj_set | assumption | refine obj_skip (by (try simp only [DH.new_next, DH.set_next]); omega) ?_ | refine obj_past (by (try simp only [DH.new_next, DH.set_next]); omega) ?_)) rfl) ?_ | refine op_at (opD_eqb rfl rfl rfl rfl) ?_ | refine op_at (opD_neqb rfl rfl rfl rfl) ?_ | refine op_at rfl ?_); dsimp only [putD, DV.cells, DH.new_next, DH.set_next, List.length_cons, List.length_nil, Nat.reduceAdd, List.set_cons_zero, List.set_cons_succ, getD_zero, getD_succ, fieldAt_zero, fieldAt_succ, thenD, blockD, retR])
    | refine dwp_cond_t rfl (by first | assumption | with_reducible rfl | decide) ?_
    | refine dwp_cond_f rfl (by first | assumption | with_reducible rfl | decide) ?_
    | (refine dwp_cond rfl ?_ ?_ <;> intro hb)
    | refine dwp_block ?_
    | refine dwp_skip ?_
    | refine dwp_ret ?_
    | refine dwp_exit ?_
    | dsimp only [thenD, blockD, retR]
    | (refine ⟨_, rfl, ?_⟩; try dsimp only)
    | fail)
  have habove := ((((Above.refl H).new (.rows false 8 [a.cells])).new (.rows false 8 [[.int .u64 0, .int .i64 0, .int .i64 0, .int .i64 0, .int .i64 0, .sl none 0 0 true, .bool false, .int .i64 0]])).trans hab)
  refine ⟨(habove.set (Nat.le_refl _) _).set (Nat.le_succ _) _, p, c, ex, rfl, BOk.set (BOk.set hbok _ ?_) _ ?_, fun loc i z h => hfresh loc i z h⟩
  · intro loc i z h
    have := hfresh loc i z h
    simp only [DH.new_next] at this
    omega
  · intro loc i z h
    have := hfresh loc i z h
    simp only [DH.new_next] at this
    omega

end Go.Det.M11
