/- Things that come in. -/
import Derived.Test.YtphnddoneocfhaaM11
import Derived.Test.YtphnddoneocfhaaD29
namespace Go.Det.M11
open Go Go.Det Go.Proofs
set_option maxRecDepth 4000
set_option maxHeartbeats 4000000
set_option linter.unusedVariables false
set_option linter.unusedSimpArgs false

theorem bytes_in {H : DH} (hw : WF H) {d : DV} (h : Typed Try.prog H 26 [d]) : ∃ p n c ex, d = .sl p n c ex ∧ BOk H d n := by
  have hsz : Try.prog.cellsOf 5 = 1 := by kernel_rfl
  rcases typed_slice Try.underlying26 h with h | ⟨l, n, rs, h, ho, hn, hm, hr⟩
  · cases h; exact ⟨_, _, _, _, rfl, .inl ⟨rfl, rfl⟩⟩
  · rw [hsz] at h ho
    cases h
    refine ⟨_, _, _, _, rfl, .inr ⟨l, 0, rs.length, true, true, rs, rfl, hw _ _ ho, ho, by omega, ?_⟩⟩
    rw [List.all_eq_true]
    intro r hr'
    have hr'' : r ∈ rs := List.mem_of_mem_drop (List.mem_of_mem_take hr')
    obtain ⟨i, hi, rfl⟩ := List.getElem_of_mem hr''
    obtain ⟨b, hb, _⟩ := typed_int Try.underlying5 (hr i _ (List.getElem?_eq_getElem hi))
    rw [hb]
    rfl

theorem air_in {H : DH} (hw : WF H) {cs : List DV} (h : Typed Try.prog H 28 cs) : ∃ a : AirV, cs = a.cells ∧ AirOk H a := by
  obtain ⟨h1, h2⟩ := typed_struct (fs := _) Try.underlying28 h
  have hsz : Try.prog.cellsOf 28 = 8 := by kernel_rfl
  have c2 : Try.prog.cellsOf 2 = 1 := by kernel_rfl
  have c3 : Try.prog.cellsOf 3 = 1 := by kernel_rfl
  have c4 : Try.prog.cellsOf 4 = 1 := by kernel_rfl
  have c25 : Try.prog.cellsOf 25 = 1 := by kernel_rfl
  have c26 : Try.prog.cellsOf 26 = 1 := by kernel_rfl
  rw [hsz] at h1
  obtain ⟨x0, x1, x2, x3, x4, x5, x6, x7, rfl⟩ := len8 h1
  simp only [List.forall_mem_cons, c2, c3, c4, c25, c26, List.drop_zero, List.drop_succ_cons, List.take_succ_cons, List.take_zero] at h2
  obtain ⟨t0, t1, t2, t3, t4, t5, t6, t7, _⟩ := h2
  obtain ⟨a0, e0, _⟩ := typed_int Try.underlying25 t0
  obtain ⟨a1, e1, _⟩ := typed_int Try.underlying3 t1
  obtain ⟨a2, e2, _⟩ := typed_int Try.underlying3 t2
  obtain ⟨a3, e3, _⟩ := typed_int Try.underlying2 t3
  obtain ⟨a4, e4, _⟩ := typed_int Try.underlying2 t4
  obtain ⟨p, n, c, ex, e5, hb⟩ := bytes_in hw t5
  obtain ⟨a6, e6⟩ := typed_bool Try.underlying4 t6
  obtain ⟨a7, e7, _⟩ := typed_int Try.underlying3 t7
  cases e0; cases e1; cases e2; cases e3; cases e4; cases e5; cases e6; cases e7
  exact ⟨⟨a0, a1, a2, a3, a4, p, n, c, ex, a6, a7⟩, rfl, hb⟩

theorem airs_rows {H : DH} (hw : WF H) : ∀ (rs : List (List DV)), (∀ (i : Nat) (r : List DV), rs[i]? = some r → Typed Try.prog H 28 r) → ∃ l : List AirV, rs = l.map AirV.cells ∧ ∀ a ∈ l, AirOk H a
  | [], _ => ⟨[], rfl, fun a h => by cases h⟩
  | r :: rs, h => by
    obtain ⟨a, ha, hok⟩ := air_in hw (h 0 r rfl)
    obtain ⟨l, hl, hall⟩ := airs_rows hw rs fun i r' hr => h (i + 1) r' (by simpa using hr)
    exact ⟨a :: l, by rw [ha, hl]; rfl, fun b hb => by
      rcases List.mem_cons.mp hb with rfl | hb
      · exact hok
      · exact hall b hb⟩

theorem airs_in {H : DH} (hw : WF H) {d : DV} (h : TArg Try.prog H 22 d) : ∃ p c ex l, d = .sl p l.length c ex ∧ Th H p c ex l ∧ ∀ a ∈ l, AirOk H a := by
  have hsz : Try.prog.cellsOf 28 = 8 := by kernel_rfl
  have h' := targ_one (by rw [Try.underlying22]; simp) (by rw [Try.underlying22]; simp) h
  rcases typed_slice Try.underlying22 h' with h | ⟨l, n, rs, h, ho, hn, hm, hr⟩
  · cases h
    exact ⟨none, 0, true, [], rfl, ⟨.nil rfl, fun _ => ⟨rfl, rfl⟩, by decide⟩, fun a ha => by cases ha⟩
  · rw [hsz] at h ho
    cases h
    obtain ⟨L, hL, hall⟩ := airs_rows hw rs hr
    have hlen : L.length = rs.length := by rw [hL]; simp
    refine ⟨some (l, 0, 8), rs.length, true, L.take n, by rw [List.length_take, hlen, Nat.min_eq_left hn], ⟨.at (hw _ _ ho) ho (by rw [List.length_map, List.length_take, hlen]; omega) (by rw [List.length_map, List.length_take, hlen, Nat.min_eq_left hn, hL, List.drop_zero, List.map_take]), fun h => (by cases h), by rw [List.length_take, hlen]; omega⟩, fun a ha => hall a (List.mem_of_mem_take ha)⟩

theorem Th.few {H : DH} {p : Option (Nat × Nat × Nat)} {c : Nat} {ex : Bool} {l : List AirV} (h : Th H p c ex l) : gFew [.sl p l.length c ex] H = some (.bool (fewB l), H) := by simp only [gFew, h.of]

theorem Th.nil0 (H : DH) : Th H none 0 true [] := ⟨.nil rfl, fun _ => ⟨rfl, rfl⟩, by decide⟩

/-- What a launch answers is a slice of things. -/
theorem Th.at {H : DH} {loc c : Nat} {ex : Bool} {l : List AirV} (ho : H.obj loc = some (.rows false 8 (l.map AirV.cells))) (hn : loc < H.next) (hl : l.length ≤ maxLen) : Th H (some (loc, 0, 8)) c ex l :=
  ⟨.at hn ho (by simp) (by rw [List.drop_zero, List.take_length]), fun h => (by cases h), hl⟩

end Go.Det.M11
