/- The operations that read. -/
import Derived.Test.YtphnddoneocfhaaD5
import Derived.Laws.BytesString
import Derived.Laws.IdiomCopy
namespace Go.Det
set_option linter.unusedVariables false
set_option linter.unusedSimpArgs false

section
variable {P : Program} {ρ : Rho}

theorem cells_of (b : Option Obj) : ∀ (r : List DV) (o : Nat), (∀ (j : Nat) (d : DV), r[j]? = some d → CR ρ b (o + j) d) → ∃ vs : List Value, VRs ρ r vs ∧ ∀ (j : Nat) (v : Value), vs[j]? = some v → cellAt b (o + j) = some v
  | [], o, _ => ⟨[], .nil, fun j v h => by simp at h⟩
  | d :: r, o, h => by
    obtain ⟨_, c, hc, hv⟩ := h 0 d (by simp)
    obtain ⟨vs, h1, h2⟩ := cells_of b r (o + 1) (fun j d' hd => by
      have := h (j + 1) d' (by simpa using hd)
      rwa [show o + (j + 1) = o + 1 + j by omega] at this)
    refine ⟨c :: vs, .cons hv h1, fun j v hj => ?_⟩
    cases j with
    | zero => simp at hj; subst hj; simpa using hc
    | succ j =>
      have := h2 j v (by simpa using hj)
      rwa [show o + 1 + j = o + (j + 1) by omega] at this

theorem addr_add0 (pl : Pl) (i o j : Nat) : (pl.addr i o).add j = ⟨pl.block, pl.off + i * pl.sz + o + j, none⟩ := by
  unfold Addr.add Pl.addr
  split
  · rename_i h; subst h; rfl
  · rfl

theorem Agree.row {H : DH} {w : World} (ha : Agree ρ H w) {l : Nat} {ro : Bool} {sz : Nat} {rs : List (List DV)} (ho : H.obj l = some (.rows ro sz rs)) {pl : Pl} (hp : ρ l = some pl) {i : Nat} {r : List DV} (hr : rs[i]? = some r) :
    r.all DV.one = true ∧ r.length = pl.sz ∧ ∀ (j : Nat) (d : DV), r[j]? = some d → CR ρ w.heap[pl.block]? (pl.off + i * pl.sz + j) d := by
  obtain ⟨pl', hp', h1, h2, h3, h4⟩ := ha.obj l _ ho
  rw [hp] at hp'
  cases hp'
  obtain ⟨hl, hc⟩ := h3 i r hr
  rw [← h1] at hc hl
  refine ⟨?_, hl, hc⟩
  rw [List.all_eq_true]
  intro x hx
  obtain ⟨j, hj, rfl⟩ := List.getElem_of_mem hx
  exact (hc j _ (List.getElem?_eq_getElem hj)).1

theorem load_sound {t : TypeId} {H : DH} {x d : DV} {v : Value} {w : World} (h : loadD P t H x = some d) (hx : VR ρ x v) (ha : Agree ρ H w) : ∃ u, (Instr.loadAt t v).run P w = .ok u w ∧ VR ρ d u := by
  unfold loadD at h
  split at h
  · rename_i l i o
    split at h
    · rename_i ro sz rs ho
      split at h
      · rename_i r hr
        simp only [VR] at hx
        obtain ⟨pl, hp, rfl⟩ := hx
        obtain ⟨h1, hl, hc⟩ := ha.row ho hp hr
        unfold partD at h
        split at h
        · rename_i n hag hs
          split at h
          · rename_i hle
            cases h
            obtain ⟨vs, hvs, hcs⟩ := cells_of w.heap[pl.block]? ((r.drop o).take n) (pl.off + i * pl.sz + o) (fun j d hd => by
              rw [List.getElem?_take] at hd
              split at hd
              · rw [List.getElem?_drop] at hd
                have := hc _ _ hd
                rwa [show pl.off + i * pl.sz + (o + j) = pl.off + i * pl.sz + o + j by omega] at this
              · cases hd)
            have hlen : vs.length = n := by rw [VRs.length hvs]; simp; omega
            have hrun := run_loadCells_list (P := P) w (pl.addr i o) vs (fun j v hj => by rw [addr_add0, cell?_eq]; exact hcs j v hj)
            rw [hlen] at hrun
            refine ⟨.agg vs.toArray, ?_, ?_⟩
            · simp [Instr.loadAt, Instr.sureAddr, loadVar, r_isAgg hag, r_sizeOf hs, hrun]
            · simp only [VR]
              exact ⟨all_take _ (all_drop _ h1), _, rfl, by simpa using hvs⟩
          · cases h
        · rename_i hag hs
          obtain ⟨_, c, hcc, hv⟩ := hc _ _ h
          refine ⟨c, ?_, hv⟩
          have : w.cell? (pl.addr i o) = some c := by
            unfold Pl.addr
            rw [cell?_eq]
            exact hcc
          simp [Instr.loadAt, Instr.sureAddr, loadVar, r_isAgg hag, this]
        · cases h
      · cases h
    · cases h
  · cases h

/-! #### rows of a slice -/
theorem rows_of {H : DH} {w : World} (ha : Agree ρ H w) {l i n : Nat} {ro : Bool} {sz : Nat} {rs : List (List DV)} (ho : H.obj l = some (.rows ro sz rs)) {pl : Pl} (hp : ρ l = some pl) (hle : i + n ≤ rs.length) :
    ∃ vs : List Value, VRs ρ ((rs.drop i).take n).flatten vs ∧ vs.length = n * pl.sz ∧ (∀ (j : Nat) (v : Value), vs[j]? = some v → w.cell? ((pl.addr i 0).add j) = some v) ∧ ((rs.drop i).take n).flatten.all DV.one = true ∧ ∀ r ∈ (rs.drop i).take n, r.length = pl.sz := by
  have key : ∀ (n i : Nat), i + n ≤ rs.length → ∃ vs : List Value, VRs ρ ((rs.drop i).take n).flatten vs ∧ vs.length = n * pl.sz ∧ (∀ (j : Nat) (v : Value), vs[j]? = some v → cellAt w.heap[pl.block]? (pl.off + i * pl.sz + j) = some v) ∧ ((rs.drop i).take n).flatten.all DV.one = true ∧ ∀ r ∈ (rs.drop i).take n, r.length = pl.sz := by
    intro n
    induction n with
    | zero => intro i _; exact ⟨[], by simp [VRs], by simp, by simp, by simp, by simp⟩
    | succ n ih =>
      intro i hi
      have hlt : i < rs.length := by omega
      have hr : rs[i]? = some rs[i] := List.getElem?_eq_getElem hlt
      obtain ⟨h1, hl, hc⟩ := ha.row ho hp hr
      obtain ⟨us, hus, hcs⟩ := cells_of w.heap[pl.block]? rs[i] (pl.off + i * pl.sz) hc
      obtain ⟨vs, hvs, hlen, hcell, hall, hrl⟩ := ih (i + 1) (by omega)
      have hd : (rs.drop i).take (n + 1) = rs[i] :: (rs.drop (i + 1)).take n := by
        rw [List.drop_eq_getElem_cons hlt, List.take_succ_cons]
      rw [hd]
      have hul : us.length = pl.sz := by rw [VRs.length hus, hl]
      refine ⟨us ++ vs, by rw [List.flatten_cons]; exact hus.append hvs, by rw [List.length_append, hul, hlen, Nat.add_mul]; omega, ?_, ?_, ?_⟩
      · intro j v hj
        rw [List.getElem?_append] at hj
        split at hj
        · exact hcs j v hj
        · rename_i hge
          have := hcell _ v hj
          rw [hul] at this hge
          have e : pl.off + (i + 1) * pl.sz + (j - pl.sz) = pl.off + i * pl.sz + j := by
            rw [Nat.add_mul]; omega
          rwa [e] at this
      · rw [List.flatten_cons, List.all_append, h1, hall]; rfl
      · intro r hr'
        rcases List.mem_cons.mp hr' with rfl | hm
        · exact hl
        · exact hrl r hm
  obtain ⟨vs, h1, h2, h3, h4, h5⟩ := key n i hle
  refine ⟨vs, h1, h2, fun j v hj => ?_, h4, h5⟩
  rw [addr_add0, cell?_eq]
  exact h3 j v hj

theorem bytes_flat : ∀ {rs : List (List DV)} {l : List UInt8}, bytesOf rs = some l → ∃ ns : List Int, rs.flatten = ns.map (DV.int .u8) ∧ l = ns.map (fun n => UInt8.ofNat n.toNat) ∧ ns.length = rs.length
  | [], _, h => by simp only [bytesOf] at h; cases h; exact ⟨[], rfl, rfl, rfl⟩
  | r :: rs, l, h => by
    unfold bytesOf at h
    split at h
    · rename_i e; cases e
    · rename_i n rs' e
      cases e
      split at h
      · rename_i l' hl'
        cases h
        obtain ⟨ns, h1, h2, h3⟩ := bytes_flat hl'
        exact ⟨n :: ns, by simp [h1], by simp [h2], by simp [h3]⟩
      · cases h
    · cases h

theorem VRs_ints : ∀ {ns : List Int} {vs : List Value}, VRs ρ (ns.map (DV.int .u8)) vs → vs = ns.map (Value.int .u8)
  | [], vs, h => by simpa [VRs] using h
  | n :: ns, vs, h => by
    simp only [List.map_cons, VRs] at h
    obtain ⟨v, r, rfl, h1, h2⟩ := h
    simp only [VR] at h1
    rw [h1, VRs_ints h2]
    rfl

theorem push_fold : ∀ (ns : List Int) (s : ByteArray), ns.foldl (fun r n => r.push (UInt8.ofNat n.toNat)) s = ⟨(s.data.toList ++ ns.map fun n => UInt8.ofNat n.toNat).toArray⟩
  | [], s => by simp
  | n :: ns, s => by
    rw [List.foldl_cons, push_fold ns]
    congr 1
    have : (s.push (UInt8.ofNat n.toNat)).data = s.data.push (UInt8.ofNat n.toNat) := rfl
    rw [this]
    simp

theorem bytesString_sound {H : DH} {w : World} (ha : Agree ρ H w) {x : DV} {rs : List (List DV)} {l : List UInt8} {v : Value} (h : rowsOf H x = some rs) (hb : bytesOf rs = some l) (hx : VR ρ x v) :
    (Conv.bytesToString v).run P w = .ok (.string ⟨l.toArray⟩) w := by
  obtain ⟨ns, hf, hl, hn⟩ := bytes_flat hb
  unfold rowsOf at h
  split at h
  · rename_i c ex
    cases h
    simp only [bytesOf] at hb
    cases hb
    simp only [VR] at hx
    obtain ⟨_, _, rfl⟩ := hx
    simp [Conv.bytesToString]; rfl
  · rename_i b i z n c ex
    split at h
    · rename_i ro sz rs' ho
      split at h
      · rename_i hle
        cases h
        simp only [VR] at hx
        obtain ⟨pl, a, c', hp, hz, rfl, hnc, hcc, hex, htot, haa⟩ := hx
        obtain ⟨vs, hvs, hlen, hcell, hall, hrl⟩ := rows_of ha ho hp hle
        rw [hf] at hvs
        have hvs' := VRs_ints hvs
        have hlen1 : ns.length = n := by rw [hn]; simp; omega
        have hload : (loadCells a n).run P w = .ok (ns.map (Value.int .u8)).toArray w := by
          rcases haa with h0 | h0
          · have : n = 0 := by omega
            subst this
            have : ns = [] := List.length_eq_zero_iff.mp hlen1
            subst this
            simp [loadCells, loadCellsFrom]
          · rw [h0]
            have := run_loadCells_list (P := P) w (pl.addr i 0) vs hcell
            rw [hvs'] at this
            simpa [hlen1] using this
        rw [run_bytesToString w a n c' ns hload, push_fold, hl]
        simp
      · cases h
    · cases h
  · cases h

end
end Go.Det
