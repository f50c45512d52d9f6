/- strings.Builder's WriteString and String, strconv.Itoa as tables. -/
import Derived.Shelf.Strconv.Itoa3
import Derived.Test.YtlmjhpnmfmnmgaaDoorCovT10
namespace Go.Proofs
open Go.Shelf Go.RowKit
-- what the kit's command 'shelf_lay LaysM.n171 Nm 171 at Tryd' lays, in plain words
def Tryd.lays171_ren : Go.Shelf.Ren := ⟨fun | 171 => 41 | 243 => 73 | 246 => 90 | 283 => 100 | 284 => 101 | 285 => 102 | 286 => 103 | 129 => 112 | 317 => 111 | 318 => 113 | 319 => 114 | 320 => 115 | 337 => 119 | 338 => 120 | n => n, fun | 3 => 3 | 9 => 9 | 2 => 2 | 4 => 4 | 171 => 138 | 0 => 0 | 53 => 104 | 37 => 68 | 5 => 5 | 173 => 141 | 212 => 159 | 51 => 160 | 20 => 20 | 213 => 161 | 46 => 153 | 232 => 173 | 233 => 174 | n => n, fun | 17 => 2 | 18 => 4 | 19 => 5 | n => n⟩
theorem Tryd.lays171 : Go.Proofs.LaysM.n171 Tryd.prog Tryd.lays171_ren where
  mixed := by kernel_rfl
  f129 := Tryd.func112.trans (congrArg some (by kernel_rfl))
  f171 := Tryd.func41.trans (congrArg some (by kernel_rfl))
  f243 := Tryd.func73.trans (congrArg some (by kernel_rfl))
  f246 := Tryd.func90.trans (congrArg some (by kernel_rfl))
  f283 := Tryd.func100.trans (congrArg some (by kernel_rfl))
  f284 := Tryd.func101.trans (congrArg some (by kernel_rfl))
  f285 := Tryd.func102.trans (congrArg some (by kernel_rfl))
  f286 := Tryd.func103.trans (congrArg some (by kernel_rfl))
  f317 := Tryd.func111.trans (congrArg some (by kernel_rfl))
  f318 := Tryd.func113.trans (congrArg some (by kernel_rfl))
  f319 := Tryd.func114.trans (congrArg some (by kernel_rfl))
  f320 := Tryd.func115.trans (congrArg some (by kernel_rfl))
  f337 := Tryd.func119.trans (congrArg some (by kernel_rfl))
  f338 := Tryd.func120.trans (congrArg some (by kernel_rfl))
  t0 := Tryd.underlying0
  a0 := Tryd.isAgg0
  z0 := Tryd.sizeOf0
  v0 := Tryd.zeroValue0
  t2 := Tryd.underlying2
  a2 := Tryd.isAgg2
  z2 := Tryd.sizeOf2
  v2 := Tryd.zeroValue2
  t3 := Tryd.underlying3
  a3 := Tryd.isAgg3
  z3 := Tryd.sizeOf3
  v3 := Tryd.zeroValue3
  t4 := Tryd.underlying4
  a4 := Tryd.isAgg4
  z4 := Tryd.sizeOf4
  v4 := Tryd.zeroValue4
  t5 := Tryd.underlying5
  a5 := Tryd.isAgg5
  z5 := Tryd.sizeOf5
  v5 := Tryd.zeroValue5
  t9 := Tryd.underlying9
  a9 := Tryd.isAgg9
  z9 := Tryd.sizeOf9
  v9 := Tryd.zeroValue9
  t20 := Tryd.underlying20
  a20 := Tryd.isAgg20
  z20 := Tryd.sizeOf20
  v20 := Tryd.zeroValue20
  t37 := Tryd.underlying68
  a37 := Tryd.isAgg68
  z37 := Tryd.sizeOf68
  v37 := Tryd.zeroValue68
  t46 := Tryd.underlying153
  a46 := Tryd.isAgg153
  z46 := Tryd.sizeOf153
  v46 := Tryd.zeroValue153
  t51 := Tryd.underlying160
  a51 := Tryd.isAgg160
  z51 := Tryd.sizeOf160
  v51 := Tryd.zeroValue160
  t53 := Tryd.underlying104
  a53 := Tryd.isAgg104
  z53 := Tryd.sizeOf104
  v53 := Tryd.zeroValue104
  t171 := Tryd.underlying138
  a171 := Tryd.isAgg138
  z171 := Tryd.sizeOf138
  v171 := Tryd.zeroValue138
  t173 := Tryd.underlying141
  a173 := Tryd.isAgg141
  z173 := Tryd.sizeOf141
  v173 := Tryd.zeroValue141
  t212 := Tryd.underlying159
  a212 := Tryd.isAgg159
  z212 := Tryd.sizeOf159
  v212 := Tryd.zeroValue159
  t213 := Tryd.underlying161
  a213 := Tryd.isAgg161
  z213 := Tryd.sizeOf161
  t232 := Tryd.underlying173
  a232 := Tryd.isAgg173
  z232 := Tryd.sizeOf173
  v232 := Tryd.zeroValue173
  t233 := Tryd.underlying174
  a233 := Tryd.isAgg174
  z233 := Tryd.sizeOf174
  v233 := Tryd.zeroValue174
  g17 := by kernel_rfl
  g18 := by kernel_rfl
  g19 := by kernel_rfl
  i0 := by kernel_rfl
  i2 := by kernel_rfl
  i3 := by kernel_rfl
  i4 := by kernel_rfl
  i5 := by kernel_rfl
  i9 := by kernel_rfl
  i20 := by kernel_rfl
  i37 := by kernel_rfl
  i46 := by kernel_rfl
  i51 := by kernel_rfl
  i53 := by kernel_rfl
  i171 := by kernel_rfl
  i173 := by kernel_rfl
  i212 := by kernel_rfl
  i232 := by kernel_rfl
  i233 := by kernel_rfl
  m17 := by kernel_rfl
  m18 := by kernel_rfl
  m19 := by kernel_rfl
end Go.Proofs
namespace Go.Det.C
open Go Go.Det Go.Proofs Go.RowKit
set_option maxRecDepth 4000
set_option linter.unusedVariables false
set_option linter.unusedSimpArgs false
theorem decN_decDigits (n : Nat) : Lib.decDigits n = decN n := by
  induction n using Nat.strongRecOn with
  | _ n ih =>
    by_cases h : n < 10
    · rw [decN_lt h, Lib.decDigits, dif_pos h]
    · rw [decN_ge h, Lib.decDigits, dif_neg h, ih (n / 10) (by omega)]
/-- A builder's text grows. -/
def gWrite : G := fun args H => match args with
  | [.ptr (some (l, 0, 0)), .str s] => match H.obj l with
    | some (.lib (.bld u none n)) => if 0 < s.length ∧ s.length ≤ 100000000 then some (.tuple [.int .i64 (s.length : Int), .nilIface], (H.new (.lib (.hid s))).set l (some (.lib (.bld true (some H.next) s.length)))) else none
    | some (.lib (.bld u (some i) n)) => match H.obj i with
      | some (.lib (.hid bs)) => if bs.length = n ∧ 0 < s.length ∧ n + s.length ≤ 100000000 then some (.tuple [.int .i64 (s.length : Int), .nilIface], ((H.set i none).new (.lib (.hid (bs ++ s)))).set l (some (.lib (.bld true (some H.next) (n + s.length))))) else none
      | _ => none
    | _ => none
  | _ => none
/-- A builder's text. -/
def gStr : G := fun args H => match args with
  | [.ptr (some (l, 0, 0))] => match H.obj l with
    | some (.lib (.bld u (some i) n)) => match H.obj i with
      | some (.lib (.hid bs)) => if bs.length = n ∧ bs ≠ [] then some (.str bs, H.set i none) else none
      | _ => none
    | _ => none
  | _ => none
theorem add_other {ρ : Rho} {l m : Nat} {pl : Pl} (h : m ≠ l) : ρ.add l pl m = ρ m := if_neg h
/-- What a write does: a thing of the library's has changed, its row is another one, or the same, grown. -/
theorem write_moves {ρ : Rho} {H H' : DH} {w w' : World} {l g c : Nat} {gi : Option Nat} {pl : Pl} {o0 ob oh : DObj} (ha : Agree ρ H w) (hl : H.obj l = some o0) (hro : o0.ro = false) (hob0 : ob.ro = false) (hpl : ρ l = some pl)
    (hgi : ∀ i, gi = some i → i ≠ l ∧ ∃ oi q, H.obj i = some oi ∧ oi.ro = false ∧ ρ i = some q)
    (hn : H'.next = H.next + 1) (ho : ∀ k o, H'.obj k = some o → (k = l ∧ o = ob) ∨ (k = H.next ∧ o = oh) ∨ (k ≠ l ∧ gi ≠ some k ∧ H.obj k = some o))
    (hk : Keeps w w' (fun k => k = pl.block ∨ ∃ i q, gi = some i ∧ ρ i = some q ∧ q.block = k))
    (hob : ObjR (ρ.add H.next ⟨g, 0, 1, c⟩) pl w'.heap[pl.block]? ob) (hoh : ObjR (ρ.add H.next ⟨g, 0, 1, c⟩) ⟨g, 0, 1, c⟩ w'.heap[g]? oh) (hglt : g < w'.heap.size) (hgb : g ≠ pl.block)
    (hg : w.heap.size ≤ g ∨ ∃ i q, gi = some i ∧ ρ i = some q ∧ q.block = g) : Moves ρ H w (ρ.add H.next ⟨g, 0, 1, c⟩) H' w' := by
  have hle := Rho.le_add ha ⟨g, 0, 1, c⟩
  have hll : l < H.next := ha.low _ _ hpl
  -- what lies elsewhere
  have hother : ∀ k o q, k ≠ l → gi ≠ some k → H.obj k = some o → ρ k = some q → q.block ≠ pl.block ∧ (∀ i q', gi = some i → ρ i = some q' → q'.block ≠ q.block) ∧ q.block ≠ g := by
    intro k o q h1 h2 h3 h4
    have h5 : ∀ i q', gi = some i → ρ i = some q' → q'.block ≠ q.block := by
      intro i q' e1 e2
      obtain ⟨_, oi, qi, e3, e4, e5⟩ := hgi i e1
      exact ha.apart i k oi o q' q (fun e => h2 (e ▸ e1)) e3 h3 e4 e2 h4
    refine ⟨fun e => ha.apart l k o0 o pl q (Ne.symm h1) hl h3 hro hpl h4 e.symm, h5, ?_⟩
    rcases hg with h | ⟨i, qi, e1, e2, e3⟩
    · have := ha.lies k q h4; omega
    · exact fun e => h5 i qi e1 e2 (e3.trans e.symm)
  have hOwnL : Own ρ H pl.block := ⟨l, o0, pl, hl, hro, hpl, rfl⟩
  have hOwnG : ∀ i q, gi = some i → ρ i = some q → Own ρ H q.block := by
    intro i q e1 e2
    obtain ⟨_, oi, q', e3, e4, e5⟩ := hgi i e1
    exact ⟨i, oi, q, e3, e4, e2, rfl⟩
  have hg' : Own ρ H g ∨ w.heap.size ≤ g := by
    rcases hg with h | ⟨i, q, e1, e2, e3⟩
    · exact .inr h
    · exact .inl (e3 ▸ hOwnG i q e1 e2)
  have hpk : ∀ k q, k ≠ H.next → (ρ.add H.next ⟨g, 0, 1, c⟩) k = some q → ρ k = some q := fun k q h1 h2 => by rwa [add_other h1] at h2
  refine ⟨hle, ⟨?_, ?_, ?_, ?_⟩, hk.os, hk.tape, hk.output, trivial, hk.size, ?_, ?_, ?_⟩
  · intro k q hq
    by_cases e : k = H.next
    · omega
    · have := ha.low k q (hpk _ _ e hq); omega
  · intro k q hq
    by_cases e : k = H.next
    · subst e; rw [Rho.add_same] at hq; cases hq; exact hglt
    · have := ha.lies k q (hpk _ _ e hq); have := hk.size; omega
  · intro k o hko
    rcases ho k o hko with ⟨rfl, rfl⟩ | ⟨rfl, rfl⟩ | ⟨h1, h2, h3⟩
    · exact ⟨pl, hle _ _ hpl, hob⟩
    · exact ⟨_, Rho.add_same _ _ _, hoh⟩
    · obtain ⟨q, hq, hr⟩ := ha.obj k o h3
      obtain ⟨a1, a2, a3⟩ := hother k o q h1 h2 h3 hq
      refine ⟨q, hle _ _ hq, ?_⟩
      rw [hk.block q.block (ha.lies k q hq) (fun hh => hh.elim a1 fun ⟨i, q', e1, e2, e3⟩ => a2 i q' e1 e2 e3)]
      exact hr.mono hle
  · intro k1 k2 o1 o2 q1 q2 hne h1 h2 hro1 hq1 hq2
    rcases ho k1 o1 h1 with ⟨rfl, rfl⟩ | ⟨rfl, rfl⟩ | ⟨b1, b2, b3⟩
    · have e1 := hpk _ _ (by omega) hq1
      rw [hpl] at e1; cases e1
      rcases ho k2 o2 h2 with ⟨rfl, rfl⟩ | ⟨rfl, rfl⟩ | ⟨c1, c2, c3⟩
      · exact absurd rfl hne
      · rw [Rho.add_same] at hq2; cases hq2; exact fun e => hgb e.symm
      · obtain ⟨q, hq, _⟩ := ha.obj k2 o2 c3
        rw [hle _ _ hq] at hq2; cases hq2
        exact fun e => (hother k2 o2 q2 c1 c2 c3 hq).1 e.symm
    · rw [Rho.add_same] at hq1; cases hq1
      rcases ho k2 o2 h2 with ⟨rfl, rfl⟩ | ⟨rfl, rfl⟩ | ⟨c1, c2, c3⟩
      · rw [hle _ _ hpl] at hq2; cases hq2; exact hgb
      · exact absurd rfl hne
      · obtain ⟨q, hq, _⟩ := ha.obj k2 o2 c3
        rw [hle _ _ hq] at hq2; cases hq2
        exact fun e => (hother k2 o2 q2 c1 c2 c3 hq).2.2 e.symm
    · obtain ⟨p1, hp1, _⟩ := ha.obj k1 o1 b3
      rw [hle _ _ hp1] at hq1; cases hq1
      rcases ho k2 o2 h2 with ⟨rfl, rfl⟩ | ⟨rfl, rfl⟩ | ⟨c1, c2, c3⟩
      · rw [hle _ _ hpl] at hq2; cases hq2
        exact (hother k1 o1 q1 b1 b2 b3 hp1).1
      · rw [Rho.add_same] at hq2; cases hq2
        exact (hother k1 o1 q1 b1 b2 b3 hp1).2.2
      · obtain ⟨q, hq, _⟩ := ha.obj k2 o2 c3
        rw [hle _ _ hq] at hq2; cases hq2
        exact ha.apart k1 k2 o1 o2 q1 q2 hne b3 c3 hro1 hp1 hq
  · intro b hb hno
    exact hk.block b hb (fun hh => hh.elim (fun e => hno (e ▸ hOwnL)) fun ⟨i, q, e1, e2, e3⟩ => hno (e3 ▸ hOwnG i q e1 e2))
  · rintro b ⟨k, o, q, h1, h2, h3, rfl⟩
    rcases ho k o h1 with ⟨rfl, rfl⟩ | ⟨rfl, rfl⟩ | ⟨b1, b2, b3⟩
    · rw [hle _ _ hpl] at h3; cases h3; exact .inl hOwnL
    · rw [Rho.add_same] at h3; cases h3; exact hg'
    · obtain ⟨p1, hp1, _⟩ := ha.obj k o b3
      rw [hle _ _ hp1] at h3; cases h3
      exact .inl ⟨k, o, q, b3, h2, hp1, rfl⟩
  · intro k q hq
    by_cases e : k = H.next
    · subst e; rw [Rho.add_same] at hq; cases hq
      rcases hg' with h | h
      · exact .inr (.inr h)
      · exact .inr (.inl h)
    · exact .inl (hpk _ _ e hq)
theorem ptr00 {ρ : Rho} {l : Nat} {v : Value} (h : VR ρ (.ptr (some (l, 0, 0))) v) : ∃ pl, ρ l = some pl ∧ v = .pointer (some ⟨pl.block, pl.off, none⟩) := by
  simp only [VR] at h
  obtain ⟨pl, h1, rfl⟩ := h
  exact ⟨pl, h1, by simp [Pl.addr]⟩
theorem hidR {ρ : Rho} {g c : Nat} {w : World} {n : Nat} {xs : List UInt8} (hx : xs.length = n) (h : w.ownsRow 0 5 1 (.slice (some ⟨g, 0, none⟩) n c) n (Lib.byteCells xs)) (h0 : 0 < n) : g < w.heap.size ∧ ObjR ρ ⟨g, 0, 1, c⟩ w.heap[g]? (.lib (.hid xs)) := by
  rcases h.2 with ⟨h1, _⟩ | ⟨g', cap, cur, h1, _, h2, h3, h4, h5, h6⟩
  · cases h1
  · injection h1 with e1 e2 e3
    injection e1 with e1
    injection e1 with e1
    subst e1 e3
    refine ⟨(Array.getElem?_eq_some_iff.1 h2).1, rfl, cur, h2, (by show xs.length ≤ c; omega), h4, by simpa using h5, ?_⟩
    rw [Nat.mul_one] at h6
    rw [hx]
    exact h6
theorem write38_ok : ExtSound Tryd.prog gWrite 38 := by
  intro args H r H' h ρ w vs ha hv
  unfold gWrite at h
  split at h
  · rename_i l s
    simp only [VRs] at hv
    obtain ⟨v, r1, e1, h1, u', r2, e2, h2, e3⟩ := hv
    subst e2 e3
    have hvs : vs = #[v, u'] := by rw [← Array.toArray_toList (xs := vs), e1]
    rw [VR_str_iff] at h2
    obtain ⟨pl, hpl, rfl⟩ := ptr00 h1
    subst h2 hvs
    split at h
    · rename_i u n hl
      split at h
      · rename_i hs
        cases h
        obtain ⟨pl', hpl', hob⟩ := ha.obj l _ hl
        rw [hpl] at hpl'; cases hpl'
        obtain ⟨hoff, v, hbk, hn0, rfl⟩ := hob
        rw [hoff]
        have hw := write38 (b := pl.block) (u := u) (xs := []) (s := ⟨s.toArray⟩) hbk (World.ownsRow_nil _ _ _ _) (by show 0 < s.length; exact hs.1) (by show 0 + s.length ≤ _; omega)
        refine callOk_of_calls Tryd.func38 (by kernel_rfl) rfl (Calls.mono (P := Tryd.prog) (f := 38) hw ?_)
        rintro e w' ⟨rfl, g, c, hb', hown', hk, hg, hgb⟩
        have hsz : ([] : List Value).length + (⟨s.toArray⟩ : ByteArray).size = s.length := by show 0 + s.length = _; omega
        rw [hsz] at hb' hown'
        obtain ⟨hglt, hhid⟩ := hidR (ρ := ρ.add H.next ⟨g, 0, 1, c⟩) (xs := s) rfl hown' hs.1
        have hll : l < H.next := ha.low _ _ hpl
        refine ⟨_, ?_, write_moves (gi := none) (ob := .lib (.bld true (some H.next) s.length)) (oh := .lib (.hid s)) ha hl rfl rfl hpl (fun i e => by cases e) rfl ?_ ⟨hk.os, hk.tape, hk.output, hk.size, fun k hk1 hk2 => hk.block k hk1 ?_⟩ ⟨hoff, _, hb', _, Rho.add_same _ _ _, rfl⟩ hhid hglt hgb ?_⟩
        · simp only [VR, VRs]
          exact ⟨_, rfl, _, _, rfl, rfl, _, _, rfl, rfl, rfl⟩
        · intro k o hk
          simp only [DH.set, DH.new] at hk
          split at hk
          · cases hk; exact .inl ⟨by assumption, rfl⟩
          · split at hk
            · cases hk; exact .inr (.inl ⟨by assumption, rfl⟩)
            · exact .inr (.inr ⟨by assumption, (fun e => by cases e), hk⟩)
        · rintro (e | e)
          · exact hk2 (.inl e)
          · cases e
        · rcases hg with h | h
          · cases h
          · exact .inl h
      · cases h
    · rename_i u i n hl
      split at h
      · rename_i bs hi
        split at h
        · rename_i hs
          obtain ⟨hlen, hs0, hsm⟩ := hs
          cases h
          obtain ⟨pl', hpl', hob⟩ := ha.obj l _ hl
          rw [hpl] at hpl'; cases hpl'
          obtain ⟨hoff, v, hbk, q, hq, rfl⟩ := hob
          obtain ⟨q', hq', hoh⟩ := ha.obj i _ hi
          rw [hq] at hq'; cases hq'
          obtain ⟨hqo, cur, hg0, hc1, hc2, hc3, hc4⟩ := hoh
          rw [hoff]
          have hbl : (Lib.byteCells bs).length = n := by rw [Lib.byteCells_length, hlen]
          have hown : w.ownsRow 0 5 1 (.slice (some ⟨q.block, 0, none⟩) (Lib.byteCells bs).length q.tot) (Lib.byteCells bs).length (Lib.byteCells bs) := ⟨by omega, .inr ⟨q.block, q.tot, cur, rfl, Nat.zero_le _, hg0, by omega, hc2, by omega, by rw [Nat.mul_one, Lib.byteCells_length]; exact hc4⟩⟩
          have hw := write38 (b := pl.block) (u := u) (s := ⟨s.toArray⟩) (by rw [hbl]; exact hbk) hown (by show 0 < s.length; exact hs0) (by show _ + s.length ≤ _; omega)
          refine callOk_of_calls Tryd.func38 (by kernel_rfl) rfl (Calls.mono (P := Tryd.prog) (f := 38) hw ?_)
          rintro e w' ⟨rfl, g, c, hb', hown', hk, hg, hgb⟩
          have hsz : (Lib.byteCells bs).length + (⟨s.toArray⟩ : ByteArray).size = n + s.length := by rw [hbl]; rfl
          rw [hsz] at hb' hown'
          have hcat : Lib.byteCells bs ++ Lib.strCells ⟨s.toArray⟩ = Lib.byteCells (bs ++ s) := by rw [Lib.byteCells_append]; rfl
          rw [hcat] at hown'
          obtain ⟨hglt, hhid⟩ := hidR (ρ := ρ.add H.next ⟨g, 0, 1, c⟩) (xs := bs ++ s) (by rw [List.length_append, hlen]) hown' (by omega)
          have hll : l < H.next := ha.low _ _ hpl
          have hil : i ≠ l := by intro e; subst e; rw [hi] at hl; cases hl
          refine ⟨_, ?_, write_moves (gi := some i) (ob := .lib (.bld true (some H.next) (n + s.length))) (oh := .lib (.hid (bs ++ s))) ha hl rfl rfl hpl (fun j e => by cases e; exact ⟨hil, _, q, hi, rfl, hq⟩) rfl ?_ ⟨hk.os, hk.tape, hk.output, hk.size, fun k hk1 hk2 => hk.block k hk1 ?_⟩ ⟨hoff, _, hb', _, Rho.add_same _ _ _, rfl⟩ hhid hglt hgb ?_⟩
          · simp only [VR, VRs]
            exact ⟨_, rfl, _, _, rfl, rfl, _, _, rfl, rfl, rfl⟩
          · intro k o hko
            simp only [DH.set, DH.new] at hko
            by_cases h1 : k = l
            · rw [if_pos h1] at hko; cases hko; exact .inl ⟨h1, rfl⟩
            · rw [if_neg h1] at hko
              have hko : (if k = H.next then some (DObj.lib (LibObj.hid (bs ++ s))) else if k = i then none else H.obj k) = some o := hko
              by_cases h2 : k = H.next
              · rw [if_pos h2] at hko; cases hko; exact .inr (.inl ⟨h2, rfl⟩)
              · rw [if_neg h2] at hko
                by_cases h3 : k = i
                · rw [if_pos h3] at hko; cases hko
                · rw [if_neg h3] at hko
                  exact .inr (.inr ⟨h1, fun e' => by cases e'; exact h3 rfl, hko⟩)
          · rintro (e | e)
            · exact hk2 (.inl e)
            · injection e with e
              exact hk2 (.inr ⟨i, q, rfl, hq, e⟩)
          · rcases hg with h | h
            · injection h with h
              exact .inr ⟨i, q, rfl, hq, h⟩
            · exact .inl h
        · cases h
      · cases h
    · cases h
  · cases h
theorem string42_ok : ExtSound Tryd.prog gStr 42 := by
  intro args H r H' h ρ w vs ha hv
  unfold gStr at h
  split at h
  · rename_i l
    simp only [VRs] at hv
    obtain ⟨v, r1, e1, h1, e2⟩ := hv
    subst e2
    have hvs : vs = #[v] := by rw [← Array.toArray_toList (xs := vs), e1]
    obtain ⟨pl, hpl, rfl⟩ := ptr00 h1
    subst hvs
    split at h
    · rename_i u i n hl
      split at h
      · rename_i bs hi
        split at h
        · rename_i hs
          obtain ⟨hlen, hne⟩ := hs
          cases h
          obtain ⟨pl', hpl', hob⟩ := ha.obj l _ hl
          rw [hpl] at hpl'; cases hpl'
          obtain ⟨hoff, v, hbk, q, hq, rfl⟩ := hob
          obtain ⟨q', hq', hoh⟩ := ha.obj i _ hi
          rw [hq] at hq'; cases hq'
          obtain ⟨hqo, cur, hg0, hc1, hc2, hc3, hc4⟩ := hoh
          rw [hoff]
          subst hlen
          refine callOk_of_calls Tryd.func42 (by kernel_rfl) rfl (Calls.mono (P := Tryd.prog) (f := 42) (string42 hbk hg0 hne hc1 hc2 hc3 hc4) ?_)
          rintro e w' ⟨rfl, hk⟩
          have hOwn : Own ρ H q.block := ⟨i, _, q, hi, rfl, hq, rfl⟩
          refine ⟨ρ, VR_str_iff.mpr rfl, Rho.le_refl _, ⟨ha.low, fun k q hk' => Nat.lt_of_lt_of_le (ha.lies k q hk') hk.size, ?_, ?_⟩, hk.os, hk.tape, hk.output, trivial, hk.size, fun b hb hno => hk.block b hb (fun e => hno (e ▸ hOwn)), ?_, fun _ _ h => .inl h⟩
          · intro k o hko
            simp only [DH.set] at hko
            split at hko
            · cases hko
            · rename_i hki
              obtain ⟨q2, hq2, hr⟩ := ha.obj k o hko
              refine ⟨q2, hq2, ?_⟩
              rw [hk.block q2.block (ha.lies k q2 hq2) (fun e => ha.apart i k _ o q q2 (Ne.symm hki) hi hko rfl hq hq2 e.symm)]
              exact hr
          · intro k1 k2 o1 o2 q1 q2 hne' g1 g2
            simp only [DH.set] at g1 g2
            split at g1
            · cases g1
            · split at g2
              · cases g2
              · exact ha.apart k1 k2 o1 o2 q1 q2 hne' g1 g2
          · rintro b ⟨k, o, q2, g1, g2, g3, rfl⟩
            simp only [DH.set] at g1
            split at g1
            · cases g1
            · exact .inl ⟨k, o, q2, g1, g2, g3, rfl⟩
        · cases h
      · cases h
    · cases h
  · cases h
end Go.Det.C

/- Remarks: what is cut is the same. -/
namespace Go.Det.C
open Go Go.Det Go.Proofs
set_option maxRecDepth 4000
set_option linter.unusedVariables false
set_option linter.unusedSimpArgs false
/-- Two cutters, alike but for places. -/
structure Alike (c d : Cu) : Prop where
  toks : c.toks = d.toks
  piece : c.piece = d.piece
  remark : c.remark = d.remark
  e : c.e = d.e
theorem Alike.refl (c : Cu) : Alike c c := ⟨rfl, rfl, rfl, rfl⟩
theorem Alike.fail {c d : Cu} (h : Alike c d) (p p' : Int × Int) (e : Int) : Alike (c.fail p e) (d.fail p' e) := by
  unfold Cu.fail
  rw [h.e]
  split
  · exact ⟨h.toks, h.piece, h.remark, rfl⟩
  · exact h
theorem Alike.add {c d : Cu} (h : Alike c d) (t : Tok) (p p' : Int × Int) : Alike (c.add t p) (d.add t p') := by
  unfold Cu.add
  exact ⟨by simp [h.toks], h.piece, h.remark, h.e⟩
theorem Alike.cut {c d : Cu} (h : Alike c d) : Alike c.cut d.cut := ⟨h.toks, rfl, h.remark, h.e⟩
theorem Alike.fin {c d : Cu} (h : Alike c d) : Alike c.fin d.fin := by
  unfold Cu.fin
  rw [h.piece]
  split
  · exact h.cut
  · split
    · split
      · exact h.cut.add _ _ _
      · exact (h.cut.fail _ _ _).add _ _ _
    · split
      · exact h.cut.fail _ _ _
      · exact h.cut.add _ _ _
theorem Alike.take {c d : Cu} (h : Alike c d) (p p' : Int × Int) (r : Int) : Alike (c.take p r) (d.take p' r) := by
  have hr : Alike { c with remark := false } { d with remark := false } := ⟨h.toks, h.piece, rfl, h.e⟩
  have hf := hr.fin
  have h0 := h
  obtain ⟨toks, places, piece, a, rem, w, e⟩ := c
  obtain ⟨toks', places', piece', a', rem', w', e'⟩ := d
  obtain ⟨q1, q2, q3, q4⟩ := h0
  simp only at q1 q2 q3 q4
  subst q1 q2 q3 q4
  unfold Cu.take
  simp only at hf ⊢
  split
  · exact h
  · split
    · exact ⟨h.toks, rfl, rfl, h.e⟩
    · split
      · exact hf
      · split
        · exact ⟨hf.toks, hf.piece, rfl, hf.e⟩
        · split
          · exact hf.add _ _ _
          · split
            · exact ⟨hf.toks, by simp [hf.piece], hf.remark, hf.e⟩
            · exact hf.fail _ _ _
theorem Alike.step {c d : Cu} (h : Alike c d) (p p' : Int × Int) (x : Int × Bool) : Alike (stepR c p x) (stepR d p' x) := by
  unfold stepR
  split
  · exact (h.fin.fail _ _ _).take _ _ _
  · exact h.take _ _ _
theorem goR_cons (x : Int × Bool) (r : List (Int × Bool)) (c : Cu) (p : Int × Int) : goR (x :: r) c p = if (stepR c p x).e = 0 then goR r (stepR c p x) (nextP p x.1) else stepR c p x := rfl
theorem Alike.go {r : List (Int × Bool)} : ∀ {c d : Cu} (h : Alike c d) (p p' : Int × Int), Alike (goR r c p) (goR r d p') := by
  induction r with
  | nil => intro c d h p p'; exact h.fin
  | cons x r ih =>
    intro c d h p p'
    have hs := h.step p p' x
    rw [goR_cons, goR_cons, hs.e]
    split
    · exact ih hs _ _
    · exact hs
def Cu.rem (c : Cu) : Cu := { c with remark := true }
end Go.Det.C

/- Pieces are cut; numbers. -/
namespace Go.Det.C
open Go Go.Det Go.Proofs
set_option maxRecDepth 4000
set_option linter.unusedVariables false
set_option linter.unusedSimpArgs false
/-! ### numbers -/
end Go.Det.C

/- few; the reference's Same. -/
namespace Go.Det.C
open Go Go.Det Go.Proofs
set_option maxRecDepth 4000
set_option maxHeartbeats 4000000
set_option linter.unusedVariables false
set_option linter.unusedSimpArgs false
end Go.Det.C

/- The reference's Same. -/
namespace Go.Det.C
open Go Go.Det Go.Proofs
set_option maxRecDepth 4000
set_option maxHeartbeats 4000000
set_option linter.unusedVariables false
set_option linter.unusedSimpArgs false
end Go.Det.C

/- LexRemarks. -/
namespace Go.Det.C
open Go Go.Det Go.Proofs
set_option maxRecDepth 4000
set_option maxHeartbeats 4000000
set_option linter.unusedVariables false
set_option linter.unusedSimpArgs false
theorem opD_strAdd {P : Program} {cf : CallF} {o : Oper} {env : List DV} {H : DH} {t u : TypeId} {x y : Operand} {a b : List UInt8} (ho : o.op = .binOp .add t x y u) (hx : evalO env x = some (.str a)) (hy : evalO env y = some (.str b)) (hl : a.length + b.length ≤ 4294967296) : opD P cf o env H = some (.str (a ++ b), H) := by
  simp only [opD, ho, mover, reader, pureD, hx, hy, binD, strOpD, hl, if_true]
  rfl
section
variable {A H : DH} {bs : List (Nat × DObj)} {fs : List (DH → Prop)} {K : DV → DH → Prop}
end
end Go.Det.C

/- LexNumbers. -/
namespace Go.Det.C
open Go Go.Det Go.Proofs
set_option maxRecDepth 4000
set_option maxHeartbeats 4000000
set_option linter.unusedVariables false
set_option linter.unusedSimpArgs false
section
variable {A H : DH} {bs : List (Nat × DObj)} {fs : List (DH → Prop)} {K : DV → DH → Prop}
end
end Go.Det.C

/- Regions that draw their order: what is read last, behind all that moved, beside what is read early. -/
namespace Go.Det
set_option linter.unusedVariables false
set_option linter.unusedSimpArgs false
section
variable {P : Program} {X : Ext}
/-- As DrawR; heaps that were are of one kind, those to come of another. -/
structure DrawT (P : Program) (X : Ext) (all : Array Oper) (bef : Array Nat) (ms : List Nat) (Φ Ψ : DH → Prop) (i : Nat) (l : List Oper) (st : DSt) (K : DSt → Prop) : Prop where
  ex : ∀ seen was, (∀ s ∈ seen, ∀ H', Ψ H' → readD P s.o (evalO s.env) H' = some s.v) → (∀ w ∈ was, w.i ∈ ms ∧ Φ w.H) → Ψ st.H → DrawWp P X all bef l i seen was st K
theorem dwp_drawt {id : Nat} {ops : Array Oper} {st : DSt} {Q : DExit → DSt → Prop} (bef : Array Nat) (hbef : Region.before ops = bef) (Φ : DH → Prop) (h0 : Φ st.H) (h : DrawT P X ops bef [] Φ Φ 0 ops.toList st (fun st' => Q .normal st')) : Dwp P X (.region id ops true) st Q :=
  dwp_draw bef hbef (h.ex [] [] (by simp) (by simp) h0)
section
variable {all : Array Oper} {bef : Array Nat} {ms : List Nat} {i : Nat} {Φ Ψ : DH → Prop} {o : Oper} {r : List Oper} {st : DSt} {K : DSt → Prop}
theorem drawt_nil (h : K st) : DrawT P X all bef ms Φ Ψ i [] st K := ⟨fun _ _ _ _ _ => draw_nil h⟩
theorem drawt_pure (hw : Region.wanted o (dyield all st.env) = true) (hm : mover P o.op = false) (hr : reader P o.op = false) {v : DV} (hv : opD P (fun _ _ _ => none) o st.env st.H = some (v, st.H))
    (h : DrawT P X all bef ms Φ Ψ (i + 1) r ⟨putD st.env o.dst v, st.H⟩ K) : DrawT P X all bef ms Φ Ψ i (o :: r) st K :=
  ⟨fun seen was hs hw' h0 => draw_pure hw hm hr (op_at hv (h.ex seen was hs hw' h0))⟩
/-- What is read alike in all heaps. -/
theorem drawt_read (hw : Region.wanted o (dyield all st.env) = true) (hm : mover P o.op = false) (hr : reader P o.op = true) {v : DV} (hv : ∀ H', Φ H' → opD P (fun _ _ _ => none) o st.env H' = some (v, H')) (hv2 : ∀ H', Ψ H' → opD P (fun _ _ _ => none) o st.env H' = some (v, H'))
    (h : DrawT P X all bef ms Φ Ψ (i + 1) r ⟨putD st.env o.dst v, st.H⟩ K) : DrawT P X all bef ms Φ Ψ i (o :: r) st K := by
  refine ⟨fun seen was hs hw' h0 => draw_read hw hm hr (op_at (hv2 _ h0) ⟨?_, h.ex _ was ?_ hw' h0⟩)⟩
  · unfold stillWas
    rw [List.all_eq_true]
    intro w m
    rw [Bool.or_eq_true]
    exact .inr (still_of ((opD_stays (hv _ (hw' w m).2) hm).2.1 hr))
  · intro s m
    rcases List.mem_cons.mp m with rfl | m
    · exact fun H' hp => (opD_stays (hv2 _ hp) hm).2.1 hr
    · exact hs s m
/-- What is read behind all that moved. -/
theorem drawt_last (hw : Region.wanted o (dyield all st.env) = true) (hm : mover P o.op = false) (hr : reader P o.op = true) (hb : bitsIn ms (bef.getD i 0) = true) {v : DV} (hv : opD P (fun _ _ _ => none) o st.env st.H = some (v, st.H))
    (h : DrawT P X all bef ms Φ (fun H' => Ψ H' ∧ readD P o (evalO st.env) H' = some v) (i + 1) r ⟨putD st.env o.dst v, st.H⟩ K) : DrawT P X all bef ms Φ Ψ i (o :: r) st K := by
  have hrd := (opD_stays hv hm).2.1 hr
  refine ⟨fun seen was hs hw' h0 => draw_read hw hm hr (op_at hv ⟨?_, h.ex _ was ?_ hw' ⟨h0, hrd⟩⟩)⟩
  · unfold stillWas
    rw [List.all_eq_true]
    intro w m
    rw [Bool.or_eq_true]
    exact .inl (bitsIn_at hb (hw' w m).1)
  · intro s m
    rcases List.mem_cons.mp m with rfl | m
    · exact fun H' hp => hp.2
    · exact fun H' hp => hs s m H' hp.1
theorem drawt_move (hw : Region.wanted o (dyield all st.env) = true) (hm : mover P o.op = true) (h0 : Ψ st.H → Φ st.H)
    (h : OpWp P X o st.env st.H (fun v H => Ψ H ∧ DrawT P X all bef (i :: ms) Φ Ψ (i + 1) r ⟨putD st.env o.dst v, H⟩ K)) : DrawT P X all bef ms Φ Ψ i (o :: r) st K := by
  refine ⟨fun seen was hs hw' hp => draw_move hw hm ?_⟩
  obtain ⟨k, v, H, h1, hH, h2⟩ := h.ex
  refine ⟨⟨k, v, H, h1, ?_, h2.ex _ _ hs ?_ hH⟩⟩
  · unfold stillAll
    rw [List.all_eq_true]
    intro s m
    rw [Bool.or_eq_true]
    exact .inr (still_of (hs s m _ hH))
  · intro w m
    rcases List.mem_cons.mp m with rfl | m
    · exact ⟨List.mem_cons_self, h0 hp⟩
    · exact ⟨List.mem_cons_of_mem _ (hw' w m).1, (hw' w m).2⟩
end
end
end Go.Det

/- Words; a time's text. -/
namespace Go.Det.C
open Go Go.Det Go.Proofs
set_option maxRecDepth 4000
set_option maxHeartbeats 4000000
set_option linter.unusedVariables false
set_option linter.unusedSimpArgs false
section
variable {A H : DH} {bs : List (Nat × DObj)} {fs : List (DH → Prop)} {K : DV → DH → Prop}
theorem Ctx.again {x bs : List (Nat × DObj)} {F : List (Nat × DObj) → List (Nat × DObj)} (h : Ctx x bs F) (y : List (Nat × DObj)) : Ctx y (F y) F := by
  induction h with
  | one => exact .one
  | here => exact .here
  | cons _ ih => exact .cons ih
  | app _ ih => exact .app ih
theorem digits72 : ∀ (k n : Nat), n ≤ k → n < 1152921504606846977 → ∀ {A H : DH} {bs x : List (Nat × DObj)} {F : List (Nat × DObj) → List (Nat × DObj)} {fs : List (DH → Prop)} {K : DV → DH → Prop} (l : List UInt8) (s : Sv), l.length + (decN n).length ≤ 1000 → Own1 1 (rowsB l) s.dv x → Bx A H bs fs → Ctx x bs F → (∀ (s' : Sv) x' H', Own1 1 (rowsB (l ++ decN n)) s'.dv x' → Bx A H' (F x') fs → K s'.dv H') → CallWp Tryd.prog X3 72 [s.dv, .int .u64 (n : Int)] H K := by
  intro k
  induction k with
  | zero =>
    intro n hn hm A H bs x F fs K l s hl o3 hB hc3 hK
    obtain rfl : n = 0 := by omega
    rw [decN_lt (by decide)] at hK hl
    have hl3 : (rowsB l).length + 1 ≤ mostD := by rw [rowsB_len]; unfold mostD; simp at hl; omega
    have hc : decide (((0 : Nat) : Int) > 9) = false := by decide
    have hrem : ((0 : Nat) : Int).tmod 10 = 0 := rfl
    have hu2 : IntKind.u8.wrap (48 + 0) = ((UInt8.ofNat (48 + 0)).toNat : Int) := rfl
    have hu1 : IntKind.u8.wrap 0 = 0 := rfl
    have hrows : rowsB (l ++ [UInt8.ofNat (48 + 0)]) = rowsB l ++ [[.int .u8 ((UInt8.ofNat (48 + 0)).toNat : Int)]] := by simp [rowsB]
    refine enter rfl Tryd.func72 rfl Tryd.ntmps72 rfl ?_
    dsimp only [List.cons_append, List.nil_append, List.length_cons, List.length_nil, List.replicate_succ, List.replicate_zero, Nat.reduceAdd, Nat.reduceSub]
    repeat' (first | dsimp only [putD, DV.cells, DH.new_next, DH.set_next, List.length_cons, List.length_nil, Nat.reduceAdd, List.set_cons_zero, List.set_cons_succ, getD_zero, getD_succ, fieldAt_zero, fieldAt_succ, thenD, blockD, retR] | apply dwp_seq | apply dwp_region | apply ops_nil | (apply ops_plain; (· exact rfl)) | (apply op_at; (· exact opD_rem rfl rfl rfl (by decide) hrem)) | (apply op_told; (· exact rfl); (· exact congrArg (DV.int _) hu1)) | (apply op_told; (· exact rfl); (· exact congrArg (DV.int _) hu2)) | (apply bx_build1 et68; (· exact rfl); (· exact rfl); (· exact rfl); (· exact rfl); (· exact rfl); (· decide); (· assumption); intro bn H1 hB) | (apply op_append_s; (· exact rfl); (· exact rfl); (· exact rfl); (· exact rfl); (· exact et68); (· exact o3); (· assumption); (· (repeat (first | with_reducible exact hc3 | with_reducible exact Ctx.here | with_reducible apply Ctx.cons | with_reducible apply Ctx.app))); (· exact At.here); (· exact rfl); (· exact rfl); (· assumption); intro t3 y3 H1 q3 hB) | (apply op_at; (· exact rfl)) | (apply dwp_cond_f; (· exact rfl); (· (with_reducible first | assumption | rfl | decide))) | apply dwp_skip | apply dwp_ret | (refine ⟨_, rfl, ?_⟩) | fail)
    exact hK t3 y3 _ (by rw [hrows]; exact q3) (hB.sub (by (repeat (first | exact List.Sublist.refl _ | exact List.nil_sublist _ | apply List.Sublist.cons_cons | apply List.Sublist.cons | apply List.Sublist.append_left | refine List.Sublist.trans ?_ (List.sublist_append_right _ _)))))
  | succ k ih =>
    intro n hn hm A H bs x F fs K l s hl o3 hB hc3 hK
    have hm10 : n % 10 < 10 := Nat.mod_lt _ (by decide)
    have hrem : (n : Int).tmod 10 = ((n % 10 : Nat) : Int) := by rw [Int.tmod_eq_emod_of_nonneg (by omega)]; omega
    have hu1 : IntKind.u8.wrap ((n % 10 : Nat) : Int) = ((n % 10 : Nat) : Int) := wrapB (by omega)
    have hu2 : IntKind.u8.wrap (48 + ((n % 10 : Nat) : Int)) = ((UInt8.ofNat (48 + n % 10)).toNat : Int) := by rw [(ofNat_dig hm10).1, wrapB (by omega)]; omega
    by_cases h9 : n < 10
    · have hc : decide ((n : Int) > 9) = false := by simp; omega
      rw [decN_lt h9] at hK hl
      have hl3 : (rowsB l).length + 1 ≤ mostD := by rw [rowsB_len]; unfold mostD; simp at hl; omega
      have hrows : rowsB (l ++ [UInt8.ofNat (48 + n)]) = rowsB l ++ [[.int .u8 ((UInt8.ofNat (48 + n % 10)).toNat : Int)]] := by rw [Nat.mod_eq_of_lt h9]; simp [rowsB]
      refine enter rfl Tryd.func72 rfl Tryd.ntmps72 rfl ?_
      dsimp only [List.cons_append, List.nil_append, List.length_cons, List.length_nil, List.replicate_succ, List.replicate_zero, Nat.reduceAdd, Nat.reduceSub]
      repeat' (first | dsimp only [putD, DV.cells, DH.new_next, DH.set_next, List.length_cons, List.length_nil, Nat.reduceAdd, List.set_cons_zero, List.set_cons_succ, getD_zero, getD_succ, fieldAt_zero, fieldAt_succ, thenD, blockD, retR] | apply dwp_seq | apply dwp_region | apply ops_nil | (apply ops_plain; (· exact rfl)) | (apply op_at; (· exact opD_rem rfl rfl rfl (by decide) hrem)) | (apply op_told; (· exact rfl); (· exact congrArg (DV.int _) hu1)) | (apply op_told; (· exact rfl); (· exact congrArg (DV.int _) hu2)) | (apply bx_build1 et68; (· exact rfl); (· exact rfl); (· exact rfl); (· exact rfl); (· exact rfl); (· decide); (· assumption); intro bn H1 hB) | (apply op_append_s; (· exact rfl); (· exact rfl); (· exact rfl); (· exact rfl); (· exact et68); (· exact o3); (· assumption); (· (repeat (first | with_reducible exact hc3 | with_reducible exact Ctx.here | with_reducible apply Ctx.cons | with_reducible apply Ctx.app))); (· exact At.here); (· exact rfl); (· exact rfl); (· assumption); intro t3 y3 H1 q3 hB) | (apply op_at; (· exact rfl)) | (apply dwp_cond_f; (· exact rfl); (· (with_reducible first | assumption | rfl | decide))) | apply dwp_skip | apply dwp_ret | (refine ⟨_, rfl, ?_⟩) | fail)
      exact hK t3 y3 _ (by rw [hrows]; exact q3) (hB.sub (by (repeat (first | exact List.Sublist.refl _ | exact List.nil_sublist _ | apply List.Sublist.cons_cons | apply List.Sublist.cons | apply List.Sublist.append_left | refine List.Sublist.trans ?_ (List.sublist_append_right _ _)))))
    · have hc : decide ((n : Int) > 9) = true := by simp; omega
      have hquo : IntKind.u64.wrap ((n : Int).tdiv 10) = ((n / 10 : Nat) : Int) := by rw [Int.tdiv_eq_ediv_of_nonneg (by omega), wrapU (by omega)]; omega
      rw [decN_ge h9] at hK hl
      rw [List.length_append] at hl
      simp only [List.length_cons, List.length_nil] at hl
      have hl1 : l.length + (decN (n / 10)).length ≤ 1000 := by omega
      have hl3 : (rowsB (l ++ decN (n / 10))).length + 1 ≤ mostD := by rw [rowsB_len, List.length_append]; unfold mostD; omega
      have hrows : rowsB (l ++ (decN (n / 10) ++ [UInt8.ofNat (48 + n % 10)])) = rowsB (l ++ decN (n / 10)) ++ [[.int .u8 ((UInt8.ofNat (48 + n % 10)).toNat : Int)]] := by simp [rowsB]
      refine enter rfl Tryd.func72 rfl Tryd.ntmps72 rfl ?_
      dsimp only [List.cons_append, List.nil_append, List.length_cons, List.length_nil, List.replicate_succ, List.replicate_zero, Nat.reduceAdd, Nat.reduceSub]
      repeat' (first | dsimp only [putD, DV.cells, DH.new_next, DH.set_next, List.length_cons, List.length_nil, Nat.reduceAdd, List.set_cons_zero, List.set_cons_succ, getD_zero, getD_succ, fieldAt_zero, fieldAt_succ, thenD, blockD, retR] | apply dwp_seq | apply dwp_region | apply ops_nil | (apply ops_plain; (· exact rfl)) | (apply op_call; (· exact rfl); (· exact rfl); (· exact rfl); (apply ih (n / 10) (by omega) (by omega) l s hl1 o3 (by assumption) hc3; intro s' x' H1 o3 hB; replace hc3 := Ctx.again hc3 x')) | (apply op_at; (· exact opD_rem rfl rfl rfl (by decide) hrem)) | (apply op_at; (· exact opD_quo rfl rfl rfl (by decide) hquo)) | (apply op_told; (· exact rfl); (· exact congrArg (DV.int _) hu1)) | (apply op_told; (· exact rfl); (· exact congrArg (DV.int _) hu2)) | (apply bx_build1 et68; (· exact rfl); (· exact rfl); (· exact rfl); (· exact rfl); (· exact rfl); (· decide); (· assumption); intro bn H1 hB) | (apply op_append_s; (· exact rfl); (· exact rfl); (· exact rfl); (· exact rfl); (· exact et68); (· exact o3); (· assumption); (· (repeat (first | with_reducible exact hc3 | with_reducible exact Ctx.here | with_reducible apply Ctx.cons | with_reducible apply Ctx.app))); (· exact At.here); (· exact rfl); (· exact rfl); (· assumption); intro t3 y3 H1 q3 hB) | (apply op_at; (· exact rfl)) | (apply dwp_cond_t; (· exact rfl); (· (with_reducible first | assumption | rfl | decide))) | apply dwp_ret | (refine ⟨_, rfl, ?_⟩) | fail)
      exact hK t3 y3 _ (by rw [hrows]; exact q3) (hB.sub (by (repeat (first | exact List.Sublist.refl _ | exact List.nil_sublist _ | apply List.Sublist.cons_cons | apply List.Sublist.cons | apply List.Sublist.append_left | refine List.Sublist.trans ?_ (List.sublist_append_right _ _)))))
end
end Go.Det.C

/- A time's text; a token's text. -/
namespace Go.Det.C
open Go Go.Det Go.Proofs
set_option maxRecDepth 4000
set_option maxHeartbeats 4000000
set_option linter.unusedVariables false
set_option linter.unusedSimpArgs false
/-- The greatest unit of which a time is so many. -/
def pickU (n : Nat) : Nat × List UInt8 := if n = 0 then (1, [112, 115]) else if n % 1000000000000 = 0 then (1000000000000, [115]) else if n % 1000000000 = 0 then (1000000000, [109, 115]) else if n % 1000000 = 0 then (1000000, [117, 115]) else if n % 1000 = 0 then (1000, [110, 115]) else (1, [112, 115])
def sgnF (t : Int) : List UInt8 := if t < 0 then [45] else []
def ptextF (t : Int) : List UInt8 := sgnF t ++ decN (t.natAbs / (pickU t.natAbs).1) ++ (pickU t.natAbs).2
theorem up13 : ExtLe X1 X3 := extLe_more (M := []) (T := []) (E := E1) (by decide +kernel)
theorem et112 : ElemT Tryd.prog 112 2 1 8 (.int .i64 0) := ⟨rfl, rfl, rfl, by kernel_rfl, by decide, by decide, rfl, rfl⟩
theorem opD_str_own {P : Program} {cf : CallF} {o : Oper} {env : List DV} {A H : DH} {bs : List (Nat × DObj)} {fs : List (DH → Prop)} {s t e : TypeId} {x : Operand} {v : DV} {l : List UInt8} {bx : List (Nat × DObj)} {F : List (Nat × DObj) → List (Nat × DObj)} (ho : o.op = .convert s t x) (hx : evalO env x = some v) (hs : P.underlying s = some (.slice e)) (ht : P.underlying t = some .string) (he : P.underlying e = some (.int .u8))
    (hown : Own1 1 (rowsB l) v bx) (hB : Bx A H bs fs) (hc : Ctx bx bs F) : opD P cf o env H = some (.str l, H) := by
  obtain ⟨p, c, ex, rfl, hsl⟩ := hown.sl hB hc
  have hm : mover P (.convert s t x) = false := by simp [mover, hs, ht]
  have hr : reader P (.convert s t x) = true := by simp [reader, hs, ht]
  simp only [opD, ho, hm, hr, if_true, readD, hs, ht, hx, he, hsl.rows, bytesOf_rows, Option.map_some, Bool.false_eq_true, if_false]
section
variable {A H : DH} {bs : List (Nat × DObj)} {fs : List (DH → Prop)} {K : DV → DH → Prop}
theorem ptext39 {t : Int} (ht : -1152921504606846977 < t ∧ t < 1152921504606846977) (hB : Bx A H bs fs) (hK : ∀ H', Bx A H' bs fs → K (.tuple [.str (ptextF t), .int .i64 0]) H') : CallWp Tryd.prog X3 39 [.int .i64 t] H K := by
  have ft : Fit t := by unfold Fit; omega
  obtain ⟨n, hn⟩ : ∃ n, t.natAbs = n := ⟨_, rfl⟩
  have hnm : n < 1152921504606846977 := by omega
  obtain ⟨sg, hsg⟩ : ∃ sg, sgnF t = sg := ⟨_, rfl⟩
  have hsl : sg.length ≤ 1 := by rw [← hsg]; unfold sgnF; split <;> simp
  unfold ptextF at hK
  rw [hn, hsg] at hK
  have hr1 : (n : Int).tmod (IntKind.u64.wrap 1000000000000) = ((n % 1000000000000 : Nat) : Int) := by rw [show IntKind.u64.wrap 1000000000000 = 1000000000000 from rfl, Int.tmod_eq_emod_of_nonneg (by omega)]; omega
  have hq1 : IntKind.u64.wrap ((n : Int).tdiv (IntKind.u64.wrap 1000000000000)) = ((n / 1000000000000 : Nat) : Int) := by rw [show IntKind.u64.wrap 1000000000000 = 1000000000000 from rfl, Int.tdiv_eq_ediv_of_nonneg (by omega), wrapU (by omega)]; omega
  have hr2 : (n : Int).tmod (IntKind.u64.wrap 1000000000) = ((n % 1000000000 : Nat) : Int) := by rw [show IntKind.u64.wrap 1000000000 = 1000000000 from rfl, Int.tmod_eq_emod_of_nonneg (by omega)]; omega
  have hq2 : IntKind.u64.wrap ((n : Int).tdiv (IntKind.u64.wrap 1000000000)) = ((n / 1000000000 : Nat) : Int) := by rw [show IntKind.u64.wrap 1000000000 = 1000000000 from rfl, Int.tdiv_eq_ediv_of_nonneg (by omega), wrapU (by omega)]; omega
  have hr3 : (n : Int).tmod (IntKind.u64.wrap 1000000) = ((n % 1000000 : Nat) : Int) := by rw [show IntKind.u64.wrap 1000000 = 1000000 from rfl, Int.tmod_eq_emod_of_nonneg (by omega)]; omega
  have hq3 : IntKind.u64.wrap ((n : Int).tdiv (IntKind.u64.wrap 1000000)) = ((n / 1000000 : Nat) : Int) := by rw [show IntKind.u64.wrap 1000000 = 1000000 from rfl, Int.tdiv_eq_ediv_of_nonneg (by omega), wrapU (by omega)]; omega
  have hr4 : (n : Int).tmod (IntKind.u64.wrap 1000) = ((n % 1000 : Nat) : Int) := by rw [show IntKind.u64.wrap 1000 = 1000 from rfl, Int.tmod_eq_emod_of_nonneg (by omega)]; omega
  have hq4 : IntKind.u64.wrap ((n : Int).tdiv (IntKind.u64.wrap 1000)) = ((n / 1000 : Nat) : Int) := by rw [show IntKind.u64.wrap 1000 = 1000 from rfl, Int.tdiv_eq_ediv_of_nonneg (by omega), wrapU (by omega)]; omega
  have hr5 : (n : Int).tmod (IntKind.u64.wrap 1) = ((n % 1 : Nat) : Int) := by rw [show IntKind.u64.wrap 1 = 1 from rfl, Int.tmod_eq_emod_of_nonneg (by omega)]; omega
  have hq5 : IntKind.u64.wrap ((n : Int).tdiv (IntKind.u64.wrap 1)) = ((n / 1 : Nat) : Int) := by rw [show IntKind.u64.wrap 1 = 1 from rfl, Int.tdiv_eq_ediv_of_nonneg (by omega), wrapU (by omega)]; omega
  have hdl : ∀ m, m ≤ n → (decN m).length ≤ 19 := fun m hm => decN_len 18 m (by omega)
  have hm45 : rowsB [45] = [[DV.int .u8 45]] := rfl
  refine enter rfl Tryd.func39 rfl Tryd.ntmps39 rfl ?_
  dsimp only [List.cons_append, List.nil_append, List.length_cons, List.length_nil, List.replicate_succ, List.replicate_zero, Nat.reduceAdd, Nat.reduceSub]
  repeat' (first | dsimp only [putD, DV.cells, DH.new_next, DH.set_next, List.length_cons, List.length_nil, Nat.reduceAdd, List.set_cons_zero, List.set_cons_succ, getD_zero, getD_succ, fieldAt_zero, fieldAt_succ, thenD, blockD, retR] | (refine dwp_cutCond (t := 13) (fun st => ∃ (s3 : Sv) (x3 : List (Nat × DObj)) (H1 : DH), ∃ J : Nat → DV, (Own1 1 (rowsB sg) s3.dv x3 ∧ Bx A H1 (x3 ++ bs) fs) ∧ st = ⟨(.int .i64 t :: J 1 :: .str [] :: .int .i64 0 :: s3.dv :: J 5 :: J 6 :: J 7 :: J 8 :: J 9 :: J 10 :: J 11 :: J 12 :: J 13 :: J 14 :: J 15 :: J 16 :: J 17 :: J 18 :: J 19 :: J 20 :: J 21 :: J 22 :: J 23 :: J 24 :: J 25 :: J 26 :: J 27 :: J 28 :: J 29 :: J 30 :: J 31 :: J 32 :: J 33 :: J 34 :: J 35 :: J 36 :: J 37 :: J 38 :: J 39 :: J 40 :: J 41 :: J 42 :: J 43 :: J 44 :: J 45 :: J 46 :: J 47 :: J 48 :: J 49 :: []), H1⟩) ?_ ?_) | apply dwp_seq | apply dwp_region | apply ops_nil | (apply ops_plain; (· exact rfl)) | (apply op_call; (· exact rfl); (· exact rfl); (· exact rfl); (refine (CallWp.up up13 (may69x (.one (Bx.get (by assumption) At.here) ft))).mono ?_; rintro r H' ⟨rfl, rfl⟩)) | (apply bx_build1 et112; (· exact rfl); (· exact rfl); (· exact rfl); (· exact rfl); (· exact rfl); (· decide); (· assumption); intro bn H1 hB) | (apply op_at; (· exact rfl)) | (apply dwp_cond_f; (· exact rfl); (· (with_reducible first | assumption | rfl | decide))) | apply dwp_skip | fail)
  · refine ⟨?_⟩
    by_cases hneg : t < 0
    · have hc : decide (t < 0) = true := by simpa using hneg
      have hsg' : sg = [45] := by rw [← hsg]; unfold sgnF; rw [if_pos hneg]
      repeat' (first | dsimp only [putD, DV.cells, DH.new_next, DH.set_next, List.length_cons, List.length_nil, Nat.reduceAdd, List.set_cons_zero, List.set_cons_succ, getD_zero, getD_succ, fieldAt_zero, fieldAt_succ, thenD, blockD, retR] | apply dwp_region | apply ops_nil | (apply ops_plain; (· exact rfl)) | (apply bx_build1 et68; (· exact rfl); (· exact rfl); (· exact rfl); (· exact rfl); (· exact rfl); (· decide); (· assumption); intro bn H1 hB) | (apply op_append_s (R := []) (bx := []) (s := .sl none 0 0 true); (· exact rfl); (· exact rfl); (· exact rfl); (· exact rfl); (· exact et68); (· exact .nil rfl); (· assumption); (· exact Ctx.cons (Ctx.here (bx := []))); (· exact At.here); (· exact rfl); (· exact rfl); (· unfold mostD; decide); intro t3 y3 H1 q3 hB) | (apply op_at; (· exact rfl)) | (apply dwp_cond_t; (· exact rfl); (· (with_reducible first | assumption | rfl | decide))) | fail)
      exact ⟨rfl, t3, y3, _, junk_facts ⟨by rw [hsg', hm45]; exact q3, (hB.sub (by (repeat (first | exact List.Sublist.refl _ | exact List.nil_sublist _ | apply List.Sublist.cons_cons | apply List.Sublist.cons | apply List.Sublist.append_left | refine List.Sublist.trans ?_ (List.sublist_append_right _ _)))))⟩ rfl rfl⟩
    · have hc : decide (t < 0) = false := by simpa using hneg
      have hsg' : sg = [] := by rw [← hsg]; unfold sgnF; rw [if_neg hneg]
      repeat' (first | (apply dwp_cond_f; (· exact rfl); (· (with_reducible first | assumption | rfl | decide))) | apply dwp_skip | fail)
      exact ⟨rfl, ⟨none, 0, 0, true⟩, [], _, junk_facts ⟨by rw [hsg']; exact .nil rfl, (hB.sub (by (repeat (first | exact List.Sublist.refl _ | exact List.nil_sublist _ | apply List.Sublist.cons_cons | apply List.Sublist.cons | apply List.Sublist.append_left | refine List.Sublist.trans ?_ (List.sublist_append_right _ _)))))⟩ rfl rfl⟩
  · rintro st ⟨s3, x3, H1, J, ⟨o3, hB⟩, rfl⟩
    try dsimp only [thenD]
    by_cases hn0 : n = 0
    · have hp0 : decide ((n : Int) > 0) = false := by simp; omega
      have hpk : pickU n = (1, [112, 115]) := by unfold pickU; rw [if_pos hn0]
      rw [hpk] at hK
      have hz1 : (((n % 1000000000000 : Nat) : Int) == 0) = true := by subst hn0; rfl
      have hz2 : (((n % 1000000000 : Nat) : Int) == 0) = true := by subst hn0; rfl
      have hz3 : (((n % 1000000 : Nat) : Int) == 0) = true := by subst hn0; rfl
      have hz4 : (((n % 1000 : Nat) : Int) == 0) = true := by subst hn0; rfl
      have hz5 : (((n % 1 : Nat) : Int) == 0) = true := by subst hn0; rfl
      have hdm : n / 1 < 1152921504606846977 := by omega
      have hdl1 := hdl (n / 1) (by omega)
      have hdl3 : sg.length + (decN (n / 1)).length ≤ 1000 := by omega
      have hadd : (sg ++ decN (n / 1)).length + 2 ≤ 4294967296 := by rw [List.length_append]; omega
      repeat' (first | dsimp only [putD, DV.cells, DH.new_next, DH.set_next, List.length_cons, List.length_nil, Nat.reduceAdd, List.set_cons_zero, List.set_cons_succ, getD_zero, getD_succ, fieldAt_zero, fieldAt_succ, thenD, blockD, retR] | refine dwp_drawt _ rfl (fun H' => Bx A H' [(b1, .rows false 2 [[.str [112, 115], .int .i64 1]])] fs) (hB.sub (by (repeat (first | exact List.Sublist.refl _ | exact List.nil_sublist _ | apply List.Sublist.cons_cons | apply List.Sublist.cons | apply List.Sublist.append_left | refine List.Sublist.trans ?_ (List.sublist_append_right _ _))))) ?_ | apply drawt_nil | (apply drawt_read; (· (first | exact wanted_plain rfl | (apply wanted_on; (· exact rfl); (· exact rfl); (· (with_reducible first | assumption | rfl | decide))))); (· exact rfl); (· exact rfl); (· intro H' h; have h : Bx _ H' _ _ := h; exact opD_load rfl rfl (h.get At.here) rfl rfl); (· intro H' h; have h : Bx _ H' _ _ := (by first | exact h | exact h.1); exact opD_load rfl rfl (h.get At.here) rfl rfl)) | (apply drawt_pure; (· (first | exact wanted_plain rfl | (apply wanted_on; (· exact rfl); (· exact rfl); (· (with_reducible first | assumption | rfl | decide))))); (· exact rfl); (· exact rfl); (· exact opD_quo rfl rfl rfl (by decide) hq5)) | (apply drawt_pure; (· (first | exact wanted_plain rfl | (apply wanted_on; (· exact rfl); (· exact rfl); (· (with_reducible first | assumption | rfl | decide))))); (· exact rfl); (· exact rfl); (· exact opD_strAdd rfl rfl rfl hadd)) | (apply drawt_pure; (· (first | exact wanted_plain rfl | (apply wanted_on; (· exact rfl); (· exact rfl); (· (with_reducible first | assumption | rfl | decide))))); (· exact rfl); (· exact rfl); (· exact rfl)) | (apply drawt_move; (· (first | exact wanted_plain rfl | (apply wanted_on; (· exact rfl); (· exact rfl); (· (with_reducible first | assumption | rfl | decide))))); (· exact rfl); (· exact id)) | (apply drawt_last; (· (first | exact wanted_plain rfl | (apply wanted_on; (· exact rfl); (· exact rfl); (· (with_reducible first | assumption | rfl | decide))))); (· exact rfl); (· exact rfl); (· decide +kernel); (· exact opD_str_own rfl rfl rfl rfl rfl q3 (by assumption) (by (repeat (first | with_reducible exact Ctx.here | with_reducible apply Ctx.cons | with_reducible apply Ctx.app))))) | refine dwp_round ?_ | apply dwp_seq | apply dwp_region | apply ops_nil | (apply ops_plain; (· exact rfl)) | (apply ops_on; (· exact rfl); (· exact rfl); (· (with_reducible first | assumption | rfl | decide))) | (apply op_call; (· exact rfl); (· exact rfl); (· exact rfl); (refine (CallWp.up up13 (size70x ft _)).mono ?_; rintro r H' ⟨rfl, rfl⟩; rw [hn])) | (apply op_call; (· exact rfl); (· exact rfl); (· exact rfl); refine call_table (g := gUnits) rfl rfl ?_) | (apply op_call; (· exact rfl); (· exact rfl); (· exact rfl); (apply digits72 (n / 1) (n / 1) (Nat.le_refl _) hdm sg s3 hdl3 o3; (· assumption); (· (repeat (first | with_reducible exact Ctx.here | with_reducible apply Ctx.cons | with_reducible apply Ctx.app))); intro s' x' H1 q3 hB; refine ⟨(hB.sub (by (repeat (first | exact List.Sublist.refl _ | exact List.nil_sublist _ | apply List.Sublist.cons_cons | apply List.Sublist.cons | apply List.Sublist.append_left | refine List.Sublist.trans ?_ (List.sublist_append_right _ _))))), ?_⟩)) | (apply op_pick_t; (· exact rfl); (· exact rfl); (· (with_reducible first | assumption | rfl | decide)); (· exact rfl)) | (apply op_pick_f; (· exact rfl); (· exact rfl); (· (with_reducible first | assumption | rfl | decide)); (· exact rfl)) | (apply op_at; (· exact opD_rem rfl rfl rfl (by decide) hr1)) | (apply op_at; (· exact opD_rem rfl rfl rfl (by decide) hr2)) | (apply op_at; (· exact opD_rem rfl rfl rfl (by decide) hr3)) | (apply op_at; (· exact opD_rem rfl rfl rfl (by decide) hr4)) | (apply op_at; (· exact opD_rem rfl rfl rfl (by decide) hr5)) | (apply bx_load0; (· exact rfl); (· exact rfl); (· assumption); (· (repeat (first | with_reducible exact At.here | with_reducible apply At.there | with_reducible apply at_app))); (· (first | exact part107 _ _ | exact rfl))) | (apply bx_store0; (· exact rfl); (· exact rfl); (· exact rfl); (· assumption); (· (first | (dsimp only [DV.cells, getD_zero, getD_succ, Sv.cells]; done) | (dsimp only [DV.cells, getD_zero, getD_succ, Sv.cells]; exact rfl) | exact rfl)); (· (repeat (first | with_reducible exact Upd.here | with_reducible apply Upd.there | with_reducible apply upd_app))); (· exact rfl); (· exact rfl); (· exact rfl); (· exact rfl); intro H1 hB) | (apply bx_alloc; (· exact rfl); (· exact zero107); (· (first | (dsimp only [DV.cells, getD_zero, getD_succ, Sv.cells]; done) | (dsimp only [DV.cells, getD_zero, getD_succ, Sv.cells]; exact rfl) | exact rfl)); (· exact rfl); (· exact rfl); (· exact rfl); (· assumption); intro b1 H1 hB) | (apply op_at; (· exact rfl)) | (apply dwp_cond_t; (· exact rfl); (· (with_reducible first | assumption | rfl | decide))) | (apply dwp_cond_f; (· exact rfl); (· (with_reducible first | assumption | rfl | decide))) | apply dwp_block | apply dwp_skip | apply dwp_ret | (refine ⟨_, rfl, ?_⟩) | fail)
      exact hK _ (hB.sub (by (repeat (first | exact List.Sublist.refl _ | exact List.nil_sublist _ | apply List.Sublist.cons_cons | apply List.Sublist.cons | apply List.Sublist.append_left | refine List.Sublist.trans ?_ (List.sublist_append_right _ _)))))
    · have hp0 : decide ((n : Int) > 0) = true := by simp; omega
      by_cases hd1 : n % 1000000000000 = 0
      · have hz1 : (((n % 1000000000000 : Nat) : Int) == 0) = true := by rw [hd1]; rfl
        have hpk : pickU n = (1000000000000, [115]) := by unfold pickU; rw [if_neg hn0, if_pos hd1]
        rw [hpk] at hK
        have hdm : n / 1000000000000 < 1152921504606846977 := by omega
        have hdl1 := hdl (n / 1000000000000) (by omega)
        have hdl3 : sg.length + (decN (n / 1000000000000)).length ≤ 1000 := by omega
        have hadd : (sg ++ decN (n / 1000000000000)).length + 1 ≤ 4294967296 := by rw [List.length_append]; omega
        repeat' (first | dsimp only [putD, DV.cells, DH.new_next, DH.set_next, List.length_cons, List.length_nil, Nat.reduceAdd, List.set_cons_zero, List.set_cons_succ, getD_zero, getD_succ, fieldAt_zero, fieldAt_succ, thenD, blockD, retR] | refine dwp_drawt _ rfl (fun H' => Bx A H' [(b1, .rows false 2 [[.str [115], .int .i64 1000000000000]])] fs) (hB.sub (by (repeat (first | exact List.Sublist.refl _ | exact List.nil_sublist _ | apply List.Sublist.cons_cons | apply List.Sublist.cons | apply List.Sublist.append_left | refine List.Sublist.trans ?_ (List.sublist_append_right _ _))))) ?_ | apply drawt_nil | (apply drawt_read; (· (first | exact wanted_plain rfl | (apply wanted_on; (· exact rfl); (· exact rfl); (· (with_reducible first | assumption | rfl | decide))))); (· exact rfl); (· exact rfl); (· intro H' h; have h : Bx _ H' _ _ := h; exact opD_load rfl rfl (h.get At.here) rfl rfl); (· intro H' h; have h : Bx _ H' _ _ := (by first | exact h | exact h.1); exact opD_load rfl rfl (h.get At.here) rfl rfl)) | (apply drawt_pure; (· (first | exact wanted_plain rfl | (apply wanted_on; (· exact rfl); (· exact rfl); (· (with_reducible first | assumption | rfl | decide))))); (· exact rfl); (· exact rfl); (· exact opD_quo rfl rfl rfl (by decide) hq1)) | (apply drawt_pure; (· (first | exact wanted_plain rfl | (apply wanted_on; (· exact rfl); (· exact rfl); (· (with_reducible first | assumption | rfl | decide))))); (· exact rfl); (· exact rfl); (· exact opD_strAdd rfl rfl rfl hadd)) | (apply drawt_pure; (· (first | exact wanted_plain rfl | (apply wanted_on; (· exact rfl); (· exact rfl); (· (with_reducible first | assumption | rfl | decide))))); (· exact rfl); (· exact rfl); (· exact rfl)) | (apply drawt_move; (· (first | exact wanted_plain rfl | (apply wanted_on; (· exact rfl); (· exact rfl); (· (with_reducible first | assumption | rfl | decide))))); (· exact rfl); (· exact id)) | (apply drawt_last; (· (first | exact wanted_plain rfl | (apply wanted_on; (· exact rfl); (· exact rfl); (· (with_reducible first | assumption | rfl | decide))))); (· exact rfl); (· exact rfl); (· decide +kernel); (· exact opD_str_own rfl rfl rfl rfl rfl q3 (by assumption) (by (repeat (first | with_reducible exact Ctx.here | with_reducible apply Ctx.cons | with_reducible apply Ctx.app))))) | refine dwp_round ?_ | apply dwp_seq | apply dwp_region | apply ops_nil | (apply ops_plain; (· exact rfl)) | (apply ops_on; (· exact rfl); (· exact rfl); (· (with_reducible first | assumption | rfl | decide))) | (apply ops_off0; (· exact rfl); (· exact rfl); (· (with_reducible first | assumption | rfl | decide))) | (apply op_call; (· exact rfl); (· exact rfl); (· exact rfl); (refine (CallWp.up up13 (size70x ft _)).mono ?_; rintro r H' ⟨rfl, rfl⟩; rw [hn])) | (apply op_call; (· exact rfl); (· exact rfl); (· exact rfl); refine call_table (g := gUnits) rfl rfl ?_) | (apply op_call; (· exact rfl); (· exact rfl); (· exact rfl); (apply digits72 (n / 1000000000000) (n / 1000000000000) (Nat.le_refl _) hdm sg s3 hdl3 o3; (· assumption); (· (repeat (first | with_reducible exact Ctx.here | with_reducible apply Ctx.cons | with_reducible apply Ctx.app))); intro s' x' H1 q3 hB; refine ⟨(hB.sub (by (repeat (first | exact List.Sublist.refl _ | exact List.nil_sublist _ | apply List.Sublist.cons_cons | apply List.Sublist.cons | apply List.Sublist.append_left | refine List.Sublist.trans ?_ (List.sublist_append_right _ _))))), ?_⟩)) | (apply op_pick_t; (· exact rfl); (· exact rfl); (· (with_reducible first | assumption | rfl | decide)); (· exact rfl)) | (apply op_at; (· exact opD_rem rfl rfl rfl (by decide) hr1)) | (apply bx_load0; (· exact rfl); (· exact rfl); (· assumption); (· (repeat (first | with_reducible exact At.here | with_reducible apply At.there | with_reducible apply at_app))); (· (first | exact part107 _ _ | exact rfl))) | (apply bx_store0; (· exact rfl); (· exact rfl); (· exact rfl); (· assumption); (· (first | (dsimp only [DV.cells, getD_zero, getD_succ, Sv.cells]; done) | (dsimp only [DV.cells, getD_zero, getD_succ, Sv.cells]; exact rfl) | exact rfl)); (· (repeat (first | with_reducible exact Upd.here | with_reducible apply Upd.there | with_reducible apply upd_app))); (· exact rfl); (· exact rfl); (· exact rfl); (· exact rfl); intro H1 hB) | (apply bx_alloc; (· exact rfl); (· exact zero107); (· (first | (dsimp only [DV.cells, getD_zero, getD_succ, Sv.cells]; done) | (dsimp only [DV.cells, getD_zero, getD_succ, Sv.cells]; exact rfl) | exact rfl)); (· exact rfl); (· exact rfl); (· exact rfl); (· assumption); intro b1 H1 hB) | (apply op_at; (· exact rfl)) | (apply dwp_cond_t; (· exact rfl); (· (with_reducible first | assumption | rfl | decide))) | apply dwp_block | apply dwp_skip | apply dwp_ret | (refine ⟨_, rfl, ?_⟩) | fail)
        exact hK _ (hB.sub (by (repeat (first | exact List.Sublist.refl _ | exact List.nil_sublist _ | apply List.Sublist.cons_cons | apply List.Sublist.cons | apply List.Sublist.append_left | refine List.Sublist.trans ?_ (List.sublist_append_right _ _)))))
      · have hz1 : (((n % 1000000000000 : Nat) : Int) == 0) = false := by simp; omega
        by_cases hd2 : n % 1000000000 = 0
        · have hz2 : (((n % 1000000000 : Nat) : Int) == 0) = true := by rw [hd2]; rfl
          have hpk : pickU n = (1000000000, [109, 115]) := by unfold pickU; rw [if_neg hn0, if_neg hd1, if_pos hd2]
          rw [hpk] at hK
          have hdm : n / 1000000000 < 1152921504606846977 := by omega
          have hdl1 := hdl (n / 1000000000) (by omega)
          have hdl3 : sg.length + (decN (n / 1000000000)).length ≤ 1000 := by omega
          have hadd : (sg ++ decN (n / 1000000000)).length + 2 ≤ 4294967296 := by rw [List.length_append]; omega
          repeat' (first | dsimp only [putD, DV.cells, DH.new_next, DH.set_next, List.length_cons, List.length_nil, Nat.reduceAdd, List.set_cons_zero, List.set_cons_succ, getD_zero, getD_succ, fieldAt_zero, fieldAt_succ, thenD, blockD, retR] | refine dwp_drawt _ rfl (fun H' => Bx A H' [(b1, .rows false 2 [[.str [109, 115], .int .i64 1000000000]])] fs) (hB.sub (by (repeat (first | exact List.Sublist.refl _ | exact List.nil_sublist _ | apply List.Sublist.cons_cons | apply List.Sublist.cons | apply List.Sublist.append_left | refine List.Sublist.trans ?_ (List.sublist_append_right _ _))))) ?_ | apply drawt_nil | (apply drawt_read; (· (first | exact wanted_plain rfl | (apply wanted_on; (· exact rfl); (· exact rfl); (· (with_reducible first | assumption | rfl | decide))))); (· exact rfl); (· exact rfl); (· intro H' h; have h : Bx _ H' _ _ := h; exact opD_load rfl rfl (h.get At.here) rfl rfl); (· intro H' h; have h : Bx _ H' _ _ := (by first | exact h | exact h.1); exact opD_load rfl rfl (h.get At.here) rfl rfl)) | (apply drawt_pure; (· (first | exact wanted_plain rfl | (apply wanted_on; (· exact rfl); (· exact rfl); (· (with_reducible first | assumption | rfl | decide))))); (· exact rfl); (· exact rfl); (· exact opD_quo rfl rfl rfl (by decide) hq2)) | (apply drawt_pure; (· (first | exact wanted_plain rfl | (apply wanted_on; (· exact rfl); (· exact rfl); (· (with_reducible first | assumption | rfl | decide))))); (· exact rfl); (· exact rfl); (· exact opD_strAdd rfl rfl rfl hadd)) | (apply drawt_pure; (· (first | exact wanted_plain rfl | (apply wanted_on; (· exact rfl); (· exact rfl); (· (with_reducible first | assumption | rfl | decide))))); (· exact rfl); (· exact rfl); (· exact rfl)) | (apply drawt_move; (· (first | exact wanted_plain rfl | (apply wanted_on; (· exact rfl); (· exact rfl); (· (with_reducible first | assumption | rfl | decide))))); (· exact rfl); (· exact id)) | (apply drawt_last; (· (first | exact wanted_plain rfl | (apply wanted_on; (· exact rfl); (· exact rfl); (· (with_reducible first | assumption | rfl | decide))))); (· exact rfl); (· exact rfl); (· decide +kernel); (· exact opD_str_own rfl rfl rfl rfl rfl q3 (by assumption) (by (repeat (first | with_reducible exact Ctx.here | with_reducible apply Ctx.cons | with_reducible apply Ctx.app))))) | refine dwp_round ?_ | apply dwp_seq | apply dwp_region | apply ops_nil | (apply ops_plain; (· exact rfl)) | (apply ops_on; (· exact rfl); (· exact rfl); (· (with_reducible first | assumption | rfl | decide))) | (apply ops_off1; (· exact rfl); (· exact rfl); (· (with_reducible first | assumption | rfl | decide))) | (apply ops_off0; (· exact rfl); (· exact rfl); (· (with_reducible first | assumption | rfl | decide))) | (apply ops_offn; (· exact rfl); (· exact rfl)) | (apply op_call; (· exact rfl); (· exact rfl); (· exact rfl); (refine (CallWp.up up13 (size70x ft _)).mono ?_; rintro r H' ⟨rfl, rfl⟩; rw [hn])) | (apply op_call; (· exact rfl); (· exact rfl); (· exact rfl); refine call_table (g := gUnits) rfl rfl ?_) | (apply op_call; (· exact rfl); (· exact rfl); (· exact rfl); (apply digits72 (n / 1000000000) (n / 1000000000) (Nat.le_refl _) hdm sg s3 hdl3 o3; (· assumption); (· (repeat (first | with_reducible exact Ctx.here | with_reducible apply Ctx.cons | with_reducible apply Ctx.app))); intro s' x' H1 q3 hB; refine ⟨(hB.sub (by (repeat (first | exact List.Sublist.refl _ | exact List.nil_sublist _ | apply List.Sublist.cons_cons | apply List.Sublist.cons | apply List.Sublist.append_left | refine List.Sublist.trans ?_ (List.sublist_append_right _ _))))), ?_⟩)) | (apply op_pick_t; (· exact rfl); (· exact rfl); (· (with_reducible first | assumption | rfl | decide)); (· exact rfl)) | (apply op_pick_f; (· exact rfl); (· exact rfl); (· (with_reducible first | assumption | rfl | decide)); (· exact rfl)) | (apply op_at; (· exact opD_rem rfl rfl rfl (by decide) hr1)) | (apply op_at; (· exact opD_rem rfl rfl rfl (by decide) hr2)) | (apply bx_load0; (· exact rfl); (· exact rfl); (· assumption); (· (repeat (first | with_reducible exact At.here | with_reducible apply At.there | with_reducible apply at_app))); (· (first | exact part107 _ _ | exact rfl))) | (apply bx_store0; (· exact rfl); (· exact rfl); (· exact rfl); (· assumption); (· (first | (dsimp only [DV.cells, getD_zero, getD_succ, Sv.cells]; done) | (dsimp only [DV.cells, getD_zero, getD_succ, Sv.cells]; exact rfl) | exact rfl)); (· (repeat (first | with_reducible exact Upd.here | with_reducible apply Upd.there | with_reducible apply upd_app))); (· exact rfl); (· exact rfl); (· exact rfl); (· exact rfl); intro H1 hB) | (apply bx_alloc; (· exact rfl); (· exact zero107); (· (first | (dsimp only [DV.cells, getD_zero, getD_succ, Sv.cells]; done) | (dsimp only [DV.cells, getD_zero, getD_succ, Sv.cells]; exact rfl) | exact rfl)); (· exact rfl); (· exact rfl); (· exact rfl); (· assumption); intro b1 H1 hB) | (apply op_at; (· exact rfl)) | (apply dwp_cond_t; (· exact rfl); (· (with_reducible first | assumption | rfl | decide))) | (apply dwp_cond_f; (· exact rfl); (· (with_reducible first | assumption | rfl | decide))) | apply dwp_block | apply dwp_skip | apply dwp_ret | (refine ⟨_, rfl, ?_⟩) | fail)
          exact hK _ (hB.sub (by (repeat (first | exact List.Sublist.refl _ | exact List.nil_sublist _ | apply List.Sublist.cons_cons | apply List.Sublist.cons | apply List.Sublist.append_left | refine List.Sublist.trans ?_ (List.sublist_append_right _ _)))))
        · have hz2 : (((n % 1000000000 : Nat) : Int) == 0) = false := by simp; omega
          by_cases hd3 : n % 1000000 = 0
          · have hz3 : (((n % 1000000 : Nat) : Int) == 0) = true := by rw [hd3]; rfl
            have hpk : pickU n = (1000000, [117, 115]) := by unfold pickU; rw [if_neg hn0, if_neg hd1, if_neg hd2, if_pos hd3]
            rw [hpk] at hK
            have hdm : n / 1000000 < 1152921504606846977 := by omega
            have hdl1 := hdl (n / 1000000) (by omega)
            have hdl3 : sg.length + (decN (n / 1000000)).length ≤ 1000 := by omega
            have hadd : (sg ++ decN (n / 1000000)).length + 2 ≤ 4294967296 := by rw [List.length_append]; omega
            repeat' (first | dsimp only [putD, DV.cells, DH.new_next, DH.set_next, List.length_cons, List.length_nil, Nat.reduceAdd, List.set_cons_zero, List.set_cons_succ, getD_zero, getD_succ, fieldAt_zero, fieldAt_succ, thenD, blockD, retR] | refine dwp_drawt _ rfl (fun H' => Bx A H' [(b1, .rows false 2 [[.str [117, 115], .int .i64 1000000]])] fs) (hB.sub (by (repeat (first | exact List.Sublist.refl _ | exact List.nil_sublist _ | apply List.Sublist.cons_cons | apply List.Sublist.cons | apply List.Sublist.append_left | refine List.Sublist.trans ?_ (List.sublist_append_right _ _))))) ?_ | apply drawt_nil | (apply drawt_read; (· (first | exact wanted_plain rfl | (apply wanted_on; (· exact rfl); (· exact rfl); (· (with_reducible first | assumption | rfl | decide))))); (· exact rfl); (· exact rfl); (· intro H' h; have h : Bx _ H' _ _ := h; exact opD_load rfl rfl (h.get At.here) rfl rfl); (· intro H' h; have h : Bx _ H' _ _ := (by first | exact h | exact h.1); exact opD_load rfl rfl (h.get At.here) rfl rfl)) | (apply drawt_pure; (· (first | exact wanted_plain rfl | (apply wanted_on; (· exact rfl); (· exact rfl); (· (with_reducible first | assumption | rfl | decide))))); (· exact rfl); (· exact rfl); (· exact opD_quo rfl rfl rfl (by decide) hq3)) | (apply drawt_pure; (· (first | exact wanted_plain rfl | (apply wanted_on; (· exact rfl); (· exact rfl); (· (with_reducible first | assumption | rfl | decide))))); (· exact rfl); (· exact rfl); (· exact opD_strAdd rfl rfl rfl hadd)) | (apply drawt_pure; (· (first | exact wanted_plain rfl | (apply wanted_on; (· exact rfl); (· exact rfl); (· (with_reducible first | assumption | rfl | decide))))); (· exact rfl); (· exact rfl); (· exact rfl)) | (apply drawt_move; (· (first | exact wanted_plain rfl | (apply wanted_on; (· exact rfl); (· exact rfl); (· (with_reducible first | assumption | rfl | decide))))); (· exact rfl); (· exact id)) | (apply drawt_last; (· (first | exact wanted_plain rfl | (apply wanted_on; (· exact rfl); (· exact rfl); (· (with_reducible first | assumption | rfl | decide))))); (· exact rfl); (· exact rfl); (· decide +kernel); (· exact opD_str_own rfl rfl rfl rfl rfl q3 (by assumption) (by (repeat (first | with_reducible exact Ctx.here | with_reducible apply Ctx.cons | with_reducible apply Ctx.app))))) | refine dwp_round ?_ | apply dwp_seq | apply dwp_region | apply ops_nil | (apply ops_plain; (· exact rfl)) | (apply ops_on; (· exact rfl); (· exact rfl); (· (with_reducible first | assumption | rfl | decide))) | (apply ops_off1; (· exact rfl); (· exact rfl); (· (with_reducible first | assumption | rfl | decide))) | (apply ops_off0; (· exact rfl); (· exact rfl); (· (with_reducible first | assumption | rfl | decide))) | (apply ops_offn; (· exact rfl); (· exact rfl)) | (apply op_call; (· exact rfl); (· exact rfl); (· exact rfl); (refine (CallWp.up up13 (size70x ft _)).mono ?_; rintro r H' ⟨rfl, rfl⟩; rw [hn])) | (apply op_call; (· exact rfl); (· exact rfl); (· exact rfl); refine call_table (g := gUnits) rfl rfl ?_) | (apply op_call; (· exact rfl); (· exact rfl); (· exact rfl); (apply digits72 (n / 1000000) (n / 1000000) (Nat.le_refl _) hdm sg s3 hdl3 o3; (· assumption); (· (repeat (first | with_reducible exact Ctx.here | with_reducible apply Ctx.cons | with_reducible apply Ctx.app))); intro s' x' H1 q3 hB; refine ⟨(hB.sub (by (repeat (first | exact List.Sublist.refl _ | exact List.nil_sublist _ | apply List.Sublist.cons_cons | apply List.Sublist.cons | apply List.Sublist.append_left | refine List.Sublist.trans ?_ (List.sublist_append_right _ _))))), ?_⟩)) | (apply op_pick_t; (· exact rfl); (· exact rfl); (· (with_reducible first | assumption | rfl | decide)); (· exact rfl)) | (apply op_pick_f; (· exact rfl); (· exact rfl); (· (with_reducible first | assumption | rfl | decide)); (· exact rfl)) | (apply op_at; (· exact opD_rem rfl rfl rfl (by decide) hr1)) | (apply op_at; (· exact opD_rem rfl rfl rfl (by decide) hr2)) | (apply op_at; (· exact opD_rem rfl rfl rfl (by decide) hr3)) | (apply bx_load0; (· exact rfl); (· exact rfl); (· assumption); (· (repeat (first | with_reducible exact At.here | with_reducible apply At.there | with_reducible apply at_app))); (· (first | exact part107 _ _ | exact rfl))) | (apply bx_store0; (· exact rfl); (· exact rfl); (· exact rfl); (· assumption); (· (first | (dsimp only [DV.cells, getD_zero, getD_succ, Sv.cells]; done) | (dsimp only [DV.cells, getD_zero, getD_succ, Sv.cells]; exact rfl) | exact rfl)); (· (repeat (first | with_reducible exact Upd.here | with_reducible apply Upd.there | with_reducible apply upd_app))); (· exact rfl); (· exact rfl); (· exact rfl); (· exact rfl); intro H1 hB) | (apply bx_alloc; (· exact rfl); (· exact zero107); (· (first | (dsimp only [DV.cells, getD_zero, getD_succ, Sv.cells]; done) | (dsimp only [DV.cells, getD_zero, getD_succ, Sv.cells]; exact rfl) | exact rfl)); (· exact rfl); (· exact rfl); (· exact rfl); (· assumption); intro b1 H1 hB) | (apply op_at; (· exact rfl)) | (apply dwp_cond_t; (· exact rfl); (· (with_reducible first | assumption | rfl | decide))) | (apply dwp_cond_f; (· exact rfl); (· (with_reducible first | assumption | rfl | decide))) | apply dwp_block | apply dwp_skip | apply dwp_ret | (refine ⟨_, rfl, ?_⟩) | fail)
            exact hK _ (hB.sub (by (repeat (first | exact List.Sublist.refl _ | exact List.nil_sublist _ | apply List.Sublist.cons_cons | apply List.Sublist.cons | apply List.Sublist.append_left | refine List.Sublist.trans ?_ (List.sublist_append_right _ _)))))
          · have hz3 : (((n % 1000000 : Nat) : Int) == 0) = false := by simp; omega
            by_cases hd4 : n % 1000 = 0
            · have hz4 : (((n % 1000 : Nat) : Int) == 0) = true := by rw [hd4]; rfl
              have hpk : pickU n = (1000, [110, 115]) := by unfold pickU; rw [if_neg hn0, if_neg hd1, if_neg hd2, if_neg hd3, if_pos hd4]
              rw [hpk] at hK
              have hdm : n / 1000 < 1152921504606846977 := by omega
              have hdl1 := hdl (n / 1000) (by omega)
              have hdl3 : sg.length + (decN (n / 1000)).length ≤ 1000 := by omega
              have hadd : (sg ++ decN (n / 1000)).length + 2 ≤ 4294967296 := by rw [List.length_append]; omega
              repeat' (first | dsimp only [putD, DV.cells, DH.new_next, DH.set_next, List.length_cons, List.length_nil, Nat.reduceAdd, List.set_cons_zero, List.set_cons_succ, getD_zero, getD_succ, fieldAt_zero, fieldAt_succ, thenD, blockD, retR] | refine dwp_drawt _ rfl (fun H' => Bx A H' [(b1, .rows false 2 [[.str [110, 115], .int .i64 1000]])] fs) (hB.sub (by (repeat (first | exact List.Sublist.refl _ | exact List.nil_sublist _ | apply List.Sublist.cons_cons | apply List.Sublist.cons | apply List.Sublist.append_left | refine List.Sublist.trans ?_ (List.sublist_append_right _ _))))) ?_ | apply drawt_nil | (apply drawt_read; (· (first | exact wanted_plain rfl | (apply wanted_on; (· exact rfl); (· exact rfl); (· (with_reducible first | assumption | rfl | decide))))); (· exact rfl); (· exact rfl); (· intro H' h; have h : Bx _ H' _ _ := h; exact opD_load rfl rfl (h.get At.here) rfl rfl); (· intro H' h; have h : Bx _ H' _ _ := (by first | exact h | exact h.1); exact opD_load rfl rfl (h.get At.here) rfl rfl)) | (apply drawt_pure; (· (first | exact wanted_plain rfl | (apply wanted_on; (· exact rfl); (· exact rfl); (· (with_reducible first | assumption | rfl | decide))))); (· exact rfl); (· exact rfl); (· exact opD_quo rfl rfl rfl (by decide) hq4)) | (apply drawt_pure; (· (first | exact wanted_plain rfl | (apply wanted_on; (· exact rfl); (· exact rfl); (· (with_reducible first | assumption | rfl | decide))))); (· exact rfl); (· exact rfl); (· exact opD_strAdd rfl rfl rfl hadd)) | (apply drawt_pure; (· (first | exact wanted_plain rfl | (apply wanted_on; (· exact rfl); (· exact rfl); (· (with_reducible first | assumption | rfl | decide))))); (· exact rfl); (· exact rfl); (· exact rfl)) | (apply drawt_move; (· (first | exact wanted_plain rfl | (apply wanted_on; (· exact rfl); (· exact rfl); (· (with_reducible first | assumption | rfl | decide))))); (· exact rfl); (· exact id)) | (apply drawt_last; (· (first | exact wanted_plain rfl | (apply wanted_on; (· exact rfl); (· exact rfl); (· (with_reducible first | assumption | rfl | decide))))); (· exact rfl); (· exact rfl); (· decide +kernel); (· exact opD_str_own rfl rfl rfl rfl rfl q3 (by assumption) (by (repeat (first | with_reducible exact Ctx.here | with_reducible apply Ctx.cons | with_reducible apply Ctx.app))))) | refine dwp_round ?_ | apply dwp_seq | apply dwp_region | apply ops_nil | (apply ops_plain; (· exact rfl)) | (apply ops_on; (· exact rfl); (· exact rfl); (· (with_reducible first | assumption | rfl | decide))) | (apply ops_off1; (· exact rfl); (· exact rfl); (· (with_reducible first | assumption | rfl | decide))) | (apply ops_off0; (· exact rfl); (· exact rfl); (· (with_reducible first | assumption | rfl | decide))) | (apply ops_offn; (· exact rfl); (· exact rfl)) | (apply op_call; (· exact rfl); (· exact rfl); (· exact rfl); (refine (CallWp.up up13 (size70x ft _)).mono ?_; rintro r H' ⟨rfl, rfl⟩; rw [hn])) | (apply op_call; (· exact rfl); (· exact rfl); (· exact rfl); refine call_table (g := gUnits) rfl rfl ?_) | (apply op_call; (· exact rfl); (· exact rfl); (· exact rfl); (apply digits72 (n / 1000) (n / 1000) (Nat.le_refl _) hdm sg s3 hdl3 o3; (· assumption); (· (repeat (first | with_reducible exact Ctx.here | with_reducible apply Ctx.cons | with_reducible apply Ctx.app))); intro s' x' H1 q3 hB; refine ⟨(hB.sub (by (repeat (first | exact List.Sublist.refl _ | exact List.nil_sublist _ | apply List.Sublist.cons_cons | apply List.Sublist.cons | apply List.Sublist.append_left | refine List.Sublist.trans ?_ (List.sublist_append_right _ _))))), ?_⟩)) | (apply op_pick_t; (· exact rfl); (· exact rfl); (· (with_reducible first | assumption | rfl | decide)); (· exact rfl)) | (apply op_pick_f; (· exact rfl); (· exact rfl); (· (with_reducible first | assumption | rfl | decide)); (· exact rfl)) | (apply op_at; (· exact opD_rem rfl rfl rfl (by decide) hr1)) | (apply op_at; (· exact opD_rem rfl rfl rfl (by decide) hr2)) | (apply op_at; (· exact opD_rem rfl rfl rfl (by decide) hr3)) | (apply op_at; (· exact opD_rem rfl rfl rfl (by decide) hr4)) | (apply bx_load0; (· exact rfl); (· exact rfl); (· assumption); (· (repeat (first | with_reducible exact At.here | with_reducible apply At.there | with_reducible apply at_app))); (· (first | exact part107 _ _ | exact rfl))) | (apply bx_store0; (· exact rfl); (· exact rfl); (· exact rfl); (· assumption); (· (first | (dsimp only [DV.cells, getD_zero, getD_succ, Sv.cells]; done) | (dsimp only [DV.cells, getD_zero, getD_succ, Sv.cells]; exact rfl) | exact rfl)); (· (repeat (first | with_reducible exact Upd.here | with_reducible apply Upd.there | with_reducible apply upd_app))); (· exact rfl); (· exact rfl); (· exact rfl); (· exact rfl); intro H1 hB) | (apply bx_alloc; (· exact rfl); (· exact zero107); (· (first | (dsimp only [DV.cells, getD_zero, getD_succ, Sv.cells]; done) | (dsimp only [DV.cells, getD_zero, getD_succ, Sv.cells]; exact rfl) | exact rfl)); (· exact rfl); (· exact rfl); (· exact rfl); (· assumption); intro b1 H1 hB) | (apply op_at; (· exact rfl)) | (apply dwp_cond_t; (· exact rfl); (· (with_reducible first | assumption | rfl | decide))) | (apply dwp_cond_f; (· exact rfl); (· (with_reducible first | assumption | rfl | decide))) | apply dwp_block | apply dwp_skip | apply dwp_ret | (refine ⟨_, rfl, ?_⟩) | fail)
              exact hK _ (hB.sub (by (repeat (first | exact List.Sublist.refl _ | exact List.nil_sublist _ | apply List.Sublist.cons_cons | apply List.Sublist.cons | apply List.Sublist.append_left | refine List.Sublist.trans ?_ (List.sublist_append_right _ _)))))
            · have hz4 : (((n % 1000 : Nat) : Int) == 0) = false := by simp; omega
              have hz5 : (((n % 1 : Nat) : Int) == 0) = true := by rw [Nat.mod_one]; rfl
              have hpk : pickU n = (1, [112, 115]) := by unfold pickU; rw [if_neg hn0, if_neg hd1, if_neg hd2, if_neg hd3, if_neg hd4]
              rw [hpk] at hK
              have hdm : n / 1 < 1152921504606846977 := by omega
              have hdl1 := hdl (n / 1) (by omega)
              have hdl3 : sg.length + (decN (n / 1)).length ≤ 1000 := by omega
              have hadd : (sg ++ decN (n / 1)).length + 2 ≤ 4294967296 := by rw [List.length_append]; omega
              repeat' (first | dsimp only [putD, DV.cells, DH.new_next, DH.set_next, List.length_cons, List.length_nil, Nat.reduceAdd, List.set_cons_zero, List.set_cons_succ, getD_zero, getD_succ, fieldAt_zero, fieldAt_succ, thenD, blockD, retR] | refine dwp_drawt _ rfl (fun H' => Bx A H' [(b1, .rows false 2 [[.str [112, 115], .int .i64 1]])] fs) (hB.sub (by (repeat (first | exact List.Sublist.refl _ | exact List.nil_sublist _ | apply List.Sublist.cons_cons | apply List.Sublist.cons | apply List.Sublist.append_left | refine List.Sublist.trans ?_ (List.sublist_append_right _ _))))) ?_ | apply drawt_nil | (apply drawt_read; (· (first | exact wanted_plain rfl | (apply wanted_on; (· exact rfl); (· exact rfl); (· (with_reducible first | assumption | rfl | decide))))); (· exact rfl); (· exact rfl); (· intro H' h; have h : Bx _ H' _ _ := h; exact opD_load rfl rfl (h.get At.here) rfl rfl); (· intro H' h; have h : Bx _ H' _ _ := (by first | exact h | exact h.1); exact opD_load rfl rfl (h.get At.here) rfl rfl)) | (apply drawt_pure; (· (first | exact wanted_plain rfl | (apply wanted_on; (· exact rfl); (· exact rfl); (· (with_reducible first | assumption | rfl | decide))))); (· exact rfl); (· exact rfl); (· exact opD_quo rfl rfl rfl (by decide) hq5)) | (apply drawt_pure; (· (first | exact wanted_plain rfl | (apply wanted_on; (· exact rfl); (· exact rfl); (· (with_reducible first | assumption | rfl | decide))))); (· exact rfl); (· exact rfl); (· exact opD_strAdd rfl rfl rfl hadd)) | (apply drawt_pure; (· (first | exact wanted_plain rfl | (apply wanted_on; (· exact rfl); (· exact rfl); (· (with_reducible first | assumption | rfl | decide))))); (· exact rfl); (· exact rfl); (· exact rfl)) | (apply drawt_move; (· (first | exact wanted_plain rfl | (apply wanted_on; (· exact rfl); (· exact rfl); (· (with_reducible first | assumption | rfl | decide))))); (· exact rfl); (· exact id)) | (apply drawt_last; (· (first | exact wanted_plain rfl | (apply wanted_on; (· exact rfl); (· exact rfl); (· (with_reducible first | assumption | rfl | decide))))); (· exact rfl); (· exact rfl); (· decide +kernel); (· exact opD_str_own rfl rfl rfl rfl rfl q3 (by assumption) (by (repeat (first | with_reducible exact Ctx.here | with_reducible apply Ctx.cons | with_reducible apply Ctx.app))))) | refine dwp_round ?_ | apply dwp_seq | apply dwp_region | apply ops_nil | (apply ops_plain; (· exact rfl)) | (apply ops_on; (· exact rfl); (· exact rfl); (· (with_reducible first | assumption | rfl | decide))) | (apply ops_off1; (· exact rfl); (· exact rfl); (· (with_reducible first | assumption | rfl | decide))) | (apply ops_off0; (· exact rfl); (· exact rfl); (· (with_reducible first | assumption | rfl | decide))) | (apply ops_offn; (· exact rfl); (· exact rfl)) | (apply op_call; (· exact rfl); (· exact rfl); (· exact rfl); (refine (CallWp.up up13 (size70x ft _)).mono ?_; rintro r H' ⟨rfl, rfl⟩; rw [hn])) | (apply op_call; (· exact rfl); (· exact rfl); (· exact rfl); refine call_table (g := gUnits) rfl rfl ?_) | (apply op_call; (· exact rfl); (· exact rfl); (· exact rfl); (apply digits72 (n / 1) (n / 1) (Nat.le_refl _) hdm sg s3 hdl3 o3; (· assumption); (· (repeat (first | with_reducible exact Ctx.here | with_reducible apply Ctx.cons | with_reducible apply Ctx.app))); intro s' x' H1 q3 hB; refine ⟨(hB.sub (by (repeat (first | exact List.Sublist.refl _ | exact List.nil_sublist _ | apply List.Sublist.cons_cons | apply List.Sublist.cons | apply List.Sublist.append_left | refine List.Sublist.trans ?_ (List.sublist_append_right _ _))))), ?_⟩)) | (apply op_pick_t; (· exact rfl); (· exact rfl); (· (with_reducible first | assumption | rfl | decide)); (· exact rfl)) | (apply op_pick_f; (· exact rfl); (· exact rfl); (· (with_reducible first | assumption | rfl | decide)); (· exact rfl)) | (apply op_at; (· exact opD_rem rfl rfl rfl (by decide) hr1)) | (apply op_at; (· exact opD_rem rfl rfl rfl (by decide) hr2)) | (apply op_at; (· exact opD_rem rfl rfl rfl (by decide) hr3)) | (apply op_at; (· exact opD_rem rfl rfl rfl (by decide) hr4)) | (apply op_at; (· exact opD_rem rfl rfl rfl (by decide) hr5)) | (apply bx_load0; (· exact rfl); (· exact rfl); (· assumption); (· (repeat (first | with_reducible exact At.here | with_reducible apply At.there | with_reducible apply at_app))); (· (first | exact part107 _ _ | exact rfl))) | (apply bx_store0; (· exact rfl); (· exact rfl); (· exact rfl); (· assumption); (· (first | (dsimp only [DV.cells, getD_zero, getD_succ, Sv.cells]; done) | (dsimp only [DV.cells, getD_zero, getD_succ, Sv.cells]; exact rfl) | exact rfl)); (· (repeat (first | with_reducible exact Upd.here | with_reducible apply Upd.there | with_reducible apply upd_app))); (· exact rfl); (· exact rfl); (· exact rfl); (· exact rfl); intro H1 hB) | (apply bx_alloc; (· exact rfl); (· exact zero107); (· (first | (dsimp only [DV.cells, getD_zero, getD_succ, Sv.cells]; done) | (dsimp only [DV.cells, getD_zero, getD_succ, Sv.cells]; exact rfl) | exact rfl)); (· exact rfl); (· exact rfl); (· exact rfl); (· assumption); intro b1 H1 hB) | (apply op_at; (· exact rfl)) | (apply dwp_cond_t; (· exact rfl); (· (with_reducible first | assumption | rfl | decide))) | (apply dwp_cond_f; (· exact rfl); (· (with_reducible first | assumption | rfl | decide))) | apply dwp_block | apply dwp_skip | apply dwp_ret | (refine ⟨_, rfl, ?_⟩) | fail)
              exact hK _ (hB.sub (by (repeat (first | exact List.Sublist.refl _ | exact List.nil_sublist _ | apply List.Sublist.cons_cons | apply List.Sublist.cons | apply List.Sublist.append_left | refine List.Sublist.trans ?_ (List.sublist_append_right _ _)))))
end
end Go.Det.C

/- Injections, events, and what came of them. -/
namespace Go.Det.C
open Go Go.Det Go.Proofs
set_option maxRecDepth 4000
set_option maxHeartbeats 4000000
set_option linter.unusedVariables false
set_option linter.unusedSimpArgs false
structure Inj where
  t : Int
  k : Int
  w : Int
  u : Int
  deriving DecidableEq
abbrev Inj.row (x : Inj) : List DV := [.int .i64 x.t, .int .i64 x.k, .int .i64 x.w, .int .i64 x.u]
structure Ev where
  t : Int
  k : Int
  w : Int
  a : Int
  b : Int
  deriving DecidableEq
abbrev Ev.row (y : Ev) : List DV := [.int .i64 y.t, .int .i64 y.k, .int .i64 y.w, .int .i64 y.a, .int .i64 y.b]
structure Fire where
  x : Inj
  fired : Bool
  det : Bool
  at' : Int
  deriving DecidableEq
abbrev Fire.row (f : Fire) : List DV := [.int .i64 f.x.t, .int .i64 f.x.k, .int .i64 f.x.w, .int .i64 f.x.u, .bool f.fired, .bool f.det, .int .i64 f.at']
theorem partInj (a b c d : DV) : partD Tryd.prog 30 [a, b, c, d] 0 = some (.agg [a, b, c, d]) := rfl
theorem partEv (a b c d e : DV) : partD Tryd.prog 34 [a, b, c, d, e] 0 = some (.agg [a, b, c, d, e]) := rfl
/-- Does an event notice an injection? -/
def noticesF (x : Inj) (y : Ev) : Bool :=
  if x.k = 3 then (y.k == 12) && ((y.a == x.w) && (y.b == 2))
  else if x.k = 1 ∨ x.k = 2 ∨ x.k = 4 ∨ x.k = 5 then (if y.k = 4 ∨ y.k = 5 ∨ y.k = 13 then (y.b == x.w) && (y.w != x.w) else false)
  else false
theorem notices14 (x : Inj) (y : Ev) (H : DH) : CallWp Tryd.prog X3 14 [.agg x.row, .agg y.row] H (fun r H' => r = .bool (noticesF x y) ∧ Above H H') := by
  have hB : Bx H H [] [] := Bx.init (fun f hf => by cases hf)
  obtain ⟨xt, xk, xw, xu⟩ := x
  obtain ⟨yt, yk, yw, ya, yb⟩ := y
  unfold noticesF
  simp only
  cases h3 : (xk == 3) with
  | true =>
    rw [if_pos (by simpa using h3)]
    cases h12 : (yk == 12) with
    | true =>
      cases hw : (ya == xw) with
      | true =>
        refine enter rfl Tryd.func14 rfl Tryd.ntmps14 rfl ?_
        dsimp only [List.cons_append, List.nil_append, List.length_cons, List.length_nil, List.replicate_succ, List.replicate_zero, Nat.reduceAdd, Nat.reduceSub]
        repeat' (first | dsimp only [putD, DV.cells, DH.new_next, DH.set_next, List.length_cons, List.length_nil, Nat.reduceAdd, List.set_cons_zero, List.set_cons_succ, getD_zero, getD_succ, fieldAt_zero, fieldAt_succ, thenD, blockD, retR] | apply dwp_seq | apply dwp_region | apply ops_nil | (apply ops_plain; (· exact rfl)) | (apply ops_on; (· exact rfl); (· exact rfl); (· (with_reducible first | assumption | rfl | decide))) | (apply op_pick_t; (· exact rfl); (· exact rfl); (· (with_reducible first | assumption | rfl | decide)); (· exact rfl)) | (apply bx_load0; (· exact rfl); (· exact rfl); (· assumption); (· (repeat (first | with_reducible exact At.here | with_reducible apply At.there | with_reducible apply at_app))); (· (first | exact partInj _ _ _ _ | exact partEv _ _ _ _ _ | exact rfl))) | (apply bx_box; (· exact rfl); (· exact rfl); (· (first | (dsimp only [DV.cells, getD_zero, getD_succ, Sv.cells]; done) | (dsimp only [DV.cells, getD_zero, getD_succ, Sv.cells]; exact rfl) | exact rfl)); (· exact rfl); (· exact rfl); (· assumption); intro b1 H1 hB) | (apply op_at; (· exact rfl)) | (apply dwp_cond_t; (· exact rfl); (· (with_reducible first | assumption | rfl | decide))) | apply dwp_block | apply dwp_ret | (refine ⟨_, rfl, ?_⟩) | fail)
        exact ⟨rfl, hB.ab⟩
      | false =>
        refine enter rfl Tryd.func14 rfl Tryd.ntmps14 rfl ?_
        dsimp only [List.cons_append, List.nil_append, List.length_cons, List.length_nil, List.replicate_succ, List.replicate_zero, Nat.reduceAdd, Nat.reduceSub]
        repeat' (first | dsimp only [putD, DV.cells, DH.new_next, DH.set_next, List.length_cons, List.length_nil, Nat.reduceAdd, List.set_cons_zero, List.set_cons_succ, getD_zero, getD_succ, fieldAt_zero, fieldAt_succ, thenD, blockD, retR] | apply dwp_seq | apply dwp_region | apply ops_nil | (apply ops_plain; (· exact rfl)) | (apply ops_on; (· exact rfl); (· exact rfl); (· (with_reducible first | assumption | rfl | decide))) | (apply ops_off1; (· exact rfl); (· exact rfl); (· (with_reducible first | assumption | rfl | decide))) | (apply op_pick_t; (· exact rfl); (· exact rfl); (· (with_reducible first | assumption | rfl | decide)); (· exact rfl)) | (apply op_pick_f; (· exact rfl); (· exact rfl); (· (with_reducible first | assumption | rfl | decide)); (· exact rfl)) | (apply bx_load0; (· exact rfl); (· exact rfl); (· assumption); (· (repeat (first | with_reducible exact At.here | with_reducible apply At.there | with_reducible apply at_app))); (· (first | exact partInj _ _ _ _ | exact partEv _ _ _ _ _ | exact rfl))) | (apply bx_box; (· exact rfl); (· exact rfl); (· (first | (dsimp only [DV.cells, getD_zero, getD_succ, Sv.cells]; done) | (dsimp only [DV.cells, getD_zero, getD_succ, Sv.cells]; exact rfl) | exact rfl)); (· exact rfl); (· exact rfl); (· assumption); intro b1 H1 hB) | (apply op_at; (· exact rfl)) | (apply dwp_cond_t; (· exact rfl); (· (with_reducible first | assumption | rfl | decide))) | apply dwp_block | apply dwp_ret | (refine ⟨_, rfl, ?_⟩) | fail)
        exact ⟨rfl, hB.ab⟩
    | false =>
      refine enter rfl Tryd.func14 rfl Tryd.ntmps14 rfl ?_
      dsimp only [List.cons_append, List.nil_append, List.length_cons, List.length_nil, List.replicate_succ, List.replicate_zero, Nat.reduceAdd, Nat.reduceSub]
      repeat' (first | dsimp only [putD, DV.cells, DH.new_next, DH.set_next, List.length_cons, List.length_nil, Nat.reduceAdd, List.set_cons_zero, List.set_cons_succ, getD_zero, getD_succ, fieldAt_zero, fieldAt_succ, thenD, blockD, retR] | apply dwp_seq | apply dwp_region | apply ops_nil | (apply ops_plain; (· exact rfl)) | (apply ops_off1; (· exact rfl); (· exact rfl); (· (with_reducible first | assumption | rfl | decide))) | (apply op_pick_f; (· exact rfl); (· exact rfl); (· (with_reducible first | assumption | rfl | decide)); (· exact rfl)) | (apply bx_load0; (· exact rfl); (· exact rfl); (· assumption); (· (repeat (first | with_reducible exact At.here | with_reducible apply At.there | with_reducible apply at_app))); (· (first | exact partInj _ _ _ _ | exact partEv _ _ _ _ _ | exact rfl))) | (apply bx_box; (· exact rfl); (· exact rfl); (· (first | (dsimp only [DV.cells, getD_zero, getD_succ, Sv.cells]; done) | (dsimp only [DV.cells, getD_zero, getD_succ, Sv.cells]; exact rfl) | exact rfl)); (· exact rfl); (· exact rfl); (· assumption); intro b1 H1 hB) | (apply op_at; (· exact rfl)) | (apply dwp_cond_t; (· exact rfl); (· (with_reducible first | assumption | rfl | decide))) | apply dwp_block | apply dwp_ret | (refine ⟨_, rfl, ?_⟩) | fail)
      exact ⟨rfl, hB.ab⟩
  | false =>
    have h3' : xk ≠ 3 := by simpa using h3
    rw [if_neg h3']
    cases hk1 : (xk == 1) with
    | true =>
      rw [if_pos (by have : xk = 1 := by simpa using hk1
                     omega)]
      cases hy4 : (yk == 4) with
      | true =>
        rw [if_pos (by have : yk = 4 := by simpa using hy4
                       omega)]
        cases hb : (yb == xw) with
        | true =>
          refine enter rfl Tryd.func14 rfl Tryd.ntmps14 rfl ?_
          dsimp only [List.cons_append, List.nil_append, List.length_cons, List.length_nil, List.replicate_succ, List.replicate_zero, Nat.reduceAdd, Nat.reduceSub]
          repeat' (first | dsimp only [putD, DV.cells, DH.new_next, DH.set_next, List.length_cons, List.length_nil, Nat.reduceAdd, List.set_cons_zero, List.set_cons_succ, getD_zero, getD_succ, fieldAt_zero, fieldAt_succ, thenD, blockD, retR] | apply dwp_seq | apply dwp_region | apply ops_nil | (apply ops_plain; (· exact rfl)) | (apply ops_on; (· exact rfl); (· exact rfl); (· (with_reducible first | assumption | rfl | decide))) | (apply op_pick_t; (· exact rfl); (· exact rfl); (· (with_reducible first | assumption | rfl | decide)); (· exact rfl)) | (apply bx_load0; (· exact rfl); (· exact rfl); (· assumption); (· (repeat (first | with_reducible exact At.here | with_reducible apply At.there | with_reducible apply at_app))); (· (first | exact partInj _ _ _ _ | exact partEv _ _ _ _ _ | exact rfl))) | (apply bx_box; (· exact rfl); (· exact rfl); (· (first | (dsimp only [DV.cells, getD_zero, getD_succ, Sv.cells]; done) | (dsimp only [DV.cells, getD_zero, getD_succ, Sv.cells]; exact rfl) | exact rfl)); (· exact rfl); (· exact rfl); (· assumption); intro b1 H1 hB) | (apply op_at; (· exact rfl)) | (apply dwp_cond_t; (· exact rfl); (· (with_reducible first | assumption | rfl | decide))) | (apply dwp_cond_f; (· exact rfl); (· (with_reducible first | assumption | rfl | decide))) | apply dwp_block | apply dwp_skip | apply dwp_ret | (refine ⟨_, rfl, ?_⟩) | fail)
          exact ⟨rfl, hB.ab⟩
        | false =>
          refine enter rfl Tryd.func14 rfl Tryd.ntmps14 rfl ?_
          dsimp only [List.cons_append, List.nil_append, List.length_cons, List.length_nil, List.replicate_succ, List.replicate_zero, Nat.reduceAdd, Nat.reduceSub]
          repeat' (first | dsimp only [putD, DV.cells, DH.new_next, DH.set_next, List.length_cons, List.length_nil, Nat.reduceAdd, List.set_cons_zero, List.set_cons_succ, getD_zero, getD_succ, fieldAt_zero, fieldAt_succ, thenD, blockD, retR] | apply dwp_seq | apply dwp_region | apply ops_nil | (apply ops_plain; (· exact rfl)) | (apply ops_off1; (· exact rfl); (· exact rfl); (· (with_reducible first | assumption | rfl | decide))) | (apply op_pick_f; (· exact rfl); (· exact rfl); (· (with_reducible first | assumption | rfl | decide)); (· exact rfl)) | (apply bx_load0; (· exact rfl); (· exact rfl); (· assumption); (· (repeat (first | with_reducible exact At.here | with_reducible apply At.there | with_reducible apply at_app))); (· (first | exact partInj _ _ _ _ | exact partEv _ _ _ _ _ | exact rfl))) | (apply bx_box; (· exact rfl); (· exact rfl); (· (first | (dsimp only [DV.cells, getD_zero, getD_succ, Sv.cells]; done) | (dsimp only [DV.cells, getD_zero, getD_succ, Sv.cells]; exact rfl) | exact rfl)); (· exact rfl); (· exact rfl); (· assumption); intro b1 H1 hB) | (apply op_at; (· exact rfl)) | (apply dwp_cond_t; (· exact rfl); (· (with_reducible first | assumption | rfl | decide))) | (apply dwp_cond_f; (· exact rfl); (· (with_reducible first | assumption | rfl | decide))) | apply dwp_block | apply dwp_skip | apply dwp_ret | (refine ⟨_, rfl, ?_⟩) | fail)
          exact ⟨rfl, hB.ab⟩
      | false =>
        cases hy5 : (yk == 5) with
        | true =>
          rw [if_pos (by have : yk = 5 := by simpa using hy5
                         omega)]
          cases hb : (yb == xw) with
          | true =>
            refine enter rfl Tryd.func14 rfl Tryd.ntmps14 rfl ?_
            dsimp only [List.cons_append, List.nil_append, List.length_cons, List.length_nil, List.replicate_succ, List.replicate_zero, Nat.reduceAdd, Nat.reduceSub]
            repeat' (first | dsimp only [putD, DV.cells, DH.new_next, DH.set_next, List.length_cons, List.length_nil, Nat.reduceAdd, List.set_cons_zero, List.set_cons_succ, getD_zero, getD_succ, fieldAt_zero, fieldAt_succ, thenD, blockD, retR] | apply dwp_seq | apply dwp_region | apply ops_nil | (apply ops_plain; (· exact rfl)) | (apply ops_on; (· exact rfl); (· exact rfl); (· (with_reducible first | assumption | rfl | decide))) | (apply op_pick_t; (· exact rfl); (· exact rfl); (· (with_reducible first | assumption | rfl | decide)); (· exact rfl)) | (apply bx_load0; (· exact rfl); (· exact rfl); (· assumption); (· (repeat (first | with_reducible exact At.here | with_reducible apply At.there | with_reducible apply at_app))); (· (first | exact partInj _ _ _ _ | exact partEv _ _ _ _ _ | exact rfl))) | (apply bx_box; (· exact rfl); (· exact rfl); (· (first | (dsimp only [DV.cells, getD_zero, getD_succ, Sv.cells]; done) | (dsimp only [DV.cells, getD_zero, getD_succ, Sv.cells]; exact rfl) | exact rfl)); (· exact rfl); (· exact rfl); (· assumption); intro b1 H1 hB) | (apply op_at; (· exact rfl)) | (apply dwp_cond_t; (· exact rfl); (· (with_reducible first | assumption | rfl | decide))) | (apply dwp_cond_f; (· exact rfl); (· (with_reducible first | assumption | rfl | decide))) | apply dwp_block | apply dwp_skip | apply dwp_ret | (refine ⟨_, rfl, ?_⟩) | fail)
            exact ⟨rfl, hB.ab⟩
          | false =>
            refine enter rfl Tryd.func14 rfl Tryd.ntmps14 rfl ?_
            dsimp only [List.cons_append, List.nil_append, List.length_cons, List.length_nil, List.replicate_succ, List.replicate_zero, Nat.reduceAdd, Nat.reduceSub]
            repeat' (first | dsimp only [putD, DV.cells, DH.new_next, DH.set_next, List.length_cons, List.length_nil, Nat.reduceAdd, List.set_cons_zero, List.set_cons_succ, getD_zero, getD_succ, fieldAt_zero, fieldAt_succ, thenD, blockD, retR] | apply dwp_seq | apply dwp_region | apply ops_nil | (apply ops_plain; (· exact rfl)) | (apply ops_off1; (· exact rfl); (· exact rfl); (· (with_reducible first | assumption | rfl | decide))) | (apply op_pick_f; (· exact rfl); (· exact rfl); (· (with_reducible first | assumption | rfl | decide)); (· exact rfl)) | (apply bx_load0; (· exact rfl); (· exact rfl); (· assumption); (· (repeat (first | with_reducible exact At.here | with_reducible apply At.there | with_reducible apply at_app))); (· (first | exact partInj _ _ _ _ | exact partEv _ _ _ _ _ | exact rfl))) | (apply bx_box; (· exact rfl); (· exact rfl); (· (first | (dsimp only [DV.cells, getD_zero, getD_succ, Sv.cells]; done) | (dsimp only [DV.cells, getD_zero, getD_succ, Sv.cells]; exact rfl) | exact rfl)); (· exact rfl); (· exact rfl); (· assumption); intro b1 H1 hB) | (apply op_at; (· exact rfl)) | (apply dwp_cond_t; (· exact rfl); (· (with_reducible first | assumption | rfl | decide))) | (apply dwp_cond_f; (· exact rfl); (· (with_reducible first | assumption | rfl | decide))) | apply dwp_block | apply dwp_skip | apply dwp_ret | (refine ⟨_, rfl, ?_⟩) | fail)
            exact ⟨rfl, hB.ab⟩
        | false =>
          cases hy13 : (yk == 13) with
          | true =>
            rw [if_pos (by have : yk = 13 := by simpa using hy13
                           omega)]
            cases hb : (yb == xw) with
            | true =>
              refine enter rfl Tryd.func14 rfl Tryd.ntmps14 rfl ?_
              dsimp only [List.cons_append, List.nil_append, List.length_cons, List.length_nil, List.replicate_succ, List.replicate_zero, Nat.reduceAdd, Nat.reduceSub]
              repeat' (first | dsimp only [putD, DV.cells, DH.new_next, DH.set_next, List.length_cons, List.length_nil, Nat.reduceAdd, List.set_cons_zero, List.set_cons_succ, getD_zero, getD_succ, fieldAt_zero, fieldAt_succ, thenD, blockD, retR] | apply dwp_seq | apply dwp_region | apply ops_nil | (apply ops_plain; (· exact rfl)) | (apply ops_on; (· exact rfl); (· exact rfl); (· (with_reducible first | assumption | rfl | decide))) | (apply op_pick_t; (· exact rfl); (· exact rfl); (· (with_reducible first | assumption | rfl | decide)); (· exact rfl)) | (apply bx_load0; (· exact rfl); (· exact rfl); (· assumption); (· (repeat (first | with_reducible exact At.here | with_reducible apply At.there | with_reducible apply at_app))); (· (first | exact partInj _ _ _ _ | exact partEv _ _ _ _ _ | exact rfl))) | (apply bx_box; (· exact rfl); (· exact rfl); (· (first | (dsimp only [DV.cells, getD_zero, getD_succ, Sv.cells]; done) | (dsimp only [DV.cells, getD_zero, getD_succ, Sv.cells]; exact rfl) | exact rfl)); (· exact rfl); (· exact rfl); (· assumption); intro b1 H1 hB) | (apply op_at; (· exact rfl)) | (apply dwp_cond_t; (· exact rfl); (· (with_reducible first | assumption | rfl | decide))) | (apply dwp_cond_f; (· exact rfl); (· (with_reducible first | assumption | rfl | decide))) | apply dwp_block | apply dwp_skip | apply dwp_ret | (refine ⟨_, rfl, ?_⟩) | fail)
              exact ⟨rfl, hB.ab⟩
            | false =>
              refine enter rfl Tryd.func14 rfl Tryd.ntmps14 rfl ?_
              dsimp only [List.cons_append, List.nil_append, List.length_cons, List.length_nil, List.replicate_succ, List.replicate_zero, Nat.reduceAdd, Nat.reduceSub]
              repeat' (first | dsimp only [putD, DV.cells, DH.new_next, DH.set_next, List.length_cons, List.length_nil, Nat.reduceAdd, List.set_cons_zero, List.set_cons_succ, getD_zero, getD_succ, fieldAt_zero, fieldAt_succ, thenD, blockD, retR] | apply dwp_seq | apply dwp_region | apply ops_nil | (apply ops_plain; (· exact rfl)) | (apply ops_off1; (· exact rfl); (· exact rfl); (· (with_reducible first | assumption | rfl | decide))) | (apply op_pick_f; (· exact rfl); (· exact rfl); (· (with_reducible first | assumption | rfl | decide)); (· exact rfl)) | (apply bx_load0; (· exact rfl); (· exact rfl); (· assumption); (· (repeat (first | with_reducible exact At.here | with_reducible apply At.there | with_reducible apply at_app))); (· (first | exact partInj _ _ _ _ | exact partEv _ _ _ _ _ | exact rfl))) | (apply bx_box; (· exact rfl); (· exact rfl); (· (first | (dsimp only [DV.cells, getD_zero, getD_succ, Sv.cells]; done) | (dsimp only [DV.cells, getD_zero, getD_succ, Sv.cells]; exact rfl) | exact rfl)); (· exact rfl); (· exact rfl); (· assumption); intro b1 H1 hB) | (apply op_at; (· exact rfl)) | (apply dwp_cond_t; (· exact rfl); (· (with_reducible first | assumption | rfl | decide))) | (apply dwp_cond_f; (· exact rfl); (· (with_reducible first | assumption | rfl | decide))) | apply dwp_block | apply dwp_skip | apply dwp_ret | (refine ⟨_, rfl, ?_⟩) | fail)
              exact ⟨rfl, hB.ab⟩
          | false =>
            rw [if_neg (by simp at hy4 hy5 hy13; omega)]
            refine enter rfl Tryd.func14 rfl Tryd.ntmps14 rfl ?_
            dsimp only [List.cons_append, List.nil_append, List.length_cons, List.length_nil, List.replicate_succ, List.replicate_zero, Nat.reduceAdd, Nat.reduceSub]
            repeat' (first | dsimp only [putD, DV.cells, DH.new_next, DH.set_next, List.length_cons, List.length_nil, Nat.reduceAdd, List.set_cons_zero, List.set_cons_succ, getD_zero, getD_succ, fieldAt_zero, fieldAt_succ, thenD, blockD, retR] | apply dwp_seq | apply dwp_region | apply ops_nil | (apply ops_plain; (· exact rfl)) | (apply bx_load0; (· exact rfl); (· exact rfl); (· assumption); (· (repeat (first | with_reducible exact At.here | with_reducible apply At.there | with_reducible apply at_app))); (· (first | exact partInj _ _ _ _ | exact partEv _ _ _ _ _ | exact rfl))) | (apply bx_box; (· exact rfl); (· exact rfl); (· (first | (dsimp only [DV.cells, getD_zero, getD_succ, Sv.cells]; done) | (dsimp only [DV.cells, getD_zero, getD_succ, Sv.cells]; exact rfl) | exact rfl)); (· exact rfl); (· exact rfl); (· assumption); intro b1 H1 hB) | (apply op_at; (· exact rfl)) | (apply dwp_cond_t; (· exact rfl); (· (with_reducible first | assumption | rfl | decide))) | (apply dwp_cond_f; (· exact rfl); (· (with_reducible first | assumption | rfl | decide))) | apply dwp_block | apply dwp_skip | apply dwp_ret | (refine ⟨_, rfl, ?_⟩) | fail)
            exact ⟨rfl, hB.ab⟩
    | false =>
      cases hk2 : (xk == 2) with
      | true =>
        rw [if_pos (by have : xk = 2 := by simpa using hk2
                       omega)]
        cases hy4 : (yk == 4) with
        | true =>
          rw [if_pos (by have : yk = 4 := by simpa using hy4
                         omega)]
          cases hb : (yb == xw) with
          | true =>
            refine enter rfl Tryd.func14 rfl Tryd.ntmps14 rfl ?_
            dsimp only [List.cons_append, List.nil_append, List.length_cons, List.length_nil, List.replicate_succ, List.replicate_zero, Nat.reduceAdd, Nat.reduceSub]
            repeat' (first | dsimp only [putD, DV.cells, DH.new_next, DH.set_next, List.length_cons, List.length_nil, Nat.reduceAdd, List.set_cons_zero, List.set_cons_succ, getD_zero, getD_succ, fieldAt_zero, fieldAt_succ, thenD, blockD, retR] | apply dwp_seq | apply dwp_region | apply ops_nil | (apply ops_plain; (· exact rfl)) | (apply ops_on; (· exact rfl); (· exact rfl); (· (with_reducible first | assumption | rfl | decide))) | (apply op_pick_t; (· exact rfl); (· exact rfl); (· (with_reducible first | assumption | rfl | decide)); (· exact rfl)) | (apply bx_load0; (· exact rfl); (· exact rfl); (· assumption); (· (repeat (first | with_reducible exact At.here | with_reducible apply At.there | with_reducible apply at_app))); (· (first | exact partInj _ _ _ _ | exact partEv _ _ _ _ _ | exact rfl))) | (apply bx_box; (· exact rfl); (· exact rfl); (· (first | (dsimp only [DV.cells, getD_zero, getD_succ, Sv.cells]; done) | (dsimp only [DV.cells, getD_zero, getD_succ, Sv.cells]; exact rfl) | exact rfl)); (· exact rfl); (· exact rfl); (· assumption); intro b1 H1 hB) | (apply op_at; (· exact rfl)) | (apply dwp_cond_t; (· exact rfl); (· (with_reducible first | assumption | rfl | decide))) | (apply dwp_cond_f; (· exact rfl); (· (with_reducible first | assumption | rfl | decide))) | apply dwp_block | apply dwp_skip | apply dwp_ret | (refine ⟨_, rfl, ?_⟩) | fail)
            exact ⟨rfl, hB.ab⟩
          | false =>
            refine enter rfl Tryd.func14 rfl Tryd.ntmps14 rfl ?_
            dsimp only [List.cons_append, List.nil_append, List.length_cons, List.length_nil, List.replicate_succ, List.replicate_zero, Nat.reduceAdd, Nat.reduceSub]
            repeat' (first | dsimp only [putD, DV.cells, DH.new_next, DH.set_next, List.length_cons, List.length_nil, Nat.reduceAdd, List.set_cons_zero, List.set_cons_succ, getD_zero, getD_succ, fieldAt_zero, fieldAt_succ, thenD, blockD, retR] | apply dwp_seq | apply dwp_region | apply ops_nil | (apply ops_plain; (· exact rfl)) | (apply ops_off1; (· exact rfl); (· exact rfl); (· (with_reducible first | assumption | rfl | decide))) | (apply op_pick_f; (· exact rfl); (· exact rfl); (· (with_reducible first | assumption | rfl | decide)); (· exact rfl)) | (apply bx_load0; (· exact rfl); (· exact rfl); (· assumption); (· (repeat (first | with_reducible exact At.here | with_reducible apply At.there | with_reducible apply at_app))); (· (first | exact partInj _ _ _ _ | exact partEv _ _ _ _ _ | exact rfl))) | (apply bx_box; (· exact rfl); (· exact rfl); (· (first | (dsimp only [DV.cells, getD_zero, getD_succ, Sv.cells]; done) | (dsimp only [DV.cells, getD_zero, getD_succ, Sv.cells]; exact rfl) | exact rfl)); (· exact rfl); (· exact rfl); (· assumption); intro b1 H1 hB) | (apply op_at; (· exact rfl)) | (apply dwp_cond_t; (· exact rfl); (· (with_reducible first | assumption | rfl | decide))) | (apply dwp_cond_f; (· exact rfl); (· (with_reducible first | assumption | rfl | decide))) | apply dwp_block | apply dwp_skip | apply dwp_ret | (refine ⟨_, rfl, ?_⟩) | fail)
            exact ⟨rfl, hB.ab⟩
        | false =>
          cases hy5 : (yk == 5) with
          | true =>
            rw [if_pos (by have : yk = 5 := by simpa using hy5
                           omega)]
            cases hb : (yb == xw) with
            | true =>
              refine enter rfl Tryd.func14 rfl Tryd.ntmps14 rfl ?_
              dsimp only [List.cons_append, List.nil_append, List.length_cons, List.length_nil, List.replicate_succ, List.replicate_zero, Nat.reduceAdd, Nat.reduceSub]
              repeat' (first | dsimp only [putD, DV.cells, DH.new_next, DH.set_next, List.length_cons, List.length_nil, Nat.reduceAdd, List.set_cons_zero, List.set_cons_succ, getD_zero, getD_succ, fieldAt_zero, fieldAt_succ, thenD, blockD, retR] | apply dwp_seq | apply dwp_region | apply ops_nil | (apply ops_plain; (· exact rfl)) | (apply ops_on; (· exact rfl); (· exact rfl); (· (with_reducible first | assumption | rfl | decide))) | (apply op_pick_t; (· exact rfl); (· exact rfl); (· (with_reducible first | assumption | rfl | decide)); (· exact rfl)) | (apply bx_load0; (· exact rfl); (· exact rfl); (· assumption); (· (repeat (first | with_reducible exact At.here | with_reducible apply At.there | with_reducible apply at_app))); (· (first | exact partInj _ _ _ _ | exact partEv _ _ _ _ _ | exact rfl))) | (apply bx_box; (· exact rfl); (· exact rfl); (· (first | (dsimp only [DV.cells, getD_zero, getD_succ, Sv.cells]; done) | (dsimp only [DV.cells, getD_zero, getD_succ, Sv.cells]; exact rfl) | exact rfl)); (· exact rfl); (· exact rfl); (· assumption); intro b1 H1 hB) | (apply op_at; (· exact rfl)) | (apply dwp_cond_t; (· exact rfl); (· (with_reducible first | assumption | rfl | decide))) | (apply dwp_cond_f; (· exact rfl); (· (with_reducible first | assumption | rfl | decide))) | apply dwp_block | apply dwp_skip | apply dwp_ret | (refine ⟨_, rfl, ?_⟩) | fail)
              exact ⟨rfl, hB.ab⟩
            | false =>
              refine enter rfl Tryd.func14 rfl Tryd.ntmps14 rfl ?_
              dsimp only [List.cons_append, List.nil_append, List.length_cons, List.length_nil, List.replicate_succ, List.replicate_zero, Nat.reduceAdd, Nat.reduceSub]
              repeat' (first | dsimp only [putD, DV.cells, DH.new_next, DH.set_next, List.length_cons, List.length_nil, Nat.reduceAdd, List.set_cons_zero, List.set_cons_succ, getD_zero, getD_succ, fieldAt_zero, fieldAt_succ, thenD, blockD, retR] | apply dwp_seq | apply dwp_region | apply ops_nil | (apply ops_plain; (· exact rfl)) | (apply ops_off1; (· exact rfl); (· exact rfl); (· (with_reducible first | assumption | rfl | decide))) | (apply op_pick_f; (· exact rfl); (· exact rfl); (· (with_reducible first | assumption | rfl | decide)); (· exact rfl)) | (apply bx_load0; (· exact rfl); (· exact rfl); (· assumption); (· (repeat (first | with_reducible exact At.here | with_reducible apply At.there | with_reducible apply at_app))); (· (first | exact partInj _ _ _ _ | exact partEv _ _ _ _ _ | exact rfl))) | (apply bx_box; (· exact rfl); (· exact rfl); (· (first | (dsimp only [DV.cells, getD_zero, getD_succ, Sv.cells]; done) | (dsimp only [DV.cells, getD_zero, getD_succ, Sv.cells]; exact rfl) | exact rfl)); (· exact rfl); (· exact rfl); (· assumption); intro b1 H1 hB) | (apply op_at; (· exact rfl)) | (apply dwp_cond_t; (· exact rfl); (· (with_reducible first | assumption | rfl | decide))) | (apply dwp_cond_f; (· exact rfl); (· (with_reducible first | assumption | rfl | decide))) | apply dwp_block | apply dwp_skip | apply dwp_ret | (refine ⟨_, rfl, ?_⟩) | fail)
              exact ⟨rfl, hB.ab⟩
          | false =>
            cases hy13 : (yk == 13) with
            | true =>
              rw [if_pos (by have : yk = 13 := by simpa using hy13
                             omega)]
              cases hb : (yb == xw) with
              | true =>
                refine enter rfl Tryd.func14 rfl Tryd.ntmps14 rfl ?_
                dsimp only [List.cons_append, List.nil_append, List.length_cons, List.length_nil, List.replicate_succ, List.replicate_zero, Nat.reduceAdd, Nat.reduceSub]
                repeat' (first | dsimp only [putD, DV.cells, DH.new_next, DH.set_next, List.length_cons, List.length_nil, Nat.reduceAdd, List.set_cons_zero, List.set_cons_succ, getD_zero, getD_succ, fieldAt_zero, fieldAt_succ, thenD, blockD, retR] | apply dwp_seq | apply dwp_region | apply ops_nil | (apply ops_plain; (· exact rfl)) | (apply ops_on; (· exact rfl); (· exact rfl); (· (with_reducible first | assumption | rfl | decide))) | (apply op_pick_t; (· exact rfl); (· exact rfl); (· (with_reducible first | assumption | rfl | decide)); (· exact rfl)) | (apply bx_load0; (· exact rfl); (· exact rfl); (· assumption); (· (repeat (first | with_reducible exact At.here | with_reducible apply At.there | with_reducible apply at_app))); (· (first | exact partInj _ _ _ _ | exact partEv _ _ _ _ _ | exact rfl))) | (apply bx_box; (· exact rfl); (· exact rfl); (· (first | (dsimp only [DV.cells, getD_zero, getD_succ, Sv.cells]; done) | (dsimp only [DV.cells, getD_zero, getD_succ, Sv.cells]; exact rfl) | exact rfl)); (· exact rfl); (· exact rfl); (· assumption); intro b1 H1 hB) | (apply op_at; (· exact rfl)) | (apply dwp_cond_t; (· exact rfl); (· (with_reducible first | assumption | rfl | decide))) | (apply dwp_cond_f; (· exact rfl); (· (with_reducible first | assumption | rfl | decide))) | apply dwp_block | apply dwp_skip | apply dwp_ret | (refine ⟨_, rfl, ?_⟩) | fail)
                exact ⟨rfl, hB.ab⟩
              | false =>
                refine enter rfl Tryd.func14 rfl Tryd.ntmps14 rfl ?_
                dsimp only [List.cons_append, List.nil_append, List.length_cons, List.length_nil, List.replicate_succ, List.replicate_zero, Nat.reduceAdd, Nat.reduceSub]
                repeat' (first | dsimp only [putD, DV.cells, DH.new_next, DH.set_next, List.length_cons, List.length_nil, Nat.reduceAdd, List.set_cons_zero, List.set_cons_succ, getD_zero, getD_succ, fieldAt_zero, fieldAt_succ, thenD, blockD, retR] | apply dwp_seq | apply dwp_region | apply ops_nil | (apply ops_plain; (· exact rfl)) | (apply ops_off1; (· exact rfl); (· exact rfl); (· (with_reducible first | assumption | rfl | decide))) | (apply op_pick_f; (· exact rfl); (· exact rfl); (· (with_reducible first | assumption | rfl | decide)); (· exact rfl)) | (apply bx_load0; (· exact rfl); (· exact rfl); (· assumption); (· (repeat (first | with_reducible exact At.here | with_reducible apply At.there | with_reducible apply at_app))); (· (first | exact partInj _ _ _ _ | exact partEv _ _ _ _ _ | exact rfl))) | (apply bx_box; (· exact rfl); (· exact rfl); (· (first | (dsimp only [DV.cells, getD_zero, getD_succ, Sv.cells]; done) | (dsimp only [DV.cells, getD_zero, getD_succ, Sv.cells]; exact rfl) | exact rfl)); (· exact rfl); (· exact rfl); (· assumption); intro b1 H1 hB) | (apply op_at; (· exact rfl)) | (apply dwp_cond_t; (· exact rfl); (· (with_reducible first | assumption | rfl | decide))) | (apply dwp_cond_f; (· exact rfl); (· (with_reducible first | assumption | rfl | decide))) | apply dwp_block | apply dwp_skip | apply dwp_ret | (refine ⟨_, rfl, ?_⟩) | fail)
                exact ⟨rfl, hB.ab⟩
            | false =>
              rw [if_neg (by simp at hy4 hy5 hy13; omega)]
              refine enter rfl Tryd.func14 rfl Tryd.ntmps14 rfl ?_
              dsimp only [List.cons_append, List.nil_append, List.length_cons, List.length_nil, List.replicate_succ, List.replicate_zero, Nat.reduceAdd, Nat.reduceSub]
              repeat' (first | dsimp only [putD, DV.cells, DH.new_next, DH.set_next, List.length_cons, List.length_nil, Nat.reduceAdd, List.set_cons_zero, List.set_cons_succ, getD_zero, getD_succ, fieldAt_zero, fieldAt_succ, thenD, blockD, retR] | apply dwp_seq | apply dwp_region | apply ops_nil | (apply ops_plain; (· exact rfl)) | (apply bx_load0; (· exact rfl); (· exact rfl); (· assumption); (· (repeat (first | with_reducible exact At.here | with_reducible apply At.there | with_reducible apply at_app))); (· (first | exact partInj _ _ _ _ | exact partEv _ _ _ _ _ | exact rfl))) | (apply bx_box; (· exact rfl); (· exact rfl); (· (first | (dsimp only [DV.cells, getD_zero, getD_succ, Sv.cells]; done) | (dsimp only [DV.cells, getD_zero, getD_succ, Sv.cells]; exact rfl) | exact rfl)); (· exact rfl); (· exact rfl); (· assumption); intro b1 H1 hB) | (apply op_at; (· exact rfl)) | (apply dwp_cond_t; (· exact rfl); (· (with_reducible first | assumption | rfl | decide))) | (apply dwp_cond_f; (· exact rfl); (· (with_reducible first | assumption | rfl | decide))) | apply dwp_block | apply dwp_skip | apply dwp_ret | (refine ⟨_, rfl, ?_⟩) | fail)
              exact ⟨rfl, hB.ab⟩
      | false =>
        cases hk4 : (xk == 4) with
        | true =>
          rw [if_pos (by have : xk = 4 := by simpa using hk4
                         omega)]
          cases hy4 : (yk == 4) with
          | true =>
            rw [if_pos (by have : yk = 4 := by simpa using hy4
                           omega)]
            cases hb : (yb == xw) with
            | true =>
              refine enter rfl Tryd.func14 rfl Tryd.ntmps14 rfl ?_
              dsimp only [List.cons_append, List.nil_append, List.length_cons, List.length_nil, List.replicate_succ, List.replicate_zero, Nat.reduceAdd, Nat.reduceSub]
              repeat' (first | dsimp only [putD, DV.cells, DH.new_next, DH.set_next, List.length_cons, List.length_nil, Nat.reduceAdd, List.set_cons_zero, List.set_cons_succ, getD_zero, getD_succ, fieldAt_zero, fieldAt_succ, thenD, blockD, retR] | apply dwp_seq | apply dwp_region | apply ops_nil | (apply ops_plain; (· exact rfl)) | (apply ops_on; (· exact rfl); (· exact rfl); (· (with_reducible first | assumption | rfl | decide))) | (apply op_pick_t; (· exact rfl); (· exact rfl); (· (with_reducible first | assumption | rfl | decide)); (· exact rfl)) | (apply bx_load0; (· exact rfl); (· exact rfl); (· assumption); (· (repeat (first | with_reducible exact At.here | with_reducible apply At.there | with_reducible apply at_app))); (· (first | exact partInj _ _ _ _ | exact partEv _ _ _ _ _ | exact rfl))) | (apply bx_box; (· exact rfl); (· exact rfl); (· (first | (dsimp only [DV.cells, getD_zero, getD_succ, Sv.cells]; done) | (dsimp only [DV.cells, getD_zero, getD_succ, Sv.cells]; exact rfl) | exact rfl)); (· exact rfl); (· exact rfl); (· assumption); intro b1 H1 hB) | (apply op_at; (· exact rfl)) | (apply dwp_cond_t; (· exact rfl); (· (with_reducible first | assumption | rfl | decide))) | (apply dwp_cond_f; (· exact rfl); (· (with_reducible first | assumption | rfl | decide))) | apply dwp_block | apply dwp_skip | apply dwp_ret | (refine ⟨_, rfl, ?_⟩) | fail)
              exact ⟨rfl, hB.ab⟩
            | false =>
              refine enter rfl Tryd.func14 rfl Tryd.ntmps14 rfl ?_
              dsimp only [List.cons_append, List.nil_append, List.length_cons, List.length_nil, List.replicate_succ, List.replicate_zero, Nat.reduceAdd, Nat.reduceSub]
              repeat' (first | dsimp only [putD, DV.cells, DH.new_next, DH.set_next, List.length_cons, List.length_nil, Nat.reduceAdd, List.set_cons_zero, List.set_cons_succ, getD_zero, getD_succ, fieldAt_zero, fieldAt_succ, thenD, blockD, retR] | apply dwp_seq | apply dwp_region | apply ops_nil | (apply ops_plain; (· exact rfl)) | (apply ops_off1; (· exact rfl); (· exact rfl); (· (with_reducible first | assumption | rfl | decide))) | (apply op_pick_f; (· exact rfl); (· exact rfl); (· (with_reducible first | assumption | rfl | decide)); (· exact rfl)) | (apply bx_load0; (· exact rfl); (· exact rfl); (· assumption); (· (repeat (first | with_reducible exact At.here | with_reducible apply At.there | with_reducible apply at_app))); (· (first | exact partInj _ _ _ _ | exact partEv _ _ _ _ _ | exact rfl))) | (apply bx_box; (· exact rfl); (· exact rfl); (· (first | (dsimp only [DV.cells, getD_zero, getD_succ, Sv.cells]; done) | (dsimp only [DV.cells, getD_zero, getD_succ, Sv.cells]; exact rfl) | exact rfl)); (· exact rfl); (· exact rfl); (· assumption); intro b1 H1 hB) | (apply op_at; (· exact rfl)) | (apply dwp_cond_t; (· exact rfl); (· (with_reducible first | assumption | rfl | decide))) | (apply dwp_cond_f; (· exact rfl); (· (with_reducible first | assumption | rfl | decide))) | apply dwp_block | apply dwp_skip | apply dwp_ret | (refine ⟨_, rfl, ?_⟩) | fail)
              exact ⟨rfl, hB.ab⟩
          | false =>
            cases hy5 : (yk == 5) with
            | true =>
              rw [if_pos (by have : yk = 5 := by simpa using hy5
                             omega)]
              cases hb : (yb == xw) with
              | true =>
                refine enter rfl Tryd.func14 rfl Tryd.ntmps14 rfl ?_
                dsimp only [List.cons_append, List.nil_append, List.length_cons, List.length_nil, List.replicate_succ, List.replicate_zero, Nat.reduceAdd, Nat.reduceSub]
                repeat' (first | dsimp only [putD, DV.cells, DH.new_next, DH.set_next, List.length_cons, List.length_nil, Nat.reduceAdd, List.set_cons_zero, List.set_cons_succ, getD_zero, getD_succ, fieldAt_zero, fieldAt_succ, thenD, blockD, retR] | apply dwp_seq | apply dwp_region | apply ops_nil | (apply ops_plain; (· exact rfl)) | (apply ops_on; (· exact rfl); (· exact rfl); (· (with_reducible first | assumption | rfl | decide))) | (apply op_pick_t; (· exact rfl); (· exact rfl); (· (with_reducible first | assumption | rfl | decide)); (· exact rfl)) | (apply bx_load0; (· exact rfl); (· exact rfl); (· assumption); (· (repeat (first | with_reducible exact At.here | with_reducible apply At.there | with_reducible apply at_app))); (· (first | exact partInj _ _ _ _ | exact partEv _ _ _ _ _ | exact rfl))) | (apply bx_box; (· exact rfl); (· exact rfl); (· (first | (dsimp only [DV.cells, getD_zero, getD_succ, Sv.cells]; done) | (dsimp only [DV.cells, getD_zero, getD_succ, Sv.cells]; exact rfl) | exact rfl)); (· exact rfl); (· exact rfl); (· assumption); intro b1 H1 hB) | (apply op_at; (· exact rfl)) | (apply dwp_cond_t; (· exact rfl); (· (with_reducible first | assumption | rfl | decide))) | (apply dwp_cond_f; (· exact rfl); (· (with_reducible first | assumption | rfl | decide))) | apply dwp_block | apply dwp_skip | apply dwp_ret | (refine ⟨_, rfl, ?_⟩) | fail)
                exact ⟨rfl, hB.ab⟩
              | false =>
                refine enter rfl Tryd.func14 rfl Tryd.ntmps14 rfl ?_
                dsimp only [List.cons_append, List.nil_append, List.length_cons, List.length_nil, List.replicate_succ, List.replicate_zero, Nat.reduceAdd, Nat.reduceSub]
                repeat' (first | dsimp only [putD, DV.cells, DH.new_next, DH.set_next, List.length_cons, List.length_nil, Nat.reduceAdd, List.set_cons_zero, List.set_cons_succ, getD_zero, getD_succ, fieldAt_zero, fieldAt_succ, thenD, blockD, retR] | apply dwp_seq | apply dwp_region | apply ops_nil | (apply ops_plain; (· exact rfl)) | (apply ops_off1; (· exact rfl); (· exact rfl); (· (with_reducible first | assumption | rfl | decide))) | (apply op_pick_f; (· exact rfl); (· exact rfl); (· (with_reducible first | assumption | rfl | decide)); (· exact rfl)) | (apply bx_load0; (· exact rfl); (· exact rfl); (· assumption); (· (repeat (first | with_reducible exact At.here | with_reducible apply At.there | with_reducible apply at_app))); (· (first | exact partInj _ _ _ _ | exact partEv _ _ _ _ _ | exact rfl))) | (apply bx_box; (· exact rfl); (· exact rfl); (· (first | (dsimp only [DV.cells, getD_zero, getD_succ, Sv.cells]; done) | (dsimp only [DV.cells, getD_zero, getD_succ, Sv.cells]; exact rfl) | exact rfl)); (· exact rfl); (· exact rfl); (· assumption); intro b1 H1 hB) | (apply op_at; (· exact rfl)) | (apply dwp_cond_t; (· exact rfl); (· (with_reducible first | assumption | rfl | decide))) | (apply dwp_cond_f; (· exact rfl); (· (with_reducible first | assumption | rfl | decide))) | apply dwp_block | apply dwp_skip | apply dwp_ret | (refine ⟨_, rfl, ?_⟩) | fail)
                exact ⟨rfl, hB.ab⟩
            | false =>
              cases hy13 : (yk == 13) with
              | true =>
                rw [if_pos (by have : yk = 13 := by simpa using hy13
                               omega)]
                cases hb : (yb == xw) with
                | true =>
                  refine enter rfl Tryd.func14 rfl Tryd.ntmps14 rfl ?_
                  dsimp only [List.cons_append, List.nil_append, List.length_cons, List.length_nil, List.replicate_succ, List.replicate_zero, Nat.reduceAdd, Nat.reduceSub]
                  repeat' (first | dsimp only [putD, DV.cells, DH.new_next, DH.set_next, List.length_cons, List.length_nil, Nat.reduceAdd, List.set_cons_zero, List.set_cons_succ, getD_zero, getD_succ, fieldAt_zero, fieldAt_succ, thenD, blockD, retR] | apply dwp_seq | apply dwp_region | apply ops_nil | (apply ops_plain; (· exact rfl)) | (apply ops_on; (· exact rfl); (· exact rfl); (· (with_reducible first | assumption | rfl | decide))) | (apply op_pick_t; (· exact rfl); (· exact rfl); (· (with_reducible first | assumption | rfl | decide)); (· exact rfl)) | (apply bx_load0; (· exact rfl); (· exact rfl); (· assumption); (· (repeat (first | with_reducible exact At.here | with_reducible apply At.there | with_reducible apply at_app))); (· (first | exact partInj _ _ _ _ | exact partEv _ _ _ _ _ | exact rfl))) | (apply bx_box; (· exact rfl); (· exact rfl); (· (first | (dsimp only [DV.cells, getD_zero, getD_succ, Sv.cells]; done) | (dsimp only [DV.cells, getD_zero, getD_succ, Sv.cells]; exact rfl) | exact rfl)); (· exact rfl); (· exact rfl); (· assumption); intro b1 H1 hB) | (apply op_at; (· exact rfl)) | (apply dwp_cond_t; (· exact rfl); (· (with_reducible first | assumption | rfl | decide))) | (apply dwp_cond_f; (· exact rfl); (· (with_reducible first | assumption | rfl | decide))) | apply dwp_block | apply dwp_skip | apply dwp_ret | (refine ⟨_, rfl, ?_⟩) | fail)
                  exact ⟨rfl, hB.ab⟩
                | false =>
                  refine enter rfl Tryd.func14 rfl Tryd.ntmps14 rfl ?_
                  dsimp only [List.cons_append, List.nil_append, List.length_cons, List.length_nil, List.replicate_succ, List.replicate_zero, Nat.reduceAdd, Nat.reduceSub]
                  repeat' (first | dsimp only [putD, DV.cells, DH.new_next, DH.set_next, List.length_cons, List.length_nil, Nat.reduceAdd, List.set_cons_zero, List.set_cons_succ, getD_zero, getD_succ, fieldAt_zero, fieldAt_succ, thenD, blockD, retR] | apply dwp_seq | apply dwp_region | apply ops_nil | (apply ops_plain; (· exact rfl)) | (apply ops_off1; (· exact rfl); (· exact rfl); (· (with_reducible first | assumption | rfl | decide))) | (apply op_pick_f; (· exact rfl); (· exact rfl); (· (with_reducible first | assumption | rfl | decide)); (· exact rfl)) | (apply bx_load0; (· exact rfl); (· exact rfl); (· assumption); (· (repeat (first | with_reducible exact At.here | with_reducible apply At.there | with_reducible apply at_app))); (· (first | exact partInj _ _ _ _ | exact partEv _ _ _ _ _ | exact rfl))) | (apply bx_box; (· exact rfl); (· exact rfl); (· (first | (dsimp only [DV.cells, getD_zero, getD_succ, Sv.cells]; done) | (dsimp only [DV.cells, getD_zero, getD_succ, Sv.cells]; exact rfl) | exact rfl)); (· exact rfl); (· exact rfl); (· assumption); intro b1 H1 hB) | (apply op_at; (· exact rfl)) | (apply dwp_cond_t; (· exact rfl); (· (with_reducible first | assumption | rfl | decide))) | (apply dwp_cond_f; (· exact rfl); (· (with_reducible first | assumption | rfl | decide))) | apply dwp_block | apply dwp_skip | apply dwp_ret | (refine ⟨_, rfl, ?_⟩) | fail)
                  exact ⟨rfl, hB.ab⟩
              | false =>
                rw [if_neg (by simp at hy4 hy5 hy13; omega)]
                refine enter rfl Tryd.func14 rfl Tryd.ntmps14 rfl ?_
                dsimp only [List.cons_append, List.nil_append, List.length_cons, List.length_nil, List.replicate_succ, List.replicate_zero, Nat.reduceAdd, Nat.reduceSub]
                repeat' (first | dsimp only [putD, DV.cells, DH.new_next, DH.set_next, List.length_cons, List.length_nil, Nat.reduceAdd, List.set_cons_zero, List.set_cons_succ, getD_zero, getD_succ, fieldAt_zero, fieldAt_succ, thenD, blockD, retR] | apply dwp_seq | apply dwp_region | apply ops_nil | (apply ops_plain; (· exact rfl)) | (apply bx_load0; (· exact rfl); (· exact rfl); (· assumption); (· (repeat (first | with_reducible exact At.here | with_reducible apply At.there | with_reducible apply at_app))); (· (first | exact partInj _ _ _ _ | exact partEv _ _ _ _ _ | exact rfl))) | (apply bx_box; (· exact rfl); (· exact rfl); (· (first | (dsimp only [DV.cells, getD_zero, getD_succ, Sv.cells]; done) | (dsimp only [DV.cells, getD_zero, getD_succ, Sv.cells]; exact rfl) | exact rfl)); (· exact rfl); (· exact rfl); (· assumption); intro b1 H1 hB) | (apply op_at; (· exact rfl)) | (apply dwp_cond_t; (· exact rfl); (· (with_reducible first | assumption | rfl | decide))) | (apply dwp_cond_f; (· exact rfl); (· (with_reducible first | assumption | rfl | decide))) | apply dwp_block | apply dwp_skip | apply dwp_ret | (refine ⟨_, rfl, ?_⟩) | fail)
                exact ⟨rfl, hB.ab⟩
        | false =>
          cases hk5 : (xk == 5) with
          | true =>
            rw [if_pos (by have : xk = 5 := by simpa using hk5
                           omega)]
            cases hy4 : (yk == 4) with
            | true =>
              rw [if_pos (by have : yk = 4 := by simpa using hy4
                             omega)]
              cases hb : (yb == xw) with
              | true =>
                refine enter rfl Tryd.func14 rfl Tryd.ntmps14 rfl ?_
                dsimp only [List.cons_append, List.nil_append, List.length_cons, List.length_nil, List.replicate_succ, List.replicate_zero, Nat.reduceAdd, Nat.reduceSub]
                repeat' (first | dsimp only [putD, DV.cells, DH.new_next, DH.set_next, List.length_cons, List.length_nil, Nat.reduceAdd, List.set_cons_zero, List.set_cons_succ, getD_zero, getD_succ, fieldAt_zero, fieldAt_succ, thenD, blockD, retR] | apply dwp_seq | apply dwp_region | apply ops_nil | (apply ops_plain; (· exact rfl)) | (apply ops_on; (· exact rfl); (· exact rfl); (· (with_reducible first | assumption | rfl | decide))) | (apply op_pick_t; (· exact rfl); (· exact rfl); (· (with_reducible first | assumption | rfl | decide)); (· exact rfl)) | (apply bx_load0; (· exact rfl); (· exact rfl); (· assumption); (· (repeat (first | with_reducible exact At.here | with_reducible apply At.there | with_reducible apply at_app))); (· (first | exact partInj _ _ _ _ | exact partEv _ _ _ _ _ | exact rfl))) | (apply bx_box; (· exact rfl); (· exact rfl); (· (first | (dsimp only [DV.cells, getD_zero, getD_succ, Sv.cells]; done) | (dsimp only [DV.cells, getD_zero, getD_succ, Sv.cells]; exact rfl) | exact rfl)); (· exact rfl); (· exact rfl); (· assumption); intro b1 H1 hB) | (apply op_at; (· exact rfl)) | (apply dwp_cond_t; (· exact rfl); (· (with_reducible first | assumption | rfl | decide))) | (apply dwp_cond_f; (· exact rfl); (· (with_reducible first | assumption | rfl | decide))) | apply dwp_block | apply dwp_skip | apply dwp_ret | (refine ⟨_, rfl, ?_⟩) | fail)
                exact ⟨rfl, hB.ab⟩
              | false =>
                refine enter rfl Tryd.func14 rfl Tryd.ntmps14 rfl ?_
                dsimp only [List.cons_append, List.nil_append, List.length_cons, List.length_nil, List.replicate_succ, List.replicate_zero, Nat.reduceAdd, Nat.reduceSub]
                repeat' (first | dsimp only [putD, DV.cells, DH.new_next, DH.set_next, List.length_cons, List.length_nil, Nat.reduceAdd, List.set_cons_zero, List.set_cons_succ, getD_zero, getD_succ, fieldAt_zero, fieldAt_succ, thenD, blockD, retR] | apply dwp_seq | apply dwp_region | apply ops_nil | (apply ops_plain; (· exact rfl)) | (apply ops_off1; (· exact rfl); (· exact rfl); (· (with_reducible first | assumption | rfl | decide))) | (apply op_pick_f; (· exact rfl); (· exact rfl); (· (with_reducible first | assumption | rfl | decide)); (· exact rfl)) | (apply bx_load0; (· exact rfl); (· exact rfl); (· assumption); (· (repeat (first | with_reducible exact At.here | with_reducible apply At.there | with_reducible apply at_app))); (· (first | exact partInj _ _ _ _ | exact partEv _ _ _ _ _ | exact rfl))) | (apply bx_box; (· exact rfl); (· exact rfl); (· (first | (dsimp only [DV.cells, getD_zero, getD_succ, Sv.cells]; done) | (dsimp only [DV.cells, getD_zero, getD_succ, Sv.cells]; exact rfl) | exact rfl)); (· exact rfl); (· exact rfl); (· assumption); intro b1 H1 hB) | (apply op_at; (· exact rfl)) | (apply dwp_cond_t; (· exact rfl); (· (with_reducible first | assumption | rfl | decide))) | (apply dwp_cond_f; (· exact rfl); (· (with_reducible first | assumption | rfl | decide))) | apply dwp_block | apply dwp_skip | apply dwp_ret | (refine ⟨_, rfl, ?_⟩) | fail)
                exact ⟨rfl, hB.ab⟩
            | false =>
              cases hy5 : (yk == 5) with
              | true =>
                rw [if_pos (by have : yk = 5 := by simpa using hy5
                               omega)]
                cases hb : (yb == xw) with
                | true =>
                  refine enter rfl Tryd.func14 rfl Tryd.ntmps14 rfl ?_
                  dsimp only [List.cons_append, List.nil_append, List.length_cons, List.length_nil, List.replicate_succ, List.replicate_zero, Nat.reduceAdd, Nat.reduceSub]
                  repeat' (first | dsimp only [putD, DV.cells, DH.new_next, DH.set_next, List.length_cons, List.length_nil, Nat.reduceAdd, List.set_cons_zero, List.set_cons_succ, getD_zero, getD_succ, fieldAt_zero, fieldAt_succ, thenD, blockD, retR] | apply dwp_seq | apply dwp_region | apply ops_nil | (apply ops_plain; (· exact rfl)) | (apply ops_on; (· exact rfl); (· exact rfl); (· (with_reducible first | assumption | rfl | decide))) | (apply op_pick_t; (· exact rfl); (· exact rfl); (· (with_reducible first | assumption | rfl | decide)); (· exact rfl)) | (apply bx_load0; (· exact rfl); (· exact rfl); (· assumption); (· (repeat (first | with_reducible exact At.here | with_reducible apply At.there | with_reducible apply at_app))); (· (first | exact partInj _ _ _ _ | exact partEv _ _ _ _ _ | exact rfl))) | (apply bx_box; (· exact rfl); (· exact rfl); (· (first | (dsimp only [DV.cells, getD_zero, getD_succ, Sv.cells]; done) | (dsimp only [DV.cells, getD_zero, getD_succ, Sv.cells]; exact rfl) | exact rfl)); (· exact rfl); (· exact rfl); (· assumption); intro b1 H1 hB) | (apply op_at; (· exact rfl)) | (apply dwp_cond_t; (· exact rfl); (· (with_reducible first | assumption | rfl | decide))) | (apply dwp_cond_f; (· exact rfl); (· (with_reducible first | assumption | rfl | decide))) | apply dwp_block | apply dwp_skip | apply dwp_ret | (refine ⟨_, rfl, ?_⟩) | fail)
                  exact ⟨rfl, hB.ab⟩
                | false =>
                  refine enter rfl Tryd.func14 rfl Tryd.ntmps14 rfl ?_
                  dsimp only [List.cons_append, List.nil_append, List.length_cons, List.length_nil, List.replicate_succ, List.replicate_zero, Nat.reduceAdd, Nat.reduceSub]
                  repeat' (first | dsimp only [putD, DV.cells, DH.new_next, DH.set_next, List.length_cons, List.length_nil, Nat.reduceAdd, List.set_cons_zero, List.set_cons_succ, getD_zero, getD_succ, fieldAt_zero, fieldAt_succ, thenD, blockD, retR] | apply dwp_seq | apply dwp_region | apply ops_nil | (apply ops_plain; (· exact rfl)) | (apply ops_off1; (· exact rfl); (· exact rfl); (· (with_reducible first | assumption | rfl | decide))) | (apply op_pick_f; (· exact rfl); (· exact rfl); (· (with_reducible first | assumption | rfl | decide)); (· exact rfl)) | (apply bx_load0; (· exact rfl); (· exact rfl); (· assumption); (· (repeat (first | with_reducible exact At.here | with_reducible apply At.there | with_reducible apply at_app))); (· (first | exact partInj _ _ _ _ | exact partEv _ _ _ _ _ | exact rfl))) | (apply bx_box; (· exact rfl); (· exact rfl); (· (first | (dsimp only [DV.cells, getD_zero, getD_succ, Sv.cells]; done) | (dsimp only [DV.cells, getD_zero, getD_succ, Sv.cells]; exact rfl) | exact rfl)); (· exact rfl); (· exact rfl); (· assumption); intro b1 H1 hB) | (apply op_at; (· exact rfl)) | (apply dwp_cond_t; (· exact rfl); (· (with_reducible first | assumption | rfl | decide))) | (apply dwp_cond_f; (· exact rfl); (· (with_reducible first | assumption | rfl | decide))) | apply dwp_block | apply dwp_skip | apply dwp_ret | (refine ⟨_, rfl, ?_⟩) | fail)
                  exact ⟨rfl, hB.ab⟩
              | false =>
                cases hy13 : (yk == 13) with
                | true =>
                  rw [if_pos (by have : yk = 13 := by simpa using hy13
                                 omega)]
                  cases hb : (yb == xw) with
                  | true =>
                    refine enter rfl Tryd.func14 rfl Tryd.ntmps14 rfl ?_
                    dsimp only [List.cons_append, List.nil_append, List.length_cons, List.length_nil, List.replicate_succ, List.replicate_zero, Nat.reduceAdd, Nat.reduceSub]
                    repeat' (first | dsimp only [putD, DV.cells, DH.new_next, DH.set_next, List.length_cons, List.length_nil, Nat.reduceAdd, List.set_cons_zero, List.set_cons_succ, getD_zero, getD_succ, fieldAt_zero, fieldAt_succ, thenD, blockD, retR] | apply dwp_seq | apply dwp_region | apply ops_nil | (apply ops_plain; (· exact rfl)) | (apply ops_on; (· exact rfl); (· exact rfl); (· (with_reducible first | assumption | rfl | decide))) | (apply op_pick_t; (· exact rfl); (· exact rfl); (· (with_reducible first | assumption | rfl | decide)); (· exact rfl)) | (apply bx_load0; (· exact rfl); (· exact rfl); (· assumption); (· (repeat (first | with_reducible exact At.here | with_reducible apply At.there | with_reducible apply at_app))); (· (first | exact partInj _ _ _ _ | exact partEv _ _ _ _ _ | exact rfl))) | (apply bx_box; (· exact rfl); (· exact rfl); (· (first | (dsimp only [DV.cells, getD_zero, getD_succ, Sv.cells]; done) | (dsimp only [DV.cells, getD_zero, getD_succ, Sv.cells]; exact rfl) | exact rfl)); (· exact rfl); (· exact rfl); (· assumption); intro b1 H1 hB) | (apply op_at; (· exact rfl)) | (apply dwp_cond_t; (· exact rfl); (· (with_reducible first | assumption | rfl | decide))) | (apply dwp_cond_f; (· exact rfl); (· (with_reducible first | assumption | rfl | decide))) | apply dwp_block | apply dwp_ret | (refine ⟨_, rfl, ?_⟩) | fail)
                    exact ⟨rfl, hB.ab⟩
                  | false =>
                    refine enter rfl Tryd.func14 rfl Tryd.ntmps14 rfl ?_
                    dsimp only [List.cons_append, List.nil_append, List.length_cons, List.length_nil, List.replicate_succ, List.replicate_zero, Nat.reduceAdd, Nat.reduceSub]
                    repeat' (first | dsimp only [putD, DV.cells, DH.new_next, DH.set_next, List.length_cons, List.length_nil, Nat.reduceAdd, List.set_cons_zero, List.set_cons_succ, getD_zero, getD_succ, fieldAt_zero, fieldAt_succ, thenD, blockD, retR] | apply dwp_seq | apply dwp_region | apply ops_nil | (apply ops_plain; (· exact rfl)) | (apply ops_off1; (· exact rfl); (· exact rfl); (· (with_reducible first | assumption | rfl | decide))) | (apply op_pick_f; (· exact rfl); (· exact rfl); (· (with_reducible first | assumption | rfl | decide)); (· exact rfl)) | (apply bx_load0; (· exact rfl); (· exact rfl); (· assumption); (· (repeat (first | with_reducible exact At.here | with_reducible apply At.there | with_reducible apply at_app))); (· (first | exact partInj _ _ _ _ | exact partEv _ _ _ _ _ | exact rfl))) | (apply bx_box; (· exact rfl); (· exact rfl); (· (first | (dsimp only [DV.cells, getD_zero, getD_succ, Sv.cells]; done) | (dsimp only [DV.cells, getD_zero, getD_succ, Sv.cells]; exact rfl) | exact rfl)); (· exact rfl); (· exact rfl); (· assumption); intro b1 H1 hB) | (apply op_at; (· exact rfl)) | (apply dwp_cond_t; (· exact rfl); (· (with_reducible first | assumption | rfl | decide))) | (apply dwp_cond_f; (· exact rfl); (· (with_reducible first | assumption | rfl | decide))) | apply dwp_block | apply dwp_ret | (refine ⟨_, rfl, ?_⟩) | fail)
                    exact ⟨rfl, hB.ab⟩
                | false =>
                  rw [if_neg (by simp at hy4 hy5 hy13; omega)]
                  refine enter rfl Tryd.func14 rfl Tryd.ntmps14 rfl ?_
                  dsimp only [List.cons_append, List.nil_append, List.length_cons, List.length_nil, List.replicate_succ, List.replicate_zero, Nat.reduceAdd, Nat.reduceSub]
                  repeat' (first | dsimp only [putD, DV.cells, DH.new_next, DH.set_next, List.length_cons, List.length_nil, Nat.reduceAdd, List.set_cons_zero, List.set_cons_succ, getD_zero, getD_succ, fieldAt_zero, fieldAt_succ, thenD, blockD, retR] | apply dwp_seq | apply dwp_region | apply ops_nil | (apply ops_plain; (· exact rfl)) | (apply bx_load0; (· exact rfl); (· exact rfl); (· assumption); (· (repeat (first | with_reducible exact At.here | with_reducible apply At.there | with_reducible apply at_app))); (· (first | exact partInj _ _ _ _ | exact partEv _ _ _ _ _ | exact rfl))) | (apply bx_box; (· exact rfl); (· exact rfl); (· (first | (dsimp only [DV.cells, getD_zero, getD_succ, Sv.cells]; done) | (dsimp only [DV.cells, getD_zero, getD_succ, Sv.cells]; exact rfl) | exact rfl)); (· exact rfl); (· exact rfl); (· assumption); intro b1 H1 hB) | (apply op_at; (· exact rfl)) | (apply dwp_cond_t; (· exact rfl); (· (with_reducible first | assumption | rfl | decide))) | (apply dwp_cond_f; (· exact rfl); (· (with_reducible first | assumption | rfl | decide))) | apply dwp_block | apply dwp_skip | apply dwp_ret | (refine ⟨_, rfl, ?_⟩) | fail)
                  exact ⟨rfl, hB.ab⟩
          | false =>
            rw [if_neg (by simp at hk1 hk2 hk4 hk5; omega)]
            refine enter rfl Tryd.func14 rfl Tryd.ntmps14 rfl ?_
            dsimp only [List.cons_append, List.nil_append, List.length_cons, List.length_nil, List.replicate_succ, List.replicate_zero, Nat.reduceAdd, Nat.reduceSub]
            repeat' (first | dsimp only [putD, DV.cells, DH.new_next, DH.set_next, List.length_cons, List.length_nil, Nat.reduceAdd, List.set_cons_zero, List.set_cons_succ, getD_zero, getD_succ, fieldAt_zero, fieldAt_succ, thenD, blockD, retR] | apply dwp_seq | apply dwp_region | apply ops_nil | (apply ops_plain; (· exact rfl)) | (apply bx_load0; (· exact rfl); (· exact rfl); (· assumption); (· (repeat (first | with_reducible exact At.here | with_reducible apply At.there | with_reducible apply at_app))); (· (first | exact partInj _ _ _ _ | exact partEv _ _ _ _ _ | exact rfl))) | (apply bx_box; (· exact rfl); (· exact rfl); (· (first | (dsimp only [DV.cells, getD_zero, getD_succ, Sv.cells]; done) | (dsimp only [DV.cells, getD_zero, getD_succ, Sv.cells]; exact rfl) | exact rfl)); (· exact rfl); (· exact rfl); (· assumption); intro b1 H1 hB) | (apply op_at; (· exact rfl)) | (apply dwp_cond_f; (· exact rfl); (· (with_reducible first | assumption | rfl | decide))) | apply dwp_block | apply dwp_skip | apply dwp_ret | (refine ⟨_, rfl, ?_⟩) | fail)
            exact ⟨rfl, hB.ab⟩
/-! ### times -/
def fitB (a : Int) : Bool := decide (a ≤ 1152921504606846976) && decide (-1152921504606846976 ≤ a)
theorem far89e (a : Int) (H : DH) : CallWp Tryd.prog X1 89 [.int .i64 a] H (fun r H' => r = .bool (!fitB a) ∧ H' = H) := by
  cases h1 : decide (a > 1152921504606846976) with
  | true =>
    have e : fitB a = false := by unfold fitB; simp at h1 ⊢; omega
    rw [e]
    refine enter rfl Tryd.func89 rfl Tryd.ntmps89 rfl ?_
    dsimp only [List.cons_append, List.nil_append, List.length_cons, List.length_nil, List.replicate_succ, List.replicate_zero, Nat.reduceAdd, Nat.reduceSub]
    repeat' (first | dsimp only [putD, DV.cells, DH.new_next, DH.set_next, List.length_cons, List.length_nil, Nat.reduceAdd, List.set_cons_zero, List.set_cons_succ, getD_zero, getD_succ, fieldAt_zero, fieldAt_succ, thenD, blockD, retR] | apply dwp_seq | apply dwp_region | apply ops_nil | (apply ops_plain; (· exact rfl)) | (apply ops_off0; (· exact rfl); (· exact rfl); (· (with_reducible first | assumption | rfl | decide))) | (apply op_pick_t; (· exact rfl); (· exact rfl); (· (with_reducible first | assumption | rfl | decide)); (· exact rfl)) | (apply op_at; (· exact rfl)) | apply dwp_ret | (refine ⟨_, rfl, ?_⟩) | fail)
    exact ⟨rfl, rfl⟩
  | false =>
    cases h2 : decide (a < -1152921504606846976) with
    | true =>
      have e : fitB a = false := by unfold fitB; simp at h1 h2 ⊢; omega
      rw [e]
      refine enter rfl Tryd.func89 rfl Tryd.ntmps89 rfl ?_
      dsimp only [List.cons_append, List.nil_append, List.length_cons, List.length_nil, List.replicate_succ, List.replicate_zero, Nat.reduceAdd, Nat.reduceSub]
      repeat' (first | dsimp only [putD, DV.cells, DH.new_next, DH.set_next, List.length_cons, List.length_nil, Nat.reduceAdd, List.set_cons_zero, List.set_cons_succ, getD_zero, getD_succ, fieldAt_zero, fieldAt_succ, thenD, blockD, retR] | apply dwp_seq | apply dwp_region | apply ops_nil | (apply ops_plain; (· exact rfl)) | (apply ops_on; (· exact rfl); (· exact rfl); (· (with_reducible first | assumption | rfl | decide))) | (apply op_pick_f; (· exact rfl); (· exact rfl); (· (with_reducible first | assumption | rfl | decide)); (· exact rfl)) | (apply op_at; (· exact rfl)) | apply dwp_ret | (refine ⟨_, rfl, ?_⟩) | fail)
      exact ⟨by rw [h2]; rfl, rfl⟩
    | false =>
      have e : fitB a = true := by unfold fitB; simp at h1 h2 ⊢; omega
      rw [e]
      refine enter rfl Tryd.func89 rfl Tryd.ntmps89 rfl ?_
      dsimp only [List.cons_append, List.nil_append, List.length_cons, List.length_nil, List.replicate_succ, List.replicate_zero, Nat.reduceAdd, Nat.reduceSub]
      repeat' (first | dsimp only [putD, DV.cells, DH.new_next, DH.set_next, List.length_cons, List.length_nil, Nat.reduceAdd, List.set_cons_zero, List.set_cons_succ, getD_zero, getD_succ, fieldAt_zero, fieldAt_succ, thenD, blockD, retR] | apply dwp_seq | apply dwp_region | apply ops_nil | (apply ops_plain; (· exact rfl)) | (apply ops_on; (· exact rfl); (· exact rfl); (· (with_reducible first | assumption | rfl | decide))) | (apply op_pick_f; (· exact rfl); (· exact rfl); (· (with_reducible first | assumption | rfl | decide)); (· exact rfl)) | (apply op_at; (· exact rfl)) | apply dwp_ret | (refine ⟨_, rfl, ?_⟩) | fail)
      exact ⟨by rw [h2]; rfl, rfl⟩
/-- What lies in a slice of two times, or of one. -/
inductive TimesE (H : DH) : List Int → DV → Prop
  | two {b : Nat} {x y : Int} : H.obj b = some (.rows false 1 [[.int .i64 x], [.int .i64 y]]) → TimesE H [x, y] (.sl (some (b, 0, 1)) 2 2 true)
  | one {b : Nat} {x : Int} : H.obj b = some (.rows false 1 [[.int .i64 x]]) → TimesE H [x] (.sl (some (b, 0, 1)) 1 1 true)
theorem index99e {l : List Int} {s : DV} {H : DH} (h : TimesE H l s) : CallWp Tryd.prog X1 99 [s, .func (.func 89) [] []] H (fun r H' => (∃ q, r = .int .i64 q ∧ decide (q ≥ 0) = !(l.all fitB)) ∧ H' = H) := by
  cases h with
  | two h =>
    rename_i b x y
    cases hx : fitB x with
    | true =>
      cases hy : fitB y with
      | true =>
        refine enter rfl Tryd.func99 rfl Tryd.ntmps99 rfl ?_
        dsimp only [List.cons_append, List.nil_append, List.length_cons, List.length_nil, List.replicate_succ, List.replicate_zero, Nat.reduceAdd, Nat.reduceSub]
        repeat' (first | dsimp only [putD, DV.cells, DH.new_next, DH.set_next, List.length_cons, List.length_nil, Nat.reduceAdd, List.set_cons_zero, List.set_cons_succ, getD_zero, getD_succ, fieldAt_zero, fieldAt_succ, thenD, blockD, retR] | refine dwp_round ?_ | apply dwp_seq | apply dwp_region | apply ops_nil | (apply ops_plain; (· exact rfl)) | (apply op_call; (· exact rfl); (· exact rfl); (· exact rfl); (refine (far89e _ _).mono ?_; rintro r H' ⟨rfl, rfl⟩; first | rw [hx] | rw [hy])) | (apply op_load_at; (· exact rfl); (· exact rfl); (· exact h); (· exact rfl); (· exact rfl)) | (apply op_at; (· exact rfl)) | (apply dwp_cond_t; (· exact rfl); (· (with_reducible first | assumption | rfl | decide))) | (apply dwp_cond_f; (· exact rfl); (· (with_reducible first | assumption | rfl | decide))) | apply dwp_block | apply dwp_skip | apply dwp_ret | apply dwp_exit | (refine ⟨_, rfl, ?_⟩) | fail)
        exact ⟨⟨_, rfl, by simp [hx, hy] <;> decide⟩, rfl⟩
      | false =>
        refine enter rfl Tryd.func99 rfl Tryd.ntmps99 rfl ?_
        dsimp only [List.cons_append, List.nil_append, List.length_cons, List.length_nil, List.replicate_succ, List.replicate_zero, Nat.reduceAdd, Nat.reduceSub]
        repeat' (first | dsimp only [putD, DV.cells, DH.new_next, DH.set_next, List.length_cons, List.length_nil, Nat.reduceAdd, List.set_cons_zero, List.set_cons_succ, getD_zero, getD_succ, fieldAt_zero, fieldAt_succ, thenD, blockD, retR] | refine dwp_round ?_ | apply dwp_seq | apply dwp_region | apply ops_nil | (apply ops_plain; (· exact rfl)) | (apply op_call; (· exact rfl); (· exact rfl); (· exact rfl); (refine (far89e _ _).mono ?_; rintro r H' ⟨rfl, rfl⟩; first | rw [hx] | rw [hy])) | (apply op_load_at; (· exact rfl); (· exact rfl); (· exact h); (· exact rfl); (· exact rfl)) | (apply op_at; (· exact rfl)) | (apply dwp_cond_t; (· exact rfl); (· (with_reducible first | assumption | rfl | decide))) | (apply dwp_cond_f; (· exact rfl); (· (with_reducible first | assumption | rfl | decide))) | apply dwp_block | apply dwp_skip | apply dwp_ret | (refine ⟨_, rfl, ?_⟩) | fail)
        exact ⟨⟨_, rfl, by simp [hx, hy] <;> decide⟩, rfl⟩
    | false =>
      refine enter rfl Tryd.func99 rfl Tryd.ntmps99 rfl ?_
      dsimp only [List.cons_append, List.nil_append, List.length_cons, List.length_nil, List.replicate_succ, List.replicate_zero, Nat.reduceAdd, Nat.reduceSub]
      repeat' (first | dsimp only [putD, DV.cells, DH.new_next, DH.set_next, List.length_cons, List.length_nil, Nat.reduceAdd, List.set_cons_zero, List.set_cons_succ, getD_zero, getD_succ, fieldAt_zero, fieldAt_succ, thenD, blockD, retR] | refine dwp_round ?_ | apply dwp_seq | apply dwp_region | apply ops_nil | (apply ops_plain; (· exact rfl)) | (apply op_call; (· exact rfl); (· exact rfl); (· exact rfl); (refine (far89e _ _).mono ?_; rintro r H' ⟨rfl, rfl⟩; first | rw [hx] | rw [hy])) | (apply op_load_at; (· exact rfl); (· exact rfl); (· exact h); (· exact rfl); (· exact rfl)) | (apply op_at; (· exact rfl)) | (apply dwp_cond_t; (· exact rfl); (· (with_reducible first | assumption | rfl | decide))) | apply dwp_block | apply dwp_skip | apply dwp_ret | (refine ⟨_, rfl, ?_⟩) | fail)
      exact ⟨⟨_, rfl, by simp [hx] <;> decide⟩, rfl⟩
  | one h =>
    rename_i b x
    cases hx : fitB x with
    | true =>
      refine enter rfl Tryd.func99 rfl Tryd.ntmps99 rfl ?_
      dsimp only [List.cons_append, List.nil_append, List.length_cons, List.length_nil, List.replicate_succ, List.replicate_zero, Nat.reduceAdd, Nat.reduceSub]
      repeat' (first | dsimp only [putD, DV.cells, DH.new_next, DH.set_next, List.length_cons, List.length_nil, Nat.reduceAdd, List.set_cons_zero, List.set_cons_succ, getD_zero, getD_succ, fieldAt_zero, fieldAt_succ, thenD, blockD, retR] | refine dwp_round ?_ | apply dwp_seq | apply dwp_region | apply ops_nil | (apply ops_plain; (· exact rfl)) | (apply op_call; (· exact rfl); (· exact rfl); (· exact rfl); (refine (far89e _ _).mono ?_; rintro r H' ⟨rfl, rfl⟩; first | rw [hx] | rw [hy])) | (apply op_load_at; (· exact rfl); (· exact rfl); (· exact h); (· exact rfl); (· exact rfl)) | (apply op_at; (· exact rfl)) | (apply dwp_cond_t; (· exact rfl); (· (with_reducible first | assumption | rfl | decide))) | (apply dwp_cond_f; (· exact rfl); (· (with_reducible first | assumption | rfl | decide))) | apply dwp_block | apply dwp_skip | apply dwp_ret | apply dwp_exit | (refine ⟨_, rfl, ?_⟩) | fail)
      exact ⟨⟨_, rfl, by simp [hx] <;> decide⟩, rfl⟩
    | false =>
      refine enter rfl Tryd.func99 rfl Tryd.ntmps99 rfl ?_
      dsimp only [List.cons_append, List.nil_append, List.length_cons, List.length_nil, List.replicate_succ, List.replicate_zero, Nat.reduceAdd, Nat.reduceSub]
      repeat' (first | dsimp only [putD, DV.cells, DH.new_next, DH.set_next, List.length_cons, List.length_nil, Nat.reduceAdd, List.set_cons_zero, List.set_cons_succ, getD_zero, getD_succ, fieldAt_zero, fieldAt_succ, thenD, blockD, retR] | refine dwp_round ?_ | apply dwp_seq | apply dwp_region | apply ops_nil | (apply ops_plain; (· exact rfl)) | (apply op_call; (· exact rfl); (· exact rfl); (· exact rfl); (refine (far89e _ _).mono ?_; rintro r H' ⟨rfl, rfl⟩; first | rw [hx] | rw [hy])) | (apply op_load_at; (· exact rfl); (· exact rfl); (· exact h); (· exact rfl); (· exact rfl)) | (apply op_at; (· exact rfl)) | (apply dwp_cond_t; (· exact rfl); (· (with_reducible first | assumption | rfl | decide))) | apply dwp_block | apply dwp_skip | apply dwp_ret | (refine ⟨_, rfl, ?_⟩) | fail)
      exact ⟨⟨_, rfl, by simp [hx] <;> decide⟩, rfl⟩
theorem may69e {l : List Int} {s : DV} {H : DH} (h : TimesE H l s) : CallWp Tryd.prog X1 69 [s] H (fun r H' => r = .bool (l.all fitB) ∧ H' = H) := by
  have has : CallWp Tryd.prog X1 88 [s, .func (.func 89) [] []] H (fun r H' => r = .bool (!(l.all fitB)) ∧ H' = H) := by
    refine enter rfl Tryd.func88 rfl Tryd.ntmps88 rfl ?_
    dsimp only [List.cons_append, List.nil_append, List.length_cons, List.length_nil, List.replicate_succ, List.replicate_zero, Nat.reduceAdd, Nat.reduceSub]
    repeat' (first | dsimp only [putD, DV.cells, DH.new_next, DH.set_next, List.length_cons, List.length_nil, Nat.reduceAdd, List.set_cons_zero, List.set_cons_succ, getD_zero, getD_succ, fieldAt_zero, fieldAt_succ, thenD, blockD, retR] | apply dwp_seq | apply dwp_region | apply ops_nil | (apply ops_plain; (· exact rfl)) | (apply op_call; (· exact rfl); (· exact rfl); (· exact rfl); (refine (index99e h).mono ?_; rintro r H' ⟨⟨q, rfl, hq⟩, rfl⟩)) | (apply op_at; (· exact rfl)) | apply dwp_ret | (refine ⟨_, rfl, ?_⟩) | fail)
    exact ⟨by rw [hq], rfl⟩
  refine enter rfl Tryd.func69 rfl Tryd.ntmps69 rfl ?_
  dsimp only [List.cons_append, List.nil_append, List.length_cons, List.length_nil, List.replicate_succ, List.replicate_zero, Nat.reduceAdd, Nat.reduceSub]
  repeat' (first | dsimp only [putD, DV.cells, DH.new_next, DH.set_next, List.length_cons, List.length_nil, Nat.reduceAdd, List.set_cons_zero, List.set_cons_succ, getD_zero, getD_succ, fieldAt_zero, fieldAt_succ, thenD, blockD, retR] | apply dwp_seq | apply dwp_region | apply ops_nil | (apply ops_plain; (· exact rfl)) | (apply op_call; (· exact rfl); (· exact rfl); (· exact rfl); (refine has.mono ?_; rintro r H' ⟨rfl, rfl⟩)) | (apply op_at; (· exact rfl)) | apply dwp_ret | (refine ⟨_, rfl, ?_⟩) | fail)
  exact ⟨by rw [Bool.not_not], rfl⟩
theorem up13' : ExtLe X1 X3 := extLe_more (M := []) (T := []) (E := E1) (by decide +kernel)
end Go.Det.C
