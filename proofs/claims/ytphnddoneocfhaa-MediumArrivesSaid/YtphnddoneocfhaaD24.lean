/- What a typed row looks like. -/
import Derived.Test.YtphnddoneocfhaaD23
namespace Go.Det
set_option linter.unusedVariables false

section
variable {P : Program} {H : DH} {t : TypeId} {cs : List DV}

theorem typed_bool (hu : P.underlying t = some .bool) (h : Typed P H t cs) : ∃ b, cs = [.bool b] := by
  cases h <;> simp_all

theorem typed_int {k : IntKind} (hu : P.underlying t = some (.int k)) (h : Typed P H t cs) : ∃ n, cs = [.int k n] ∧ (Lit.int k n).wf = true := by
  cases h <;> simp_all

theorem typed_str (hu : P.underlying t = some .string) (h : Typed P H t cs) : ∃ s, cs = [.str s] ∧ s.length ≤ maxLen := by
  cases h <;> simp_all

theorem typed_slice {e : TypeId} (hu : P.underlying t = some (.slice e)) (h : Typed P H t cs) : cs = [.sl none 0 0 true] ∨
    ∃ l n rs, cs = [.sl (some (l, 0, P.cellsOf e)) n rs.length true] ∧ H.obj l = some (.rows true (P.cellsOf e) rs) ∧ n ≤ rs.length ∧ rs.length ≤ maxLen ∧ ∀ (i : Nat) (r : List DV), rs[i]? = some r → Typed P H e r := by
  cases h with
  | nil h1 => exact .inl rfl
  | @slice _ e' l n rs h1 h2 h3 h4 h5 =>
    rw [hu] at h1
    cases h1
    exact .inr ⟨l, n, rs, rfl, h2, h3, h4, h5⟩
  | bool h1 => rw [hu] at h1; cases h1
  | int h1 => rw [hu] at h1; cases h1
  | str h1 => rw [hu] at h1; cases h1
  | struct h1 => rw [hu] at h1; cases h1
  | array h1 => rw [hu] at h1; cases h1

theorem typed_struct {fs : Array Field} (hu : P.underlying t = some (.struct fs)) (h : Typed P H t cs) : cs.length = P.cellsOf t ∧ ∀ f ∈ fs.toList, Typed P H f.type ((cs.drop f.offset).take (P.cellsOf f.type)) := by
  cases h with
  | struct h1 h2 h3 =>
    rw [hu] at h1
    cases h1
    exact ⟨h2, h3⟩
  | nil h1 => rw [hu] at h1; cases h1
  | slice h1 => rw [hu] at h1; cases h1
  | bool h1 => rw [hu] at h1; cases h1
  | int h1 => rw [hu] at h1; cases h1
  | str h1 => rw [hu] at h1; cases h1
  | array h1 => rw [hu] at h1; cases h1

theorem targ_agg {fs : Array Field} {d : DV} (hu : P.underlying t = some (.struct fs)) (h : TArg P H t d) : ∃ ds, d = .agg ds ∧ Typed P H t ds := by
  unfold TArg at h
  rw [hu] at h
  exact h

theorem targ_one {d : DV} (hu : ∀ fs, P.underlying t ≠ some (.struct fs)) (hu' : ∀ n e, P.underlying t ≠ some (.array n e)) (h : TArg P H t d) : Typed P H t [d] := by
  unfold TArg at h
  split at h
  · rename_i fs e; exact absurd e (hu fs)
  · rename_i n e' e; exact absurd e (hu' n e')
  · exact h

theorem len6 {α : Type} {l : List α} (h : l.length = 6) : ∃ a b c d e f, l = [a, b, c, d, e, f] := by
  match l, h with
  | [a, b, c, d, e, f], _ => exact ⟨a, b, c, d, e, f, rfl⟩
theorem len8 {α : Type} {l : List α} (h : l.length = 8) : ∃ a b c d e f g i, l = [a, b, c, d, e, f, g, i] := by
  match l, h with
  | [a, b, c, d, e, f, g, i], _ => exact ⟨a, b, c, d, e, f, g, i, rfl⟩
end
end Go.Det
