/- A region that draws its order: whatever the order, it comes to what the text's order comes to. -/
import Derived.Test.YtphnddoneocfhaaD14
namespace Go.Det
set_option linter.unusedVariables false
set_option linter.unusedSimpArgs false

/-- What an operation reads of the slots. -/
theorem evs_congr {ev ev' : Ev} : ∀ {xs : List Operand}, (∀ x ∈ xs, ev x = ev' x) → evs ev xs = evs ev' xs
  | [], _ => rfl
  | x :: r, h => by simp only [evs]; rw [h x (by simp), evs_congr fun y hy => h y (by simp [hy])]
theorem evParts_congr {ev ev' : Ev} : ∀ {xs : List (Nat × Operand)}, (∀ x ∈ xs.map (·.2), ev x = ev' x) → evParts ev xs = evParts ev' xs
  | [], _ => rfl
  | (i, x) :: r, h => by simp only [evParts]; rw [h x (by simp), evParts_congr fun y hy => h y (by simp at hy ⊢; exact .inr hy)]
theorem evOpt_congr {ev ev' : Ev} {x : Option Operand} (h : ∀ y ∈ x.toList, ev y = ev' y) : evOpt ev x = evOpt ev' x := by
  cases x with
  | none => rfl
  | some x => simp only [evOpt]; rw [h x (by simp)]

theorem args_congr {P : Program} {ev ev' : Ev} {c : Call} (h : ∀ x ∈ c.operands, ev x = ev' x) : evs ev c.args.toList = evs ev' c.args.toList :=
  evs_congr fun x hx => h x (by simp [Call.operands]; exact .inr (by simpa using hx))

theorem calleeD_congr {P : Program} {ev ev' : Ev} {c : Call} (h : ∀ x ∈ c.operands, ev x = ev' x) : calleeD P ev c = calleeD P ev' c := by
  unfold calleeD
  rw [args_congr (P := P) h]
  cases hc : c.callee with
  | value f =>
    have := h f (by simp [Call.operands, hc])
    cases evs ev' c.args.toList with
    | none => rfl
    | some as => simp only [this]
  | invoke r m =>
    have := h r (by simp [Call.operands, hc])
    cases evs ev' c.args.toList with
    | none => rfl
    | some as => simp only [this]
  | builtin b => rfl

theorem list1 {α β : Type} {f g : α → β} {l : List α} {d : β} (h : ∀ x ∈ l, f x = g x) : (match l with | [x] => f x | _ => d) = (match l with | [x] => g x | _ => d) := by
  cases l with
  | nil => rfl
  | cons x r => cases r with
    | nil => exact h x (by simp)
    | cons => rfl

set_option maxHeartbeats 1000000 in
theorem pureD_congr {P : Program} {ev ev' : Ev} {o : Oper} (h : ∀ x ∈ o.op.operands, ev x = ev' x) : pureD P o ev = pureD P o ev' := by
  obtain ⟨dst, op, type, pos, after, guard⟩ := o
  cases op <;> simp only [Op.operands] at h <;> simp only [pureD]
  case move x => exact h x (by simp)
  case assign x => exact h x (by simp)
  case pick c a b => rw [h c (by simp), h a (by simp), h b (by simp)]
  case build t ps => rw [evParts_congr (fun x hx => h x (by simpa using hx))]
  case nilCheck x => rw [h x (by simp)]
  case binOp op t x y u => rw [h x (by simp), h y (by simp)]
  case unOp op t x => rw [h x (by simp)]
  case convert s d x => rw [h x (by simp)]
  case makeInterface t x => rw [h x (by simp)]
  case makeFunc fn a c => rw [evs_congr (xs := a.toList) (fun x hx => h x (by simp; exact .inl (by simpa using hx))), evs_congr (xs := c.toList) (fun x hx => h x (by simp; exact .inr (by simpa using hx)))]
  case slice t x lo hi mx => rw [h x (by simp), evOpt_congr (x := lo) (fun y hy => h y (by simp at hy ⊢; simp [hy])), evOpt_congr (x := hi) (fun y hy => h y (by simp at hy ⊢; simp [hy])), evOpt_congr (x := mx) (fun y hy => h y (by simp at hy ⊢; simp [hy]))]
  case fieldAddr s x f => rw [h x (by simp)]
  case field s x f => rw [h x (by simp)]
  case indexAddr t x i => rw [h x (by simp), h i (by simp)]
  case index t x i => rw [h x (by simp), h i (by simp)]
  case typeAssert x a b c => rw [h x (by simp)]
  case extract t i => rw [h t (by simp)]
  case call c =>
    obtain ⟨callee, args, ts⟩ := c
    have ha := args_congr (P := P) h
    have h1 : ∀ x ∈ args.toList, ev x = ev' x := fun x hx => h x (by simp [Call.operands]; exact .inr (by simpa using hx))
    obtain ⟨args⟩ := args
    obtain ⟨ts⟩ := ts
    cases callee with
    | value f => rfl
    | invoke r n => rfl
    | builtin b =>
      cases b <;> try rfl
      · simp only at ha h1 ⊢
        match args, ts with
        | [], _ => rfl
        | [x], [] => rfl
        | [x], [t] => simp only; rw [h1 x (by simp)]
        | [x], _ :: _ :: _ => rfl
        | _ :: _ :: _, _ => rfl
      · simp only at ha ⊢; rw [ha]
      · simp only at ha ⊢; rw [ha]
  all_goals rfl

set_option maxHeartbeats 1000000 in
theorem readD_congr {P : Program} {ev ev' : Ev} {o : Oper} {H : DH} (h : ∀ x ∈ o.op.operands, ev x = ev' x) : readD P o ev H = readD P o ev' H := by
  obtain ⟨dst, op, type, pos, after, guard⟩ := o
  cases op <;> simp only [Op.operands] at h <;> simp only [readD]
  case load t x => rw [h x (by simp)]
  case lookup t x k ok => rw [h x (by simp), h k (by simp)]
  case convert s d x => rw [h x (by simp)]
  case call c =>
    obtain ⟨callee, args, ts⟩ := c
    have h1 : ∀ x ∈ args.toList, ev x = ev' x := fun x hx => h x (by simp [Call.operands]; exact .inr (by simpa using hx))
    obtain ⟨args⟩ := args
    obtain ⟨ts⟩ := ts
    cases callee with
    | value f => rfl
    | invoke r n => rfl
    | builtin b =>
      cases b <;> try rfl
      · simp only at h1 ⊢
        match args, ts with
        | [], _ => rfl
        | [x], [] => rfl
        | [x], [t] => simp only; rw [h1 x (by simp)]
        | [x], _ :: _ :: _ => rfl
        | _ :: _ :: _, _ => rfl
  all_goals rfl

set_option maxHeartbeats 1000000 in
theorem moveD_congr {P : Program} {ev ev' : Ev} {o : Oper} {H : DH} (h : ∀ x ∈ o.op.operands, ev x = ev' x) : moveD P o ev H = moveD P o ev' H := by
  obtain ⟨dst, op, type, pos, after, guard⟩ := o
  cases op <;> simp only [Op.operands] at h <;> simp only [moveD]
  case box t x => rw [h x (by simp)]
  case buildSlice t n ps => rw [evParts_congr (fun x hx => h x (by simpa using hx))]
  case store t a x => rw [h a (by simp), h x (by simp)]
  case makeSlice t a x => rw [h a (by simp), h x (by simp)]
  case makeMap t r =>
    cases r with
    | none =>
      cases P.underlying t with
      | none => rfl
      | some td => cases td <;> rfl
    | some x =>
      have hx := h x (by simp)
      cases P.underlying t with
      | none => rfl
      | some td => cases td <;> first | rfl | (simp only; rw [hx])
  case mapUpdate t m k x => rw [h m (by simp), h k (by simp), h x (by simp)]
  case insert t m k x => rw [h m (by simp), h k (by simp), h x (by simp)]
  case range t x => rw [h x (by simp)]
  case next x b => cases b with
    | true => simp only; rw [h x (by simp)]
    | false => rfl
  case convert s d x => rw [h x (by simp)]
  case call c =>
    obtain ⟨callee, args, ts⟩ := c
    have h1 : ∀ x ∈ args.toList, ev x = ev' x := fun x hx => h x (by simp [Call.operands]; exact .inr (by simpa using hx))
    obtain ⟨args⟩ := args
    obtain ⟨ts⟩ := ts
    cases callee with
    | value f => rfl
    | invoke r n => rfl
    | builtin b =>
      cases b <;> try rfl
      · simp only at h1 ⊢
        match args, ts with
        | [x, y], [s, t] => simp only; rw [h1 x (by simp), h1 y (by simp)]
        | [], _ => rfl
        | [_], _ => rfl
        | _ :: _ :: _ :: _, _ => rfl
        | [_, _], [] => rfl
        | [_, _], [_] => rfl
        | [_, _], _ :: _ :: _ :: _ => rfl
      · simp only at h1 ⊢
        match args, ts with
        | [x], [t] => simp only; rw [h1 x (by simp)]
        | [], _ => rfl
        | [x], [] => rfl
        | [x], _ :: _ :: _ => rfl
        | _ :: _ :: _, _ => rfl
      · simp only at h1 ⊢
        match args, ts with
        | [x, y], [s, t] => simp only; rw [h1 x (by simp), h1 y (by simp)]
        | [], _ => rfl
        | [_], _ => rfl
        | _ :: _ :: _ :: _, _ => rfl
        | [_, _], [] => rfl
        | [_, _], [_] => rfl
        | [_, _], _ :: _ :: _ :: _ => rfl
  all_goals rfl

theorem opD_congr {P : Program} {cf : CallF} {env env' : List DV} {o : Oper} {H : DH} (h : ∀ x ∈ o.op.operands, evalO env x = evalO env' x) : opD P cf o env H = opD P cf o env' H := by
  unfold opD
  split
  · rename_i f as ts hop
    rw [hop] at h
    rw [calleeD_congr (P := P) h]
  · rename_i r n as ts hop
    rw [hop] at h
    rw [calleeD_congr (P := P) h]
  · rw [pureD_congr h, readD_congr h, moveD_congr h]

end Go.Det
