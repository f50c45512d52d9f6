/- The deterministic reading of code: regions in the text's order, loops, calls; each with a number of rounds that it may take. -/
import Derived.Test.YtphnddoneocfhaaD0
namespace Go.Det
set_option linter.unusedVariables false

structure DSt where
  env : List DV
  H : DH

inductive DExit where
  | normal
  | exit (id : Nat)
  | ret
  deriving DecidableEq

abbrev CallF := FuncId → List DV → DH → Option (DV × DH)

def evalO (env : List DV) : Ev
  | .tmp t => some (env.getD t undefD)
  | .const v => ofValue v
  | .global _ => none
  | .func f => some (.func (.func f) [] [])

def putD (env : List DV) (dst : Option Tmp) (v : DV) : List DV :=
  match dst with
  | some d => env.set d v
  | none => env

def dyield (ops : Array Oper) (env : List DV) (j : Nat) : Option Bool :=
  match ((ops[j]?).bind (·.dst)).bind (env[·]?) with
  | some (.bool b) => some b
  | _ => none

/-- Does an operation change the heap, or make something in it? -/
def mover (P : Program) : Op → Bool
  | .alloc _ | .box .. | .buildSlice .. | .store .. | .makeSlice .. | .makeMap .. | .mapUpdate .. | .insert .. | .range .. | .next .. => true
  | .convert _ d _ => match P.underlying d with
    | some (.slice _) => true
    | _ => false
  | .call { callee := .builtin .len, .. } | .call { callee := .builtin .max, .. } | .call { callee := .builtin .min, .. } => false
  | .call _ => true
  | _ => false

/-- Does an operation read the heap? -/
def reader (P : Program) : Op → Bool
  | .load .. | .lookup .. => true
  | .convert s d _ => match P.underlying s, P.underlying d with
    | some (.slice _), some .string => true
    | _, _ => false
  | .call { callee := .builtin .len, argTypes, .. } => match argTypes.toList with
    | [t] => match P.underlying t with
      | some (.map _ _) => true
      | _ => false
    | _ => false
  | _ => false

/-- A method's function, of a type behind an interface, where the receiver is handed on as it is. -/
def methodD (P : Program) (t : TypeId) (name : String) : Option FuncId :=
  match P.info? t, P.underlying t with
  | some i, some (.pointer _) => match i.methods.find? (·.name == name) with
    | some m => match m.func with
      | some (f, true) => if m.path.isEmpty then some f else none
      | _ => none
    | none => none
  | _, _ => none

/-- A call: whom, and with what. -/
def calleeD (P : Program) (ev : Ev) (c : Call) : Option (FuncId × List DV) :=
  match c.callee, evs ev c.args.toList with
  | .value f, some args => match ev f with
    | some (.func (.func f) first captured) => some (f, first ++ args ++ captured)
    | _ => none
  | .invoke r name, some args => match ev r with
    | some (.iface t v) => (methodD P t name).map fun f => (f, v :: args)
    | _ => none
  | _, _ => none

def isCall : Op → Bool
  | .call { callee := .builtin _, .. } => false
  | .call _ => true
  | _ => false

/-- What an operation comes to. -/
def opD (P : Program) (cf : CallF) (o : Oper) (env : List DV) (H : DH) : Option (DV × DH) :=
  match o.op with
  | .call ⟨.value f, as, ts⟩ => match calleeD P (evalO env) ⟨.value f, as, ts⟩ with
    | some (f, args) => cf f args H
    | none => none
  | .call ⟨.invoke r n, as, ts⟩ => match calleeD P (evalO env) ⟨.invoke r n, as, ts⟩ with
    | some (f, args) => cf f args H
    | none => none
  | _ => if mover P o.op then moveD P o (evalO env) H
    else if reader P o.op then (readD P o (evalO env) H).map fun v => (v, H)
    else (pureD P o (evalO env)).map fun v => (v, H)

/-- Operations one behind the other. -/
def runOps (P : Program) (cf : CallF) (all : Array Oper) : List Oper → DSt → Option DSt
  | [], st => some st
  | o :: r, st =>
    if Region.wanted o (dyield all st.env) then
      match opD P cf o st.env st.H with
      | some (v, H) => runOps P cf all r ⟨putD st.env o.dst v, H⟩
      | none => none
    else runOps P cf all r ⟨putD st.env o.dst undefD, st.H⟩

/-! ### a region that draws its order -/
/-- What was read ahead: by which operation, with what in the slots, and what it came to. -/
structure Seen where
  i : Nat
  o : Oper
  env : List DV
  v : DV

/-- Does what was read read the same in another heap? -/
def Seen.still (P : Program) (s : Seen) (H : DH) : Bool :=
  match readD P s.o (evalO s.env) H with
  | some v => DV.beq v s.v
  | none => false

/-- What was read ahead of operation i, of open order with it, reads the same behind it. -/
def stillAll (P : Program) (bi : Nat) (seen : List Seen) (H : DH) : Bool :=
  seen.all fun s => bi.testBit s.i || s.still P H

/-- A heap that an operation of a number changed: ahead of it. -/
structure Was where
  i : Nat
  H : DH

/-- What is read behind operations that changed the heap, of open order with them, read the same ahead of them. -/
def stillWas (P : Program) (bi : Nat) (was : List Was) (s : Seen) : Bool :=
  was.all fun w => bi.testBit w.i || s.still P w.H

def runDraw (P : Program) (cf : CallF) (all : Array Oper) (bef : Array Nat) : List Oper → Nat → List Seen → List Was → DSt → Option DSt
  | [], _, _, _, st => some st
  | o :: r, i, seen, was, st =>
    if Region.wanted o (dyield all st.env) then
      match opD P cf o st.env st.H with
      | some (v, H) =>
        if mover P o.op then
          if stillAll P (bef.getD i 0) seen H then runDraw P cf all bef r (i + 1) seen (⟨i, st.H⟩ :: was) ⟨putD st.env o.dst v, H⟩ else none
        else if reader P o.op then
          if stillWas P (bef.getD i 0) was ⟨i, o, st.env, v⟩ then runDraw P cf all bef r (i + 1) (⟨i, o, st.env, v⟩ :: seen) was ⟨putD st.env o.dst v, H⟩ else none
        else runDraw P cf all bef r (i + 1) seen was ⟨putD st.env o.dst v, H⟩
      | none => none
    else runDraw P cf all bef r (i + 1) seen was ⟨putD st.env o.dst undefD, st.H⟩

def execD (P : Program) (cf : CallF) : Nat → Code → DSt → Option (DExit × DSt)
  | 0, _, _ => none
  | k + 1, c, st => match c with
    | .skip => some (.normal, st)
    | .label _ => some (.normal, st)
    | .ret => some (.ret, st)
    | .exit id => some (.exit id, st)
    | .seq a b => match execD P cf k a st with
      | some (.normal, st') => execD P cf k b st'
      | r => r
    | .cond c x y => match evalO st.env c with
      | some (.bool t) => execD P cf k (if t then x else y) st
      | _ => none
    | .block id c => match execD P cf k c st with
      | some (.exit id', st') => if id' = id then some (.normal, st') else some (.exit id', st')
      | r => r
    | .loop c => match execD P cf k c st with
      | some (.normal, st') => execD P cf k (.loop c) st'
      | r => r
    | .region _ ops false => (runOps P cf ops ops.toList st).map fun st' => (.normal, st')
    | .region _ ops true => (runDraw P cf ops (Region.before ops) ops.toList 0 [] [] st).map fun st' => (.normal, st')
    | _ => none

def resultsD (P : Program) (fn : Func) (st : DSt) : Option DV :=
  match (fn.results.toList.map fun r => match r with
    | .tmp t => some (st.env.getD t undefD)
    | .cell a t => loadD P t st.H (st.env.getD a undefD)) with
  | [v] => v
  | vs => if vs.all Option.isSome then some (.tuple (vs.map fun v => v.getD undefD)) else none

/-- The calls that are told by a table of their own, and all others by their text. -/
abbrev Ext := FuncId → Option (List DV → DH → Option (DV × DH))

def callD (P : Program) (X : Ext) : Nat → CallF
  | 0, _, _, _ => none
  | k + 1, f, args, H => match X f with
    | some g => g args H
    | none => match P.funcs[f]? with
      | some fn => match fn.body with
        | some c => match execD P (callD P X k) (k + 1) c ⟨args ++ List.replicate (fn.ntmps - args.length) undefD, H⟩ with
          | some (.normal, st) | some (.ret, st) => (resultsD P fn st).map fun v => (v, st.H)
          | _ => none
        | none => none
      | none => none

end Go.Det
