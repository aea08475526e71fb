/- The engine: a function's run, reckoned. -/
import Derived.Test.YtkjclebafpomhaaDoorEngK
set_option linter.unusedVariables false
set_option linter.unusedSimpArgs false
namespace Go.Eng
open Go

/-- What a run rests on: the program, its tables. -/
structure Cx where
  P : Program
  T : Tb
  G : Nat
  fn : FuncId → Option Func
  ext : FuncId → List Value → Option Value
  sp : FuncId → Option (List Value → AHeap → Option (Value × AHeap)) := fun _ => none

/-- Where a byte stands first; how often it stands. -/
def byteIdx (c : UInt8) : List UInt8 → Nat → Int
  | [], _ => -1
  | b :: l, i => if b == c then (i : Int) else byteIdx c l (i + 1)
def byteCnt (c : UInt8) : List UInt8 → Nat
  | [] => 0
  | b :: l => if b == c then byteCnt c l + 1 else byteCnt c l
def extIdx : List Value → Option Value
  | [.string s, .int .u8 c] => some (.int .i64 (byteIdx c.toNat.toUInt8 s.data.toList 0))
  | _ => none
def extCnt : List Value → Option Value
  | [.string s, .int .u8 c] => some (.int .i64 (byteCnt c.toNat.toUInt8 s.data.toList))
  | _ => none

abbrev St := Tmps × AHeap
abbrev Calling := FuncId → List Value → AHeap → Option (Value × AHeap)

def stepOp (cx : Cx) (N : Nat) (call : Calling) (ops : Array Oper) (o : Oper) (s : St) : Option St :=
  match awanted ops s.1 o with
  | some true =>
    match acallee cx.G s.1 o.op with
    | some (g, vs) =>
      match call g vs s.2 with
      | some (v, H) => (aput N o.dst v s.1).map (·, H)
      | none => none
    | none =>
      match aop cx.P cx.T cx.G s.1 o.op s.2 with
      | some (v, H) => (aput N o.dst v s.1).map (·, H)
      | none => none
  | some false => (aput N o.dst undef s.1).map (·, s.2)
  | none => none

def runOps (cx : Cx) (N : Nat) (call : Calling) (ops : Array Oper) : List Oper → St → Option St
  | [], s => some s
  | o :: l, s => match stepOp cx N call ops o s with
    | some s' => runOps cx N call ops l s'
    | none => none

def loopN (body : St → Option (Exit × St)) : Nat → St → Option (Exit × St)
  | 0, _ => none
  | n + 1, s => match body s with
    | some (.normal, s') => loopN body n s'
    | r => r

def runC (cx : Cx) (N : Nat) (call : Calling) (lf : Nat) : Code → St → Option (Exit × St)
  | .skip, s => some (.normal, s)
  | .label _, s => some (.normal, s)
  | .ret, s => some (.ret, s)
  | .exit i, s => some (.exit i, s)
  | .seq a b, s => match runC cx N call lf a s with
    | some (.normal, s') => runC cx N call lf b s'
    | r => r
  | .cond c a b, s => match aeval cx.G s.1 c with
    | some (.bool true) => runC cx N call lf a s
    | some (.bool false) => runC cx N call lf b s
    | _ => none
  | .block i c, s => match runC cx N call lf c s with
    | some (.exit j, s') => if j = i then some (.normal, s') else some (.exit j, s')
    | r => r
  | .loop c, s => loopN (runC cx N call lf c) lf s
  | .region _ ops d, s => match runOps cx N call ops ops.toList s with
    | some s' => some (.normal, s')
    | none => none
  | _, _ => none

def callF (cx : Cx) (lf : Nat) : Nat → Calling
  | 0, _, _, _ => none
  | k + 1, f, args, H =>
    match cx.fn f with
    | some fn =>
      match fn.body with
      | some c =>
        match runC cx fn.ntmps (callF cx lf k) lf c (initT 0 args, H) with
        | some (.normal, τ, H') | some (.ret, τ, H') => (aresults cx.T τ H' fn.results.toList).map fun vs => (wrapR vs, H')
        | _ => none
      | none => (cx.ext f args).map (·, H)
    | none => none
end Go.Eng
