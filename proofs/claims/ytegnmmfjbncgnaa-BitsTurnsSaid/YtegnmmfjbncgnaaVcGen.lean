/- A part of the proof of given statements: a verified condition generator for the model, and contracts of the program's functions. No condition. -/
import Derived.Test.YtegnmmfjbncgnaaVcEval
set_option linter.unusedVariables false
namespace Go.Vc
open Go Go.RowKit

/-! ## States and the conditions of code -/
structure AS where
  sl : List (Nat × AV)
  me : Mem
  nk : Nat

def mputs : Mem → Mem → Mem
  | [], me => me
  | p :: r, me => p :: mputs r me
def AS.upd (s : AS) (dst : Option Nat) (v : AV) (puts : Mem) : AS :=
  match dst with
  | some d => ⟨(d, v) :: s.sl, mputs puts s.me, s.nk + 8⟩
  | none => ⟨s.sl, mputs puts s.me, s.nk + 8⟩
/-- what a slot holds is laid anew -/
def AS.put (s : AS) (d : Nat) (v : AV) : AS := ⟨(d, v) :: s.sl, s.me, s.nk⟩
def AS.putO (s : AS) (dst : Option Nat) (v : AV) : AS := match dst with
  | some d => s.put d v
  | none => s

def nth {α : Type} : List α → Nat → Option α
  | [], _ => none
  | a :: _, 0 => some a
  | _ :: r, i + 1 => nth r i

/-- a call told by what follows it -/
abbrev KSpec := List AV → AS → (AV → AS → Prop) → Prop
def klook : List (Nat × KSpec) → Nat → Option KSpec
  | [], _ => none
  | (k, a) :: r, t => match Nat.beq k t with
    | true => some a
    | false => klook r t
/-- the fixed things: numbers of slots, types, contracts -/
structure Cx where
  nt : Nat
  tt : TT
  sp : Specs
  ks : List (Nat × KSpec)
  dr : List (Nat × List (Nat × List Nat))
  pin : List Nat
  must : List Nat
def kcall (ks : List (Nat × KSpec)) : Op → Option (KSpec × List Operand)
  | .call { callee := .value (.func f), args := args, .. } => match klook ks f with
    | some k => some (k, args.toList)
    | none => none
  | _ => none
/-- behind such a call -/
def AS.ret (s : AS) (dst : Option Nat) (v : AV) (s' : AS) : AS :=
  match dst with
  | some d => ⟨(d, v) :: s.sl, s'.me, s'.nk⟩
  | none => ⟨s.sl, s'.me, s'.nk⟩

def dstOk (nt : Nat) : Option Nat → Bool
  | none => true
  | some d => Nat.blt d nt
/-- one operation -/
def opVc (F : Fs) (x : Cx) (o : Oper) (s : AS) (K : AS → Prop) : Prop :=
  match dstOk x.nt o.dst with
  | true => match kcall x.ks o.op with
    | some (k, args) => k (aop.gets F s.sl args) s fun v s' => K (s.ret o.dst v s')
    | none => match (aop F x.tt x.sp s.sl s.nk o.op).run s.me with
      | some e => e.c ∧ K (s.upd o.dst e.v e.puts)
      | none => False
  | false => False

/-- 'mu': every guard's answer is asked to be yes -/
def opsVc (F : Fs) (x : Cx) (mu : Bool) (all : List Oper) : List Oper → AS → (AS → Prop) → Prop
  | [], s, K => K s
  | o :: r, s, K => match o.guard with
    | none => opVc F x o s fun s' => opsVc F x mu all r s' K
    | some (j, want) => match nth all j with
      | none => False
      | some oj => match oj.dst with
        | none => False
        | some dj => match sget s.sl dj with
          | .kb true => match want with
            | true => opVc F x o s fun s' => opsVc F x mu all r s' K
            | false => opsVc F x mu all r (s.putO o.dst (.tup [])) K
          | .kb false => match want with
            | false => opVc F x o s fun s' => opsVc F x mu all r s' K
            | true => opsVc F x mu all r (s.putO o.dst (.tup [])) K
          | .b y => match mu with
            | true => F.pB y true ∧ (match want with
              | true => opVc F x o (s.put dj (.kb true)) fun s' => opsVc F x mu all r s' K
              | false => opsVc F x mu all r ((s.put dj (.kb true)).putO o.dst (.tup [])) K)
            | false => match want with
            | true => (F.pB y false ∨ opVc F x o (s.put dj (.kb true)) fun s' => opsVc F x mu all r s' K) ∧
                (F.pB y true ∨ opsVc F x mu all r ((s.put dj (.kb false)).putO o.dst (.tup [])) K)
            | false => (F.pB y true ∨ opVc F x o (s.put dj (.kb false)) fun s' => opsVc F x mu all r s' K) ∧
                (F.pB y false ∨ opsVc F x mu all r ((s.put dj (.kb true)).putO o.dst (.tup [])) K)
          | .tup [] => opsVc F x mu all r (s.putO o.dst (.tup [])) K
          | _ => False

inductive VX where
  | normal
  | exit (id : Nat)
  | ret
end Go.Vc
