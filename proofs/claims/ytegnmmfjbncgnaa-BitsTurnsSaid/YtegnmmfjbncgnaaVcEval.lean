/- A part of the proof of given statements: a verified condition generator for the model, and contracts of the program's functions. No condition. -/
import Derived.Test.YtegnmmfjbncgnaaVcCore
set_option linter.unusedVariables false
namespace Go.Vc
open Go Go.RowKit

/-! ## The plain functions, behind one name: 'cbv' does not look into a variable -/
structure Fs where
  addi : Int → Int → Int
  subi : Int → Int → Int
  muli : Int → Int → Int
  quoi : Int → Int → Int
  remi : Int → Int → Int
  negi : Int → Int
  bits : BinOp → Int → Int → Int
  shli : Int → Int → Int
  shri : Int → Int → Int
  mini : Int → Int → Int
  maxi : Int → Int → Int
  lti : Int → Int → Bool
  lei : Int → Int → Bool
  eqi : Int → Int → Bool
  wrapi : Int → Int
  add8 : UInt8 → UInt8 → UInt8
  sub8 : UInt8 → UInt8 → UInt8
  mul8 : UInt8 → UInt8 → UInt8
  and8 : UInt8 → UInt8 → UInt8
  or8 : UInt8 → UInt8 → UInt8
  xor8 : UInt8 → UInt8 → UInt8
  quo8 : UInt8 → UInt8 → UInt8
  rem8 : UInt8 → UInt8 → UInt8
  andn8 : UInt8 → UInt8 → UInt8
  not8 : UInt8 → UInt8
  neg8 : UInt8 → UInt8
  shl8 : UInt8 → Int → UInt8
  shr8 : UInt8 → Int → UInt8
  lt8 : UInt8 → UInt8 → Bool
  le8 : UInt8 → UInt8 → Bool
  eq8 : UInt8 → UInt8 → Bool
  min8 : UInt8 → UInt8 → UInt8
  max8 : UInt8 → UInt8 → UInt8
  ofI8 : Int → UInt8
  toI8 : UInt8 → Int
  add16 : UInt16 → UInt16 → UInt16
  sub16 : UInt16 → UInt16 → UInt16
  mul16 : UInt16 → UInt16 → UInt16
  and16 : UInt16 → UInt16 → UInt16
  or16 : UInt16 → UInt16 → UInt16
  xor16 : UInt16 → UInt16 → UInt16
  quo16 : UInt16 → UInt16 → UInt16
  rem16 : UInt16 → UInt16 → UInt16
  andn16 : UInt16 → UInt16 → UInt16
  not16 : UInt16 → UInt16
  neg16 : UInt16 → UInt16
  shl16 : UInt16 → Int → UInt16
  shr16 : UInt16 → Int → UInt16
  lt16 : UInt16 → UInt16 → Bool
  le16 : UInt16 → UInt16 → Bool
  eq16 : UInt16 → UInt16 → Bool
  min16 : UInt16 → UInt16 → UInt16
  max16 : UInt16 → UInt16 → UInt16
  ofI16 : Int → UInt16
  toI16 : UInt16 → Int
  add32 : UInt32 → UInt32 → UInt32
  sub32 : UInt32 → UInt32 → UInt32
  mul32 : UInt32 → UInt32 → UInt32
  and32 : UInt32 → UInt32 → UInt32
  or32 : UInt32 → UInt32 → UInt32
  xor32 : UInt32 → UInt32 → UInt32
  quo32 : UInt32 → UInt32 → UInt32
  rem32 : UInt32 → UInt32 → UInt32
  andn32 : UInt32 → UInt32 → UInt32
  not32 : UInt32 → UInt32
  neg32 : UInt32 → UInt32
  shl32 : UInt32 → Int → UInt32
  shr32 : UInt32 → Int → UInt32
  lt32 : UInt32 → UInt32 → Bool
  le32 : UInt32 → UInt32 → Bool
  eq32 : UInt32 → UInt32 → Bool
  min32 : UInt32 → UInt32 → UInt32
  max32 : UInt32 → UInt32 → UInt32
  ofI32 : Int → UInt32
  toI32 : UInt32 → Int
  add64 : UInt64 → UInt64 → UInt64
  sub64 : UInt64 → UInt64 → UInt64
  mul64 : UInt64 → UInt64 → UInt64
  and64 : UInt64 → UInt64 → UInt64
  or64 : UInt64 → UInt64 → UInt64
  xor64 : UInt64 → UInt64 → UInt64
  quo64 : UInt64 → UInt64 → UInt64
  rem64 : UInt64 → UInt64 → UInt64
  andn64 : UInt64 → UInt64 → UInt64
  not64 : UInt64 → UInt64
  neg64 : UInt64 → UInt64
  shl64 : UInt64 → Int → UInt64
  shr64 : UInt64 → Int → UInt64
  lt64 : UInt64 → UInt64 → Bool
  le64 : UInt64 → UInt64 → Bool
  eq64 : UInt64 → UInt64 → Bool
  min64 : UInt64 → UInt64 → UInt64
  max64 : UInt64 → UInt64 → UInt64
  ofI64 : Int → UInt64
  toI64 : UInt64 → Int
  notb : Bool → Bool
  eqb : Bool → Bool → Bool
  cond : Bool → Bool → Bool → Bool
  nat : Int → Nat
  int : Nat → Int
  addn : Nat → Nat → Nat
  subn : Nat → Nat → Nat
  muln : Nat → Nat → Nat
  minn : Nat → Nat → Nat
  pIn : Int → Nat → Prop
  pLe : Nat → Nat → Prop
  pLt : Nat → Nat → Prop
  p0 : Int → Prop
  pLeI : Int → Int → Prop
  pNe : Int → Prop
  pCap : Nat → Nat → Prop
  pMk : Int → Nat → Prop
  ofS : ByteArray → List UInt8
  pB : Bool → Bool → Prop
  nint : Nat → Int
  pNeN : Nat → Prop
  ltS : List UInt8 → List UInt8 → Bool
  lenB : List UInt8 → Nat
  getB : List UInt8 → Nat → UInt8
  setB : List UInt8 → Nat → UInt8 → List UInt8
  cutB : List UInt8 → Nat → Nat → List UInt8
  appB : List UInt8 → List UInt8 → List UInt8
  repB : Nat → List UInt8
  eqB : List UInt8 → List UInt8 → Bool
  splB : List UInt8 → Nat → List UInt8 → List UInt8
  lenH : List UInt16 → Nat
  getH : List UInt16 → Nat → UInt16
  setH : List UInt16 → Nat → UInt16 → List UInt16
  cutH : List UInt16 → Nat → Nat → List UInt16
  appH : List UInt16 → List UInt16 → List UInt16
  repH : Nat → List UInt16
  eqH : List UInt16 → List UInt16 → Bool
  splH : List UInt16 → Nat → List UInt16 → List UInt16
  lenW : List UInt32 → Nat
  getW : List UInt32 → Nat → UInt32
  setW : List UInt32 → Nat → UInt32 → List UInt32
  cutW : List UInt32 → Nat → Nat → List UInt32
  appW : List UInt32 → List UInt32 → List UInt32
  repW : Nat → List UInt32
  eqW : List UInt32 → List UInt32 → Bool
  splW : List UInt32 → Nat → List UInt32 → List UInt32
  lenQ : List UInt64 → Nat
  getQ : List UInt64 → Nat → UInt64
  setQ : List UInt64 → Nat → UInt64 → List UInt64
  cutQ : List UInt64 → Nat → Nat → List UInt64
  appQ : List UInt64 → List UInt64 → List UInt64
  repQ : Nat → List UInt64
  eqQ : List UInt64 → List UInt64 → Bool
  splQ : List UInt64 → Nat → List UInt64 → List UInt64
  lenI : List Int → Nat
  getI : List Int → Nat → Int
  setI : List Int → Nat → Int → List Int
  cutI : List Int → Nat → Nat → List Int
  appI : List Int → List Int → List Int
  repI : Nat → List Int
  eqI : List Int → List Int → Bool
  splI : List Int → Nat → List Int → List Int
  lenS : List (List UInt8) → Nat
  getS : List (List UInt8) → Nat → (List UInt8)
  setS : List (List UInt8) → Nat → (List UInt8) → List (List UInt8)
  cutS : List (List UInt8) → Nat → Nat → List (List UInt8)
  appS : List (List UInt8) → List (List UInt8) → List (List UInt8)
  repS : Nat → List (List UInt8)
  eqS : List (List UInt8) → List (List UInt8) → Bool
  splS : List (List UInt8) → Nat → List (List UInt8) → List (List UInt8)

/-- bit operations on int -/
def ibits (o : BinOp) (a b : Int) : Int :=
  match o with
  | .and => IntKind.i64.wrap ((BitVec.ofInt 64 a &&& BitVec.ofInt 64 b).toNat)
  | .or => IntKind.i64.wrap ((BitVec.ofInt 64 a ||| BitVec.ofInt 64 b).toNat)
  | .xor => IntKind.i64.wrap ((BitVec.ofInt 64 a ^^^ BitVec.ofInt 64 b).toNat)
  | .andNot => IntKind.i64.wrap ((BitVec.ofInt 64 a &&& ~~~BitVec.ofInt 64 b).toNat)
  | _ => 0
def real : Fs where
  addi := fun a b => IntKind.i64.wrap (a + b)
  subi := fun a b => IntKind.i64.wrap (a - b)
  muli := fun a b => IntKind.i64.wrap (a * b)
  quoi := fun a b => IntKind.i64.wrap (a.tdiv b)
  remi := fun a b => a.tmod b
  negi := fun a => IntKind.i64.wrap (0 - a)
  bits := fun o a b => ibits o a b
  shli := fun a s => IntKind.i64.wrap (a * 2 ^ (min s.toNat 64))
  shri := fun a s => a.fdiv (2 ^ (min s.toNat 64))
  mini := fun x y => if y < x then y else x
  maxi := fun x y => if y > x then y else x
  lti := fun a b => decide (a < b)
  lei := fun a b => decide (a ≤ b)
  eqi := fun a b => a == b
  wrapi := fun a => IntKind.i64.wrap a
  add8 := fun a b => a + b
  sub8 := fun a b => a - b
  mul8 := fun a b => a * b
  and8 := fun a b => a &&& b
  or8 := fun a b => a ||| b
  xor8 := fun a b => a ^^^ b
  quo8 := fun a b => a / b
  rem8 := fun a b => a % b
  andn8 := fun a b => a &&& ~~~b
  not8 := fun a => ~~~a
  neg8 := fun a => 0 - a
  shl8 := fun a s => UInt8.ofNat (a.toNat * 2 ^ (min s.toNat 8))
  shr8 := fun a s => UInt8.ofNat (a.toNat / 2 ^ (min s.toNat 8))
  lt8 := fun a b => decide (a.toNat < b.toNat)
  le8 := fun a b => decide (a.toNat ≤ b.toNat)
  eq8 := fun a b => a == b
  min8 := fun x y => if y.toNat < x.toNat then y else x
  max8 := fun x y => if y.toNat > x.toNat then y else x
  ofI8 := fun a => UInt8.ofNat (a % 2 ^ 8).toNat
  toI8 := fun a => (a.toNat : Int)
  add16 := fun a b => a + b
  sub16 := fun a b => a - b
  mul16 := fun a b => a * b
  and16 := fun a b => a &&& b
  or16 := fun a b => a ||| b
  xor16 := fun a b => a ^^^ b
  quo16 := fun a b => a / b
  rem16 := fun a b => a % b
  andn16 := fun a b => a &&& ~~~b
  not16 := fun a => ~~~a
  neg16 := fun a => 0 - a
  shl16 := fun a s => UInt16.ofNat (a.toNat * 2 ^ (min s.toNat 16))
  shr16 := fun a s => UInt16.ofNat (a.toNat / 2 ^ (min s.toNat 16))
  lt16 := fun a b => decide (a.toNat < b.toNat)
  le16 := fun a b => decide (a.toNat ≤ b.toNat)
  eq16 := fun a b => a == b
  min16 := fun x y => if y.toNat < x.toNat then y else x
  max16 := fun x y => if y.toNat > x.toNat then y else x
  ofI16 := fun a => UInt16.ofNat (a % 2 ^ 16).toNat
  toI16 := fun a => (a.toNat : Int)
  add32 := fun a b => a + b
  sub32 := fun a b => a - b
  mul32 := fun a b => a * b
  and32 := fun a b => a &&& b
  or32 := fun a b => a ||| b
  xor32 := fun a b => a ^^^ b
  quo32 := fun a b => a / b
  rem32 := fun a b => a % b
  andn32 := fun a b => a &&& ~~~b
  not32 := fun a => ~~~a
  neg32 := fun a => 0 - a
  shl32 := fun a s => UInt32.ofNat (a.toNat * 2 ^ (min s.toNat 32))
  shr32 := fun a s => UInt32.ofNat (a.toNat / 2 ^ (min s.toNat 32))
  lt32 := fun a b => decide (a.toNat < b.toNat)
  le32 := fun a b => decide (a.toNat ≤ b.toNat)
  eq32 := fun a b => a == b
  min32 := fun x y => if y.toNat < x.toNat then y else x
  max32 := fun x y => if y.toNat > x.toNat then y else x
  ofI32 := fun a => UInt32.ofNat (a % 2 ^ 32).toNat
  toI32 := fun a => (a.toNat : Int)
  add64 := fun a b => a + b
  sub64 := fun a b => a - b
  mul64 := fun a b => a * b
  and64 := fun a b => a &&& b
  or64 := fun a b => a ||| b
  xor64 := fun a b => a ^^^ b
  quo64 := fun a b => a / b
  rem64 := fun a b => a % b
  andn64 := fun a b => a &&& ~~~b
  not64 := fun a => ~~~a
  neg64 := fun a => 0 - a
  shl64 := fun a s => UInt64.ofNat (a.toNat * 2 ^ (min s.toNat 64))
  shr64 := fun a s => UInt64.ofNat (a.toNat / 2 ^ (min s.toNat 64))
  lt64 := fun a b => decide (a.toNat < b.toNat)
  le64 := fun a b => decide (a.toNat ≤ b.toNat)
  eq64 := fun a b => a == b
  min64 := fun x y => if y.toNat < x.toNat then y else x
  max64 := fun x y => if y.toNat > x.toNat then y else x
  ofI64 := fun a => UInt64.ofNat (a % 2 ^ 64).toNat
  toI64 := fun a => (a.toNat : Int)
  notb := fun a => !a
  eqb := fun a b => a == b
  cond := fun c a b => cond c a b
  nat := Int.toNat
  int := fun n => (n : Int)
  addn := fun a b => a + b
  subn := fun a b => a - b
  muln := fun a b => a * b
  minn := fun a b => min a b
  pIn := fun i n => 0 ≤ i ∧ i < (n : Int)
  pLe := fun a b => a ≤ b
  pLt := fun a b => a < b
  p0 := fun a => 0 ≤ a
  pLeI := fun a b => a ≤ b
  pNe := fun a => a ≠ 0
  pCap := fun n b => n * b ≤ 140737488355328 ∧ n ≤ 4611686018427387904
  pMk := fun n b => 0 ≤ n ∧ n * (b : Int) ≤ 281474976710656 ∧ n ≤ 4611686018427387904
  ofS := fun s => s.data.toList
  pB := fun a b => a = b
  nint := fun n => Int.negSucc n
  pNeN := fun a => a ≠ 0
  ltS := fun a b => Op.bytesLess a b
  lenB := List.length
  getB := fun xs i => xs.getD i 0
  setB := fun xs i x => xs.set i x
  cutB := fun xs a n => (xs.drop a).take n
  appB := fun xs ys => xs ++ ys
  repB := fun n => List.replicate n 0
  eqB := fun a b => a == b
  splB := fun xs a ys => xs.take a ++ ys ++ xs.drop (a + ys.length)
  lenH := List.length
  getH := fun xs i => xs.getD i 0
  setH := fun xs i x => xs.set i x
  cutH := fun xs a n => (xs.drop a).take n
  appH := fun xs ys => xs ++ ys
  repH := fun n => List.replicate n 0
  eqH := fun a b => a == b
  splH := fun xs a ys => xs.take a ++ ys ++ xs.drop (a + ys.length)
  lenW := List.length
  getW := fun xs i => xs.getD i 0
  setW := fun xs i x => xs.set i x
  cutW := fun xs a n => (xs.drop a).take n
  appW := fun xs ys => xs ++ ys
  repW := fun n => List.replicate n 0
  eqW := fun a b => a == b
  splW := fun xs a ys => xs.take a ++ ys ++ xs.drop (a + ys.length)
  lenQ := List.length
  getQ := fun xs i => xs.getD i 0
  setQ := fun xs i x => xs.set i x
  cutQ := fun xs a n => (xs.drop a).take n
  appQ := fun xs ys => xs ++ ys
  repQ := fun n => List.replicate n 0
  eqQ := fun a b => a == b
  splQ := fun xs a ys => xs.take a ++ ys ++ xs.drop (a + ys.length)
  lenI := List.length
  getI := fun xs i => xs.getD i 0
  setI := fun xs i x => xs.set i x
  cutI := fun xs a n => (xs.drop a).take n
  appI := fun xs ys => xs ++ ys
  repI := fun n => List.replicate n 0
  eqI := fun a b => a == b
  splI := fun xs a ys => xs.take a ++ ys ++ xs.drop (a + ys.length)
  lenS := List.length
  getS := fun xs i => xs.getD i []
  setS := fun xs i x => xs.set i x
  cutS := fun xs a n => (xs.drop a).take n
  appS := fun xs ys => xs ++ ys
  repS := fun n => List.replicate n []
  eqS := fun a b => a == b
  splS := fun xs a ys => xs.take a ++ ys ++ xs.drop (a + ys.length)

/-! ## Contents -/
/-- no aggregate, no tuple: one cell -/
def AV.one : AV → Bool
  | .ag _ _ => false
  | .tup _ => false
  | .u => false
  | _ => true
def llen : List AV → Nat
  | [] => 0
  | _ :: r => Nat.succ (llen r)
def lget : List AV → Nat → AV
  | [], _ => .u
  | a :: _, 0 => a
  | _ :: r, i + 1 => lget r i
def lset : List AV → Nat → AV → List AV
  | [], _, _ => []
  | _ :: r, 0, x => x :: r
  | a :: r, i + 1, x => a :: lset r i x

def AC.len (F : Fs) : AC → Nat
  | .bt xs => F.lenB xs
  | .wh xs => F.lenH xs
  | .wd xs => F.lenW xs
  | .ww xs => F.lenQ xs
  | .is xs => F.lenI xs
  | .ss xs => F.lenS xs
  | .vs l => llen l
  | .fn _ n _ => n
def AC.get (F : Fs) (i : Nat) : AC → Option AV
  | .bt xs => some (.w8 (F.getB xs i))
  | .wh xs => some (.w16 (F.getH xs i))
  | .wd xs => some (.w32 (F.getW xs i))
  | .ww xs => some (.w64 (F.getQ xs i))
  | .is xs => some (.i (F.getI xs i))
  | .ss xs => some (.s (F.getS xs i))
  | .vs _ => none
  | .fn _ _ f => some (f i)
def AC.esz : AC → Option Nat
  | .bt _ => some 1
  | .wh _ => some 1
  | .wd _ => some 1
  | .ww _ => some 1
  | .is _ => some 1
  | .ss _ => some 1
  | .vs _ => none
  | .fn e _ _ => some e
/-- one cell an element, and the element one cell -/
def AC.get1 (F : Fs) (i : Nat) (c : AC) : Option AV :=
  match c.esz with
  | some 1 => match c.get F i with
    | some a => match a.one with
      | true => some a
      | false => none
    | none => none
  | _ => none
/-- elements of e cells, e not nought -/
def AC.isE (e : Nat) (c : AC) : Bool :=
  match c.esz with
  | some k => match Nat.beq e k with
    | true => Nat.blt 0 e
    | false => false
  | none => false
def AC.getE (F : Fs) (e i : Nat) (c : AC) : Option AV :=
  match c.isE e with
  | true => c.get F i
  | false => none
def AC.lenE (F : Fs) (e : Nat) (c : AC) : Option Nat :=
  match c.isE e with
  | true => some (c.len F)
  | false => none
def AC.set (F : Fs) (i : Nat) (x : AV) : AC → Option AC
  | .bt xs => match x with | .w8 y => some (.bt (F.setB xs i y)) | _ => none
  | .wh xs => match x with | .w16 y => some (.wh (F.setH xs i y)) | _ => none
  | .wd xs => match x with | .w32 y => some (.wd (F.setW xs i y)) | _ => none
  | .ww xs => match x with | .w64 y => some (.ww (F.setQ xs i y)) | _ => none
  | .is xs => match x with | .i y => some (.is (F.setI xs i y)) | _ => none
  | .ss xs => match x with | .s y => some (.ss (F.setS xs i y)) | _ => none
  | .vs _ => none
  | .fn _ _ _ => none
def AC.cut (F : Fs) (a n : Nat) : AC → Option AC
  | .bt xs => some (.bt (F.cutB xs a n))
  | .wh xs => some (.wh (F.cutH xs a n))
  | .wd xs => some (.wd (F.cutW xs a n))
  | .ww xs => some (.ww (F.cutQ xs a n))
  | .is xs => some (.is (F.cutI xs a n))
  | .ss xs => some (.ss (F.cutS xs a n))
  | .vs _ => none
  | .fn e _ f => some (.fn e n (fun j => f (F.addn a j)))
def AC.cutE (F : Fs) (e a n : Nat) (c : AC) : Option AC :=
  match c.isE e with
  | true => c.cut F a n
  | false => none
def AC.app (F : Fs) : AC → AC → Option AC
  | .bt xs, .bt ys => some (.bt (F.appB xs ys))
  | .wh xs, .wh ys => some (.wh (F.appH xs ys))
  | .wd xs, .wd ys => some (.wd (F.appW xs ys))
  | .ww xs, .ww ys => some (.ww (F.appQ xs ys))
  | .is xs, .is ys => some (.is (F.appI xs ys))
  | .ss xs, .ss ys => some (.ss (F.appS xs ys))
  | _, _ => none
def AC.eqv (F : Fs) : AC → AC → Option Bool
  | .bt xs, .bt ys => some (F.eqB xs ys)
  | .wh xs, .wh ys => some (F.eqH xs ys)
  | .wd xs, .wd ys => some (F.eqW xs ys)
  | .ww xs, .ww ys => some (F.eqQ xs ys)
  | .is xs, .is ys => some (F.eqI xs ys)
  | _, _ => none
/-- the source laid over the content from element a on -/
def AC.splice (F : Fs) (a : Nat) : AC → AC → Option AC
  | .bt xs, .bt ys => some (.bt (F.splB xs a ys))
  | .wh xs, .wh ys => some (.wh (F.splH xs a ys))
  | .wd xs, .wd ys => some (.wd (F.splW xs a ys))
  | .ww xs, .ww ys => some (.ww (F.splQ xs a ys))
  | .is xs, .is ys => some (.is (F.splI xs a ys))
  | .ss xs, .ss ys => some (.ss (F.splS xs a ys))
  | _, _ => none
/-- the kinds of elements: one cell each -/
inductive EK where
  | kB | kH | kW | kQ | kI | kS
def EK.rep (F : Fs) (n : Nat) : EK → AC
  | .kB => .bt (F.repB n)
  | .kH => .wh (F.repH n)
  | .kW => .wd (F.repW n)
  | .kQ => .ww (F.repQ n)
  | .kI => .is (F.repI n)
  | .kS => .ss (F.repS n)
def EK.nil : EK → AC
  | .kB => .bt []
  | .kH => .wh []
  | .kW => .wd []
  | .kQ => .ww []
  | .kI => .is []
  | .kS => .ss []
def EK.cons : EK → AV → AC → Option AC
  | .kB, .w8 x, .bt xs => some (.bt (x :: xs))
  | .kH, .w16 x, .wh xs => some (.wh (x :: xs))
  | .kW, .w32 x, .wd xs => some (.wd (x :: xs))
  | .kQ, .w64 x, .ww xs => some (.ww (x :: xs))
  | .kI, .i x, .is xs => some (.is (x :: xs))
  | .kS, .s x, .ss xs => some (.ss (x :: xs))
  | _, _, _ => none
def EK.ofAVs (k : EK) : List AV → Option AC
  | [] => some k.nil
  | a :: r => match EK.ofAVs k r with
    | some c => k.cons a c
    | none => none

/-! ## Types -/
inductive Lay where
  | one (z : AV)
  | arr (n : Nat) (z : AC)
  | st (l : List Lay)
mutual
def Lay.segs : Lay → List Seg
  | .one z => [(1, .vs [z])]
  | .arr n z => [(n, z)]
  | .st l => lsegs l
def lsegs : List Lay → List Seg
  | [] => []
  | a :: r => a.segs ++ lsegs r
end
mutual
def Lay.cells : Lay → Nat
  | .one _ => 1
  | .arr n _ => n
  | .st l => lcells l
def lcells : List Lay → Nat
  | [] => 0
  | a :: r => a.cells + lcells r
end
mutual
/-- the value that lies in segments -/
def Lay.take : Lay → List Seg → Option (AV × List Seg)
  | .one _, s => match s with
    | (1, .vs [a]) :: r => match a.one with
      | true => some (a, r)
      | false => none
    | _ => none
  | .arr n _, s => match s with
    | (k, c) :: r => match Nat.beq n k with
      | true => some (.ag n c, r)
      | false => none
    | [] => none
  | .st l, s => match ltake l s with
    | some (as, r) => some (.ag (lcells l) (.vs as), r)
    | none => none
def ltake : List Lay → List Seg → Option (List AV × List Seg)
  | [], s => some ([], s)
  | a :: l, s => match a.take s with
    | none => none
    | some (x, r) => match ltake l r with
      | none => none
      | some (xs, r2) => some (x :: xs, r2)
end
mutual
/-- a value's segments -/
def Lay.put : Lay → AV → Option (List Seg)
  | .one _, a => match a.one with
    | true => some [(1, .vs [a])]
    | false => none
  | .arr n _, a => match a with
    | .ag k c => match Nat.beq n k with
      | true => some [(n, c)]
      | false => none
    | _ => none
  | .st l, a => match a with
    | .ag k (.vs as) => match Nat.beq (lcells l) k with
      | true => lput l as
      | false => none
    | _ => none
def lput : List Lay → List AV → Option (List Seg)
  | [], as => match as with
    | [] => some []
    | _ => none
  | a :: l, as => match as with
    | x :: xs => match a.put x with
      | none => none
      | some s => match lput l xs with
        | none => none
        | some s2 => some (s ++ s2)
    | [] => none
end

inductive TK where
  | int (k : IntKind) | bool | str
  | slice (e : Nat) | ptr (e : Nat) | arr (n e : Nat)
  | st (fields : List (Nat × Nat × Nat))      -- type, segments ahead, cells ahead
  | other
structure TI where
  k : TK
  sz : Nat
  bytes : Nat
  lay : Lay
  ek : Option EK
abbrev TT := List (Nat × TI)
def tlook : TT → Nat → Option TI
  | [], _ => none
  | (k, a) :: r, t => match Nat.beq k t with
    | true => some a
    | false => tlook r t

/-! ## Effects -/
structure Eff where
  c : Prop
  v : AV
  puts : Mem
inductive Look where
  | no
  | ret (e : Eff)
  | look (k : Nat) (f : AB → Look)
def Look.run (me : Mem) : Look → Option Eff
  | .no => none
  | .ret e => some e
  | .look k f => match mlook me k with
    | some ab => (f ab).run me
    | none => none
def pure1 (c : Prop) (v : AV) : Look := .ret ⟨c, v, []⟩
/-- one thing more is asked -/
def Look.more (c : Prop) : Look → Look
  | .no => .no
  | .ret e => .ret ⟨c ∧ e.c, e.v, e.puts⟩
  | .look k f => .look k fun ab => (f ab).more c

/-- the content of a slice's elements, one cell each -/
def withContent (F : Fs) (a : AV) (K : AC → Look) : Look :=
  match a with
  | .rb 1 c => match c.isE 1 with
    | true => K c
    | false => .no
  | .rw k => .look k fun
    | .row _ 1 c => match c.isE 1 with
      | true => K c
      | false => .no
    | _ => .no
  | .sl k g o 1 a n => .look k fun
    | .row _ 1 c => match g, o with
      | 0, 0 => match c.cutE F 1 a n with
        | some d => .more (F.pLe (F.addn a n) (c.len F)) (K d)
        | none => .no
      | _, _ => .no
    | .bk _ segs => match segAt g o segs with
      | some (_, c) => match c.cutE F 1 a n with
        | some d => .more (F.pLe (F.addn a n) (c.len F)) (K d)
        | none => .no
      | none => .no
    | _ => .no
  | _ => .no
where
  segAt : Nat → Nat → List Seg → Option Seg
    | 0, 0, s :: _ => some s
    | g + 1, o, (n, _) :: r => match Nat.ble n o with
      | true => segAt g (o - n) r
      | false => none
    | _, _, _ => none


/-! ## Operations -/
def intEv (F : Fs) (op : BinOp) (a b : Int) : Option (Prop × AV) :=
  match op with
  | .add => some (True, .i (F.addi a b))
  | .sub => some (True, .i (F.subi a b))
  | .mul => some (True, .i (F.muli a b))
  | .quo => some (F.pNe b, .i (F.quoi a b))
  | .rem => some (F.pNe b, .i (F.remi a b))
  | .and => some (True, .i (F.bits .and a b))
  | .or => some (True, .i (F.bits .or a b))
  | .xor => some (True, .i (F.bits .xor a b))
  | .andNot => some (True, .i (F.bits .andNot a b))
  | .eql => some (True, .b (F.eqi a b))
  | .neq => some (True, .b (F.notb (F.eqi a b)))
  | .lss => some (True, .b (F.lti a b))
  | .leq => some (True, .b (F.lei a b))
  | .gtr => some (True, .b (F.lti b a))
  | .geq => some (True, .b (F.lei b a))
  | _ => none
def w8Ev (F : Fs) (op : BinOp) (a b : UInt8) : Option (Prop × AV) :=
  match op with
  | .add => some (True, .w8 (F.add8 a b))
  | .sub => some (True, .w8 (F.sub8 a b))
  | .mul => some (True, .w8 (F.mul8 a b))
  | .and => some (True, .w8 (F.and8 a b))
  | .or => some (True, .w8 (F.or8 a b))
  | .xor => some (True, .w8 (F.xor8 a b))
  | .andNot => some (True, .w8 (F.andn8 a b))
  | .quo => some (F.pNe (F.toI8 b), .w8 (F.quo8 a b))
  | .rem => some (F.pNe (F.toI8 b), .w8 (F.rem8 a b))
  | .eql => some (True, .b (F.eq8 a b))
  | .neq => some (True, .b (F.notb (F.eq8 a b)))
  | .lss => some (True, .b (F.lt8 a b))
  | .leq => some (True, .b (F.le8 a b))
  | .gtr => some (True, .b (F.lt8 b a))
  | .geq => some (True, .b (F.le8 b a))
  | _ => none
def w16Ev (F : Fs) (op : BinOp) (a b : UInt16) : Option (Prop × AV) :=
  match op with
  | .add => some (True, .w16 (F.add16 a b))
  | .sub => some (True, .w16 (F.sub16 a b))
  | .mul => some (True, .w16 (F.mul16 a b))
  | .and => some (True, .w16 (F.and16 a b))
  | .or => some (True, .w16 (F.or16 a b))
  | .xor => some (True, .w16 (F.xor16 a b))
  | .andNot => some (True, .w16 (F.andn16 a b))
  | .quo => some (F.pNe (F.toI16 b), .w16 (F.quo16 a b))
  | .rem => some (F.pNe (F.toI16 b), .w16 (F.rem16 a b))
  | .eql => some (True, .b (F.eq16 a b))
  | .neq => some (True, .b (F.notb (F.eq16 a b)))
  | .lss => some (True, .b (F.lt16 a b))
  | .leq => some (True, .b (F.le16 a b))
  | .gtr => some (True, .b (F.lt16 b a))
  | .geq => some (True, .b (F.le16 b a))
  | _ => none
def w32Ev (F : Fs) (op : BinOp) (a b : UInt32) : Option (Prop × AV) :=
  match op with
  | .add => some (True, .w32 (F.add32 a b))
  | .sub => some (True, .w32 (F.sub32 a b))
  | .mul => some (True, .w32 (F.mul32 a b))
  | .and => some (True, .w32 (F.and32 a b))
  | .or => some (True, .w32 (F.or32 a b))
  | .xor => some (True, .w32 (F.xor32 a b))
  | .andNot => some (True, .w32 (F.andn32 a b))
  | .quo => some (F.pNe (F.toI32 b), .w32 (F.quo32 a b))
  | .rem => some (F.pNe (F.toI32 b), .w32 (F.rem32 a b))
  | .eql => some (True, .b (F.eq32 a b))
  | .neq => some (True, .b (F.notb (F.eq32 a b)))
  | .lss => some (True, .b (F.lt32 a b))
  | .leq => some (True, .b (F.le32 a b))
  | .gtr => some (True, .b (F.lt32 b a))
  | .geq => some (True, .b (F.le32 b a))
  | _ => none
def w64Ev (F : Fs) (op : BinOp) (a b : UInt64) : Option (Prop × AV) :=
  match op with
  | .add => some (True, .w64 (F.add64 a b))
  | .sub => some (True, .w64 (F.sub64 a b))
  | .mul => some (True, .w64 (F.mul64 a b))
  | .and => some (True, .w64 (F.and64 a b))
  | .or => some (True, .w64 (F.or64 a b))
  | .xor => some (True, .w64 (F.xor64 a b))
  | .andNot => some (True, .w64 (F.andn64 a b))
  | .quo => some (F.pNe (F.toI64 b), .w64 (F.quo64 a b))
  | .rem => some (F.pNe (F.toI64 b), .w64 (F.rem64 a b))
  | .eql => some (True, .b (F.eq64 a b))
  | .neq => some (True, .b (F.notb (F.eq64 a b)))
  | .lss => some (True, .b (F.lt64 a b))
  | .leq => some (True, .b (F.le64 a b))
  | .gtr => some (True, .b (F.lt64 b a))
  | .geq => some (True, .b (F.le64 b a))
  | _ => none
def strEv (F : Fs) (op : BinOp) (a b : List UInt8) : Option (Prop × AV) :=
  match op with
  | .add => some (F.pCap (F.addn (F.lenB a) (F.lenB b)) 1, .s (F.appB a b))
  | .eql => some (True, .b (F.eqB a b))
  | .neq => some (True, .b (F.notb (F.eqB a b)))
  | .lss => some (True, .b (F.ltS a b))
  | .leq => some (True, .b (F.notb (F.ltS b a)))
  | .gtr => some (True, .b (F.ltS b a))
  | .geq => some (True, .b (F.notb (F.ltS a b)))
  | _ => none
/-- a whole number of whatever kind -/
def AV.num (F : Fs) : AV → Option Int
  | .i n => some n
  | .w8 x => some (F.toI8 x)
  | .w16 x => some (F.toI16 x)
  | .w32 x => some (F.toI32 x)
  | .w64 x => some (F.toI64 x)
  | _ => none
def binEv2 (F : Fs) (op : BinOp) (x y : AV) : Option (Prop × AV) :=
  match x, y with
  | .i a, .i b => intEv F op a b
  | .w8 a, .w8 b => w8Ev F op a b
  | .w16 a, .w16 b => w16Ev F op a b
  | .w32 a, .w32 b => w32Ev F op a b
  | .w64 a, .w64 b => w64Ev F op a b
  | .s a, .s b => strEv F op a b
  | _, _ => none
def isBool : AV → Option Bool
  | .b x => some x
  | .kb x => some x
  | _ => none
def binEv (F : Fs) (op : BinOp) (x y : AV) : Option (Prop × AV) :=
  match op with
  | .shl => match y.num F with
    | none => none
    | some s => match x with
      | .i a => some (F.p0 s, .i (F.shli a s))
      | .w8 a => some (F.p0 s, .w8 (F.shl8 a s))
      | .w16 a => some (F.p0 s, .w16 (F.shl16 a s))
      | .w32 a => some (F.p0 s, .w32 (F.shl32 a s))
      | .w64 a => some (F.p0 s, .w64 (F.shl64 a s))
      | _ => none
  | .shr => match y.num F with
    | none => none
    | some s => match x with
      | .i a => some (F.p0 s, .i (F.shri a s))
      | .w8 a => some (F.p0 s, .w8 (F.shr8 a s))
      | .w16 a => some (F.p0 s, .w16 (F.shr16 a s))
      | .w32 a => some (F.p0 s, .w32 (F.shr32 a s))
      | .w64 a => some (F.p0 s, .w64 (F.shr64 a s))
      | _ => none
  | op => binEv2 F op x y
def unEv (F : Fs) (op : UnOp) (x : AV) : Option (Prop × AV) :=
  match op, x with
  | .not, .b a => some (True, .b (F.notb a))
  | .not, .kb true => some (True, .kb false)
  | .not, .kb false => some (True, .kb true)
  | .neg, .i a => some (True, .i (F.negi a))
  | .neg, .w8 a => some (True, .w8 (F.neg8 a))
  | .neg, .w16 a => some (True, .w16 (F.neg16 a))
  | .neg, .w32 a => some (True, .w32 (F.neg32 a))
  | .neg, .w64 a => some (True, .w64 (F.neg64 a))
  | .xor, .w8 a => some (True, .w8 (F.not8 a))
  | .xor, .w16 a => some (True, .w16 (F.not16 a))
  | .xor, .w32 a => some (True, .w32 (F.not32 a))
  | .xor, .w64 a => some (True, .w64 (F.not64 a))
  | _, _ => none
def intTo (F : Fs) (k : IntKind) (n : Int) : Option AV :=
  match k with
  | .i64 => some (.i (F.wrapi n))
  | .u8 => some (.w8 (F.ofI8 n))
  | .u16 => some (.w16 (F.ofI16 n))
  | .u32 => some (.w32 (F.ofI32 n))
  | .u64 => some (.w64 (F.ofI64 n))
  | _ => none
def ofNatK (F : Fs) (k : IntKind) (n : Nat) : AV :=
  match k with
  | .u8 => if n < 256 then .w8 (F.ofI8 (F.int n)) else .u
  | .u16 => if n < 65536 then .w16 (F.ofI16 (F.int n)) else .u
  | .u32 => if n < 4294967296 then .w32 (F.ofI32 (F.int n)) else .u
  | .u64 => if n < 18446744073709551616 then .w64 (F.ofI64 (F.int n)) else .u
  | .i64 => .i (F.int n)
  | _ => .u
def ofValue (F : Fs) : Value → AV
  | .int k n => match n with
    | .ofNat j => ofNatK F k j
    | .negSucc j => match k with
      | .i64 => .i (F.nint j)
      | _ => .u
  | .bool x => .kb x
  | .string x => .s (F.ofS x)
  | .slice none 0 0 => .nl
  | .pointer none => .pn
  | _ => .u
def sget : List (Nat × AV) → Nat → AV
  | [], _ => .u
  | (k, a) :: r, t => match Nat.beq k t with
    | true => a
    | false => sget r t
def oget (F : Fs) (sl : List (Nat × AV)) : Operand → AV
  | .tmp t => sget sl t
  | .const v => ofValue F v
  | _ => .u
def oneEff (r : Option (Prop × AV)) : Look := match r with
  | some (c, v) => pure1 c v
  | none => .no
/-- a slice's or a string's length, with what is asked -/
def withLen (F : Fs) (a : AV) (K : Nat → Look) : Look :=
  match a with
  | .s x => K (F.lenB x)
  | .rb e c => match c.lenE F e with
    | some n => K n
    | none => .no
  | .sl _ _ _ _ _ n => K n
  | .nl => K 0
  | .rw k => .look k fun
    | .row _ e c => match c.lenE F e with
      | some n => K n
      | none => .no
    | _ => .no
  | _ => .no
/-- the three bounds of a slice expression over n elements: what is asked, from, to -/
def bounds (F : Fs) (n : Nat) (lo hi mx : Option AV) : Option (Prop × Nat × Nat) :=
  match optNum lo, optNum hi, optNum mx with
  | some l, some h, some m =>
    let li := match l with
      | some x => F.nat x
      | none => 0
    let hj := match h with
      | some x => F.nat x
      | none => n
    let cl := match l with
      | some x => F.p0 x ∧ F.pLe (F.nat x) hj
      | none => True
    let ch := match h with
      | some x => F.p0 x ∧ F.pLe (F.nat x) n
      | none => True
    let cm := match m, h with
      | some x, some _ => F.p0 x ∧ F.pLe hj (F.nat x) ∧ F.pLe (F.nat x) n
      | some _, none => False
      | none, _ => True
    some (cl ∧ ch ∧ cm, li, hj)
  | _, _, _ => none
where optNum : Option AV → Option (Option Int)
  | none => some none
  | some a => match a.num F with
    | some n => some (some n)
    | none => none
def sub0 (F : Fs) (h : Nat) : Nat → Nat
  | 0 => h
  | l => F.subn h l
/-- the difference; from nought on it is the end itself -/
def span (F : Fs) (lo : Option AV) (l h : Nat) : Nat :=
  match lo with
  | none => h
  | some _ => F.subn h l
def sliceEv (F : Fs) (tt : TT) (T : Nat) (x : AV) (lo hi mx : Option AV) : Look :=
  match x with
  | .s xs => match mx with
    | some _ => .no
    | none => match tlook tt T with
      | some ⟨.str, _, _, _, _⟩ => match bounds F (F.lenB xs) lo hi none with
        | some (c, l, h) => pure1 c (.s (F.cutB xs l (span F lo l h)))
        | none => .no
      | _ => .no
  | .rb e d => match tlook tt T with
    | some ⟨.slice te, _, _, _, _⟩ => match tlook tt te with
      | some ⟨_, es, _, _, _⟩ => match Nat.beq e es with
        | true => match d.lenE F e with
          | some n => match bounds F n lo hi mx with
            | some (c, l, h) => match d.cut F l (span F lo l h) with
              | some d' => pure1 c (.rb e d')
              | none => .no
            | none => .no
          | none => .no
        | false => .no
      | none => .no
    | _ => .no
  | .rw k => match tlook tt T with
    | some ⟨.slice te, _, _, _, _⟩ => match tlook tt te with
      | some ⟨_, es, _, _, _⟩ => .look k fun
        | .row _ e d => match Nat.beq e es with
          | true => match d.lenE F e with
            | some n => match bounds F n lo hi mx with
              | some (c, l, h) => pure1 c (.sl k 0 0 e l (span F lo l h))
              | none => .no
            | none => .no
          | false => .no
        | _ => .no
      | none => .no
    | _ => .no
  | .sl k g o e a n => match tlook tt T with
    | some ⟨.slice te, _, _, _, _⟩ => match tlook tt te with
      | some ⟨_, es, _, _, _⟩ => match Nat.beq e es with
        | true => match bounds F n lo hi mx with
          | some (c, l, h) => pure1 c (.sl k g o e (match lo with | none => a | some _ => F.addn a l) (span F lo l h))
          | none => .no
        | false => .no
      | none => .no
    | _ => .no
  | .p k g o => match tlook tt T with
    | some ⟨.arr n te, _, _, _, _⟩ => match tlook tt te with
      | some ⟨_, es, _, _, _⟩ => match bounds F n lo hi mx with
        | some (c, l, h) => pure1 c (.sl k g o es l (span F lo l h))
        | none => .no
      | none => .no
    | _ => .no
  | .nl => match tlook tt T with
    | some ⟨.slice te, _, _, _, _⟩ => match tlook tt te with
      | some ⟨_, es, _, _, _⟩ => match bounds F 0 lo hi mx with
        | some (c, _, _) => pure1 c .nl
        | none => .no
      | none => .no
    | _ => .no
  | _ => .no
def idxAddrEv (F : Fs) (tt : TT) (T : Nat) (x ix : AV) : Look :=
  match ix.num F with
  | none => .no
  | some i => match tlook tt T with
    | some ⟨.arr n te, _, _, _, _⟩ => match tlook tt te with
      | some ⟨_, es, _, _, _⟩ => match x with
        | .p k g o => pure1 (F.pIn i n) (.pe k g o es (F.nat i))
        | _ => .no
      | none => .no
    | some ⟨.slice te, _, _, _, _⟩ => match tlook tt te with
      | some ⟨_, es, _, _, _⟩ => match x with
        | .rb e c => match Nat.beq e es with
          | true => match c.getE F e (F.nat i) with
            | some a => pure1 (F.pIn i (c.len F)) (.pr a)
            | none => .no
          | false => .no
        | .sl k g o e a n => match Nat.beq e es with
          | true => pure1 (F.pIn i n) (.pe k g o e (F.addn a (F.nat i)))
          | false => .no
        | .rw k => .look k fun
          | .row _ e c => match Nat.beq e es with
            | true => match c.lenE F e with
              | some n => pure1 (F.pIn i n) (.pe k 0 0 e (F.nat i))
              | none => .no
            | false => .no
          | _ => .no
        | _ => .no
      | none => .no
    | _ => .no
def idxEv (F : Fs) (tt : TT) (T : Nat) (x ix : AV) : Look :=
  match ix.num F with
  | none => .no
  | some i => match x with
    | .s xs => match tlook tt T with
      | some ⟨.str, _, _, _, _⟩ => pure1 (F.pIn i (F.lenB xs)) (.w8 (F.getB xs (F.nat i)))
      | _ => .no
    | .ag m c => match tlook tt T with
      | some ⟨.arr n te, _, _, _, _⟩ => match tlook tt te with
        | some ⟨_, es, _, .one _, _⟩ => match Nat.beq n m, Nat.beq es 1 with
          | true, true => match c.get1 F (F.nat i) with
            | some a => pure1 (F.pIn i n) a
            | none => .no
          | _, _ => .no
        | _ => .no
      | _ => .no
    | _ => .no
/-- n segments on -/
def segDrop : Nat → Nat → List Seg → Option (List Seg)
  | 0, 0, s => some s
  | g + 1, o, (n, _) :: r => match Nat.ble n o with
    | true => segDrop g (o - n) r
    | false => none
  | _, _, _ => none
def segPut : Nat → Nat → List Seg → List Seg → Option (List Seg)
  | 0, 0, new, s => over new s
  | g + 1, o, new, (n, c) :: r => match Nat.ble n o with
    | true => match segPut g (o - n) new r with
      | some r' => some ((n, c) :: r')
      | none => none
    | false => none
  | _, _, _, _ => none
where over : List Seg → List Seg → Option (List Seg)
  | [], s => some s
  | (n, c) :: new, (k, _) :: s => match Nat.beq n k with
    | true => match over new s with
      | some r => some ((n, c) :: r)
      | none => none
    | false => none
  | _, _ => none
def loadEv (F : Fs) (tt : TT) (T : Nat) (x : AV) : Look :=
  match tlook tt T with
  | some ⟨_, _, _, lay, _⟩ => match x with
    | .pr a => match lay, a with
      | .one _, .ag _ _ => .no
      | .one _, a => pure1 True a
      | .arr n _, .ag k c => match Nat.beq n k with
        | true => pure1 True (.ag k c)
        | false => .no
      | .st l, .ag k c => match Nat.beq (lcells l) k with
        | true => pure1 True (.ag k c)
        | false => .no
      | _, _ => .no
    | .p k g o => .look k fun
      | .bk _ segs => match segDrop g o segs with
        | some s => match lay.take s with
          | some (a, _) => pure1 True a
          | none => .no
        | none => .no
      | _ => .no
    | .pe k g o e i => match lay, e with
      | .one _, 1 => .look k fun
        | .bk _ segs => match withContent.segAt g o segs with
          | some (n, c) => match c.get1 F i with
            | some a => pure1 (F.pLt i n) a
            | none => .no
          | none => .no
        | .row _ 1 c => match g, o with
          | 0, 0 => match c.get1 F i with
            | some a => pure1 (F.pLt i (c.len F)) a
            | none => .no
          | _, _ => .no
        | _ => .no
      | _, _ => .no
    | _ => .no
  | none => .no
def storeEv (F : Fs) (tt : TT) (T : Nat) (x v : AV) : Look :=
  match tlook tt T with
  | some ⟨_, _, _, lay, _⟩ => match x with
    | .p k g o => .look k fun
      | .bk B segs => match lay.put v with
        | some new => match segPut g o new segs with
          | some segs' => .ret ⟨True, .u, [(k, .bk B segs')]⟩
          | none => .no
        | none => .no
      | _ => .no
    | .pe k g o e i => match lay, e with
      | .one _, 1 => .look k fun
        | .bk B segs => match withContent.segAt g o segs with
          | some (n, c) => match c.set F i v with
            | some c' => match segPut g o [(n, c')] segs with
              | some segs' => .ret ⟨F.pLt i n, .u, [(k, .bk B segs')]⟩
              | none => .no
            | none => .no
          | none => .no
        | .row B 1 c => match g, o with
          | 0, 0 => match c.set F i v with
            | some c' => .ret ⟨F.pLt i (c.len F), .u, [(k, .row B 1 c')]⟩
            | none => .no
          | _, _ => .no
        | _ => .no
      | _, _ => .no
    | _ => .no
  | none => .no
def fieldAddrEv (tt : TT) (T : Nat) (x : AV) (f : Nat) : Look :=
  match tlook tt T with
  | some ⟨.st fs, _, _, _, _⟩ => match fget fs f with
    | some (_, gs, cs) => match x with
      | .p k g o => pure1 True (.p k (g + gs) (o + cs))
      | _ => .no
    | none => .no
  | _ => .no
where fget : List (Nat × Nat × Nat) → Nat → Option (Nat × Nat × Nat)
  | [], _ => none
  | a :: _, 0 => some a
  | _ :: r, i + 1 => fget r i
def allocEv (tt : TT) (kb T : Nat) : Look :=
  match tlook tt T with
  | some ⟨_, _, _, lay, _⟩ => .ret ⟨True, .p kb 0 0, [(kb, .bk T lay.segs)]⟩
  | none => .no
def boxEv (tt : TT) (kb T : Nat) (x : AV) : Look :=
  match tlook tt T with
  | some ⟨_, _, _, lay, _⟩ => match lay.put x with
    | some s => .ret ⟨True, .p kb 0 0, [(kb, .bk T s)]⟩
    | none => .no
  | none => .no
def setParts (F : Fs) : AC → List (Nat × AV) → Option AC
  | c, [] => some c
  | c, (i, v) :: r => match c.set F i v with
    | some c' => setParts F c' r
    | none => none
/-- parts of a list of one-cell elements: all there, in order -/
def inOrder : Nat → List (Nat × AV) → Option (List AV)
  | _, [] => some []
  | i, (j, v) :: r => match Nat.beq i j with
    | true => match inOrder (Nat.succ i) r with
      | some l => some (v :: l)
      | none => none
    | false => none
def buildEv (F : Fs) (tt : TT) (T : Nat) (parts : List (Nat × AV)) : Look :=
  match tlook tt T with
  | some ⟨.arr n te, _, _, .arr k z, _⟩ => match tlook tt te with
    | some ⟨_, 1, _, .one _, some ek⟩ => match Nat.beq n k with
      | true => match Nat.beq (plen parts) n with
        | true => match inOrder 0 parts with
          | some l => match ek.ofAVs l with
            | some c => pure1 True (.ag n c)
            | none => .no
          | none => .no
        | false => match setParts F z parts with
          | some c => pure1 (allLt F n parts) (.ag n c)
          | none => .no
      | false => .no
    | _ => .no
  | _ => .no
where
  plen : List (Nat × AV) → Nat
    | [] => 0
    | _ :: r => Nat.succ (plen r)
  allLt (F : Fs) (n : Nat) : List (Nat × AV) → Prop
    | [] => True
    | (i, _) :: r => F.pLt i n ∧ allLt F n r
def buildSliceEv (tt : TT) (kb T len : Nat) (parts : List (Nat × AV)) : Look :=
  match tlook tt T with
  | some ⟨.slice te, _, _, _, _⟩ => match tlook tt te with
    | some ⟨_, 1, _, .one _, some ek⟩ => match Nat.beq (buildEv.plen parts) len, Nat.ble len 16777216 with
      | true, true => match inOrder 0 parts with
        | some l => match ek.ofAVs l with
          | some c => .ret ⟨True, .rw kb, [(kb, .row te 1 c)]⟩
          | none => .no
        | none => .no
      | _, _ => .no
    | _ => .no
  | _ => .no
def makeSliceEv (F : Fs) (tt : TT) (kb T : Nat) (n m : AV) : Look :=
  match n, m with
  | .i a, .i b => match tlook tt T with
    | some ⟨.slice te, _, _, _, _⟩ => match tlook tt te with
      | some ⟨_, 1, by_, .one _, some ek⟩ => .ret ⟨F.p0 a ∧ F.pLeI a b ∧ F.pMk b by_, .rw kb, [(kb, .row te 1 (ek.rep F (F.nat a)))]⟩
      | _ => .no
    | _ => .no
  | _, _ => .no
def appendK (F : Fs) (kb te by_ : Nat) (s : AV) (d : AC) : Look :=
  match s with
  | .nl => .ret ⟨F.pCap (d.len F) by_, .rw kb, [(kb, .row te 1 d)]⟩
  | .rw k => .look k fun
    | .row te' 1 c => match Nat.beq te te' with
      | true => match c.app F d with
        | some c' => .ret ⟨F.pCap (F.addn (c.len F) (d.len F)) by_, .rw kb, [(kb, .row te 1 c'), (k, .dead)]⟩
        | none => .no
      | false => .no
    | _ => .no
  | _ => .no
def appendEv (F : Fs) (tt : TT) (kb T : Nat) (s x : AV) : Look :=
  match tlook tt T with
  | some ⟨.slice te, _, _, _, _⟩ => match tlook tt te with
    | some ⟨_, 1, by_, .one _, some ek⟩ => match x with
      | .s xs => match ek with
        | .kB => appendK F kb te by_ s (.bt xs)
        | _ => .no
      | .nl => appendK F kb te by_ s ek.nil
      | x => withContent F x fun d => appendK F kb te by_ s d
    | _ => .no
  | _ => .no
def copyK (F : Fs) (s : AV) (d : AC) : Look :=
  match s with
  | .sl k g o 1 a n => .look k fun
    | .bk B segs => match withContent.segAt g o segs with
      | some (m, c) => match d.cutE F 1 0 (F.minn (d.len F) n) with
        | some d' => match c.splice F a d' with
          | some c' => match segPut g o [(m, c')] segs with
            | some segs' => .ret ⟨F.pLe (F.addn a n) m, .i (F.int (F.minn (d.len F) n)), [(k, .bk B segs')]⟩
            | none => .no
          | none => .no
        | none => .no
      | none => .no
    | .row B 1 c => match g, o with
      | 0, 0 => match d.cutE F 1 0 (F.minn (d.len F) n) with
        | some d' => match c.splice F a d' with
          | some c' => .ret ⟨F.pLe (F.addn a n) (c.len F), .i (F.int (F.minn (d.len F) n)), [(k, .row B 1 c')]⟩
          | none => .no
        | none => .no
      | _, _ => .no
    | _ => .no
  | .rw k => .look k fun
    | .row B 1 c => match d.cutE F 1 0 (F.minn (d.len F) (c.len F)) with
      | some d' => match c.splice F 0 d' with
        | some c' => .ret ⟨True, .i (F.int (F.minn (d.len F) (c.len F))), [(k, .row B 1 c')]⟩
        | none => .no
      | none => .no
    | _ => .no
  | _ => .no
def copyEv (F : Fs) (tt : TT) (T : Nat) (s x : AV) : Look :=
  match tlook tt T with
  | some ⟨.slice te, _, _, _, _⟩ => match tlook tt te with
    | some ⟨_, 1, _, .one _, some ek⟩ => match x with
      | .s xs => match ek with
        | .kB => copyK F s (.bt xs)
        | _ => .no
      | x => withContent F x fun d => copyK F s d
    | _ => .no
  | _ => .no
def convEv (F : Fs) (tt : TT) (kb src dst : Nat) (x : AV) : Look :=
  match tlook tt dst with
  | some ⟨.int k, _, _, _, _⟩ => match x.num F, tlook tt src with
    | some n, some ⟨.int _, _, _, _, _⟩ => match intTo F k n with
      | some v => pure1 True v
      | none => .no
    | _, _ => .no
  | some ⟨.str, _, _, _, _⟩ => match tlook tt src with
    | some ⟨.str, _, _, _, _⟩ => match x with
      | .s xs => pure1 True (.s xs)
      | _ => .no
    | some ⟨.slice te, _, _, _, _⟩ => match tlook tt te with
      | some ⟨.int .u8, 1, _, _, _⟩ => match x with
        | .nl => pure1 True (.s [])
        | x => withContent F x fun
          | .bt xs => pure1 True (.s xs)
          | _ => .no
      | _ => .no
    | _ => .no
  | some ⟨.slice te, _, _, _, _⟩ => match tlook tt te with
    | some ⟨.int .u8, 1, _, _, _⟩ => match x, tlook tt src with
      | .s xs, some ⟨.str, _, _, _, _⟩ => .ret ⟨F.pCap (F.lenB xs) 1, .rw kb, [(kb, .row te 1 (.bt xs))]⟩
      | _, _ => .no
    | _ => .no
  | _ => .no
def pickEv (F : Fs) (c a b : AV) : Look :=
  match c with
  | .kb true => pure1 True a
  | .kb false => pure1 True b
  | .b x => match isBool a, isBool b with
    | some y, some z => pure1 True (.b (F.cond x y z))
    | _, _ => .no
  | _ => .no
def min2Ev (F : Fs) : AV → AV → Option AV
  | .i a, .i b => some (.i (F.mini a b))
  | .w8 a, .w8 b => some (.w8 (F.min8 a b))
  | .w16 a, .w16 b => some (.w16 (F.min16 a b))
  | .w32 a, .w32 b => some (.w32 (F.min32 a b))
  | .w64 a, .w64 b => some (.w64 (F.min64 a b))
  | _, _ => none
def max2Ev (F : Fs) : AV → AV → Option AV
  | .i a, .i b => some (.i (F.maxi a b))
  | .w8 a, .w8 b => some (.w8 (F.max8 a b))
  | .w16 a, .w16 b => some (.w16 (F.max16 a b))
  | .w32 a, .w32 b => some (.w32 (F.max32 a b))
  | .w64 a, .w64 b => some (.w64 (F.max64 a b))
  | _, _ => none
def eqEv (F : Fs) (tt : TT) (T : Nat) (x y : AV) : Option (Prop × Bool) :=
  match x, y with
  | .ag n c, .ag k d => match tlook tt T with
    | some ⟨.arr m te, _, _, _, _⟩ => match tlook tt te with
      | some ⟨.int _, 1, _, .one _, some ek⟩ => match Nat.beq n m, Nat.beq k m with
        | true, true => match c.eqv F d with
          | some b => some (True, b)
          | none => none
        | _, _ => none
      | _ => none
    | _ => none
  | _, _ => none
def boolEq (F : Fs) (tt : TT) (op : BinOp) (T : Nat) (a : Bool) (y : AV) : Look :=
  match isBool y, tlook tt T with
  | some b, some ⟨.bool, _, _, _, _⟩ => match op with
    | .eql => pure1 True (.b (F.eqb a b))
    | .neq => pure1 True (.b (F.notb (F.eqb a b)))
    | _ => .no
  | _, _ => .no
def binopEv (F : Fs) (tt : TT) (op : BinOp) (T : Nat) (x y : AV) : Look :=
  match x with
  | .b a => boolEq F tt op T a y
  | .kb a => boolEq F tt op T a y
  | .ag _ _ => match op with
    | .eql => match eqEv F tt T x y with
      | some (c, b) => pure1 c (.b b)
      | none => .no
    | .neq => match eqEv F tt T x y with
      | some (c, b) => pure1 c (.b (F.notb b))
      | none => .no
    | _ => .no
  | x => oneEff (binEv F op x y)
abbrev Spec := List AV → Nat → Look
abbrev Specs := List (Nat × Spec)
def splook : Specs → Nat → Option Spec
  | [], _ => none
  | (k, a) :: r, t => match Nat.beq k t with
    | true => some a
    | false => splook r t
def builtinEv (F : Fs) (tt : TT) (kb : Nat) (b : Builtin) (argTypes : List Nat) (args : List AV) : Look :=
  match b, argTypes, args with
  | .len, [T], [x] => match tlook tt T with
    | some ⟨.slice _, _, _, _, _⟩ => match x with
      | .s _ => .no
      | x => withLen F x fun n => pure1 True (.i (F.int n))
    | some ⟨.str, _, _, _, _⟩ => match x with
      | .s xs => pure1 True (.i (F.int (F.lenB xs)))
      | _ => .no
    | _ => .no
  | .append, [T, U], [s, x] => match tlook tt U with
    | some ⟨.slice _, _, _, _, _⟩ => appendEv F tt kb T s x
    | some ⟨.str, _, _, _, _⟩ => appendEv F tt kb T s x
    | _ => .no
  | .copy, [T, _], [s, x] => copyEv F tt T s x
  | .min, _, [a, b] => match min2Ev F a b with
    | some v => pure1 True v
    | none => .no
  | .max, _, [a, b] => match max2Ev F a b with
    | some v => pure1 True v
    | none => .no
  | _, _, _ => .no
def aop (F : Fs) (tt : TT) (sp : Specs) (sl : List (Nat × AV)) (kb : Nat) (op : Op) : Look :=
  match op with
  | .move x => pure1 True (oget F sl x)
  | .assign x => pure1 True (oget F sl x)
  | .pick c a b => pickEv F (oget F sl c) (oget F sl a) (oget F sl b)
  | .alloc T => allocEv tt kb T
  | .box T x => boxEv tt kb T (oget F sl x)
  | .build T ps => buildEv F tt T (parts ps.toList)
  | .buildSlice T n ps => buildSliceEv tt kb T n (parts ps.toList)
  | .load T x => loadEv F tt T (oget F sl x)
  | .store T x v => storeEv F tt T (oget F sl x) (oget F sl v)
  | .nilCheck x => match oget F sl x with
    | .p k g o => pure1 True (.p k g o)
    | .pe k g o e i => pure1 True (.pe k g o e i)
    | .pr a => pure1 True (.pr a)
    | _ => .no
  | .binOp op T x y _ => binopEv F tt op T (oget F sl x) (oget F sl y)
  | .unOp op _ x => oneEff (unEv F op (oget F sl x))
  | .convert src dst x => convEv F tt kb src dst (oget F sl x)
  | .makeSlice T n m => makeSliceEv F tt kb T (oget F sl n) (oget F sl m)
  | .slice T x lo hi mx => sliceEv F tt T (oget F sl x) (optGet lo) (optGet hi) (optGet mx)
  | .fieldAddr T x f => fieldAddrEv tt T (oget F sl x) f
  | .indexAddr T x i => idxAddrEv F tt T (oget F sl x) (oget F sl i)
  | .index T x i => idxEv F tt T (oget F sl x) (oget F sl i)
  | .extract x i => match oget F sl x with
    | .tup l => match Nat.blt i (llen l) with
      | true => pure1 True (lget l i)
      | false => .no
    | _ => .no
  | .call ⟨.builtin b, args, tys⟩ => builtinEv F tt kb b tys.toList (gets args.toList)
  | .call ⟨.value (.func f), args, _⟩ => match splook sp f with
    | some s => s (gets args.toList) kb
    | none => .no
  | _ => .no
where
  gets : List Operand → List AV
    | [] => []
    | x :: r => oget F sl x :: gets r
  parts : List (Nat × Operand) → List (Nat × AV)
    | [] => []
    | (i, x) :: r => (i, oget F sl x) :: parts r
  optGet : Option Operand → Option AV
    | none => none
    | some x => some (oget F sl x)

end Go.Vc