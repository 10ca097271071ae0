/- A part of the proof of given statements: a verified condition generator for the model, and contracts of the program's functions. No condition. -/
import Derived.Test.YtegnmmfjbncgnaaVcReg
set_option linter.unusedVariables false
set_option linter.unusedSimpArgs false
namespace Go.Vc
open Go Go.RowKit

/-! ## Regions whose order is drawn -/
def isTmp : Operand → Option Nat
  | .tmp t => some t
  | _ => none
def tmpsOf : List Operand → List Nat
  | [] => []
  | x :: r => match isTmp x with
    | some t => t :: tmpsOf r
    | none => tmpsOf r
def Oper.reads (o : Oper) : List Nat := tmpsOf o.op.operands.toList
def rdSl (sl : List (Nat × AV)) : List Nat → List (Nat × AV)
  | [] => []
  | t :: r => (t, sget sl t) :: rdSl sl r
/-- no look into memory -/
def opPure (tt : TT) : Op → Bool
  | .move _ => true
  | .assign _ => true
  | .pick _ _ _ => true
  | .binOp _ _ _ _ _ => true
  | .unOp _ _ _ => true
  | .extract _ _ => true
  | .build _ _ => true
  | .nilCheck _ => true
  | .fieldAddr _ _ _ => true
  | .indexAddr T _ _ => match tlook tt T with
    | some ⟨.arr _ _, _, _, _, _⟩ => true
    | _ => false
  | _ => false
/-- may change what was there -/
def isMut : Op → Bool
  | .store _ _ _ => true
  | .call { callee := .builtin .copy, .. } => true
  | .call { callee := .builtin .append, args := args, .. } => match args.toList with
    | .const _ :: _ => false
    | _ => true
  | _ => false
def inDrop (nk0 : Nat) (k : Nat) : List Nat → Bool
  | [] => false
  | j :: r => match Nat.ble (nk0 + 8 * j) k with
    | true => match Nat.blt k (nk0 + 8 * j + 8) with
      | true => true
      | false => inDrop nk0 k r
    | false => inDrop nk0 k r
def memDrop (nk0 : Nat) (ds : List Nat) : Mem → Mem
  | [] => []
  | (k, a) :: r => match inDrop nk0 k ds with
    | true => memDrop nk0 ds r
    | false => (k, a) :: memDrop nk0 ds r
def memBelow (nk : Nat) : Mem → Bool
  | [] => true
  | (k, _) :: r => match Nat.blt k nk with
    | true => memBelow nk r
    | false => false
def putsOk (pu mu : Bool) (nk : Nat) : Mem → Bool
  | [] => true
  | (k, _) :: r => match pu, mu, Nat.ble nk k, Nat.blt k (nk + 8) with
    | false, true, _, true => putsOk pu mu nk r
    | false, false, true, true => putsOk pu mu nk r
    | _, _, _, _ => false
abbrev Drops := List (Nat × List Nat)
def dlook : Drops → Nat → List Nat
  | [], _ => []
  | (k, a) :: r, t => match Nat.beq k t with
    | true => a
    | false => dlook r t
def dMem (tt : TT) (drs : Drops) (nk0 i : Nat) (op : Op) (me : Mem) : Mem :=
  match opPure tt op with
  | true => []
  | false => match dlook drs i with
    | [] => me
    | ds => memDrop nk0 ds me
def dRun (F : Fs) (x : Cx) (drs : Drops) (nk0 i : Nat) (o : Oper) (s : AS) : Option Eff :=
  (aop F x.tt x.sp (rdSl s.sl (Oper.reads o)) s.nk o.op).run (dMem x.tt drs nk0 i o.op s.me)
def AS.skipD (s : AS) (dst : Option Nat) : AS := ⟨(s.putO dst (.tup [])).sl, s.me, s.nk + 8⟩
def dOp (F : Fs) (x : Cx) (drs : Drops) (nk0 i : Nat) (o : Oper) (s : AS) (K : AS → Prop) : Prop :=
  match dstOk x.nt o.dst with
  | true => match dRun F x drs nk0 i o s with
    | some e => match putsOk (opPure x.tt o.op) (isMut o.op) s.nk e.puts with
      | true => e.c ∧ K (s.upd o.dst e.v e.puts)
      | false => False
    | none => False
  | false => False
def drawVc (F : Fs) (x : Cx) (mu : Bool) (drs : Drops) (nk0 : Nat) (all : List Oper) : Nat → List Oper → AS → (AS → Prop) → Prop
  | _, [], s, K => K s
  | i, o :: r, s, K => match o.guard with
    | none => dOp F x drs nk0 i o s fun s' => drawVc F x mu drs nk0 all (Nat.succ i) r s' K
    | some (j, want) => match nth all j with
      | none => False
      | some oj => match oj.dst with
        | none => False
        | some dj => match sget s.sl dj with
          | .kb true => match want with
            | true => dOp F x drs nk0 i o s fun s' => drawVc F x mu drs nk0 all (Nat.succ i) r s' K
            | false => drawVc F x mu drs nk0 all (Nat.succ i) r (s.skipD o.dst) K
          | .kb false => match want with
            | false => dOp F x drs nk0 i o s fun s' => drawVc F x mu drs nk0 all (Nat.succ i) r s' K
            | true => drawVc F x mu drs nk0 all (Nat.succ i) r (s.skipD o.dst) K
          | .b y => match mu with
            | true => F.pB y true ∧ (match want with
              | true => dOp F x drs nk0 i o (s.put dj (.kb true)) fun s' => drawVc F x mu drs nk0 all (Nat.succ i) r s' K
              | false => drawVc F x mu drs nk0 all (Nat.succ i) r ((s.put dj (.kb true)).skipD o.dst) K)
            | false => match want with
            | true => (F.pB y false ∨ dOp F x drs nk0 i o (s.put dj (.kb true)) fun s' => drawVc F x mu drs nk0 all (Nat.succ i) r s' K) ∧
                (F.pB y true ∨ drawVc F x mu drs nk0 all (Nat.succ i) r ((s.put dj (.kb false)).skipD o.dst) K)
            | false => (F.pB y true ∨ dOp F x drs nk0 i o (s.put dj (.kb false)) fun s' => drawVc F x mu drs nk0 all (Nat.succ i) r s' K) ∧
                (F.pB y false ∨ drawVc F x mu drs nk0 all (Nat.succ i) r ((s.put dj (.kb true)).skipD o.dst) K)
          | .tup [] => drawVc F x mu drs nk0 all (Nat.succ i) r (s.skipD o.dst) K
          | _ => False

/-! ## What of a region can be seen without running it -/
def bmask (B : List Nat) (o : Oper) : Nat := o.after.toList.foldl (fun s e => if Region.binds .any e then s ||| 2 ^ e.on ||| B.getD e.on 0 else s) 0
def gslot (all : List Oper) (o : Oper) : List Nat := match o.guard with
  | none => []
  | some (j, _) => match all[j]? with
    | some oj => oj.dst.toList
    | none => []
def comp (B : List Nat) (i j : Nat) : Bool := (B.getD i 0).testBit j || (B.getD j 0).testBit i
/-- everything that hangs on the ways of ordering alone -/
def drawOk (tt : TT) (drs : Drops) (ops : List Oper) : Bool :=
  let B := (Region.before ops.toArray).toList
  (List.range ops.length).all fun i => match ops[i]? with
    | none => true
    | some o => (o.after.toList.all fun e => !Region.binds .any e || e.on < i) && (B.getD i 0 == bmask B o) &&
      (match o.guard with
        | none => true
        | some (j, _) => (B.getD i 0).testBit j) &&
      (List.range ops.length).all fun j => match ops[j]? with
        | none => true
        | some q => j == i || (
          (match q.dst with
            | none => true
            | some d => (!(Oper.reads o).contains d || comp B i j) && !(o.dst == some d)) &&
          (opPure tt o.op || !isMut q.op || comp B i j) &&
          (opPure tt o.op || opPure tt q.op || !(j < i) || (B.getD i 0).testBit j || (dlook drs i).contains j))
abbrev DrawT := List (Nat × Drops)
def drlook : DrawT → Nat → Drops
  | [], _ => []
  | (k, a) :: r, t => match Nat.beq k t with
    | true => a
    | false => drlook r t
def drawsOk (tt : TT) (dr : DrawT) : Code → Bool
  | .region id ops true => drawOk tt (drlook dr id) ops.toList
  | .seq a b => drawsOk tt dr a && drawsOk tt dr b
  | .block _ b => drawsOk tt dr b
  | .cond _ a b => drawsOk tt dr a && drawsOk tt dr b
  | .loop b => drawsOk tt dr b
  | _ => true

structure DStat (tt : TT) (drs : Drops) (ops : List Oper) (B : List Nat) : Prop where
  on : ∀ i o e, ops[i]? = some o → e ∈ o.after → Region.binds .any e = true → e.on < i
  msk : ∀ i o, ops[i]? = some o → B.getD i 0 = bmask B o
  gd : ∀ i o j b, ops[i]? = some o → o.guard = some (j, b) → (B.getD i 0).testBit j = true
  rd : ∀ (i : Nat) (o : Oper) (j : Nat) (q : Oper) (d : Nat), ops[i]? = some o → ops[j]? = some q → j ≠ i → q.dst = some d → d ∈ Oper.reads o → comp B i j = true
  ds : ∀ (i : Nat) (o : Oper) (j : Nat) (q : Oper) (d : Nat), ops[i]? = some o → ops[j]? = some q → j ≠ i → q.dst = some d → o.dst ≠ some d
  mt : ∀ i o j q, ops[i]? = some o → ops[j]? = some q → j ≠ i → opPure tt o.op = false → isMut q.op = true → comp B i j = true
  dr : ∀ i o j q, ops[i]? = some o → ops[j]? = some q → j < i → opPure tt o.op = false → opPure tt q.op = false → (B.getD i 0).testBit j = true ∨ j ∈ dlook drs i
theorem drawOk_spec {tt : TT} {drs : Drops} {ops : List Oper} (h : drawOk tt drs ops = true) : DStat tt drs ops (Region.before ops.toArray).toList := by
  unfold drawOk at h
  simp only [List.all_eq_true, List.mem_range] at h
  have key : ∀ i o, ops[i]? = some o → i < ops.length := fun i o h => (List.getElem?_eq_some_iff.1 h).1
  have h1 : ∀ i o, ops[i]? = some o → _ := fun i o ho => by have := h i (key i o ho); rw [ho] at this; exact this
  refine ⟨fun i o e ho he hb => ?_, fun i o ho => ?_, fun i o j b ho hg => ?_, fun i o j q d ho hq hne hd hr => ?_, fun i o j q d ho hq hne hd hr => ?_, fun i o j q ho hq hne hp hm => ?_, fun i o j q ho hq hlt hp hpq => ?_⟩
  · have := h1 i o ho
    simp only [Bool.and_eq_true, List.all_eq_true] at this
    have := this.1.1.1 e (by simpa using he)
    simpa [hb] using this
  · have := h1 i o ho
    simp only [Bool.and_eq_true, List.all_eq_true] at this
    simpa using this.1.1.2
  · have := h1 i o ho
    simp only [Bool.and_eq_true, List.all_eq_true, hg] at this
    exact this.1.2
  all_goals
    have := h1 i o ho
    simp only [Bool.and_eq_true, List.all_eq_true] at this
    have := this.2 j (by rw [List.mem_range]; exact key j q hq)
    rw [hq] at this
    simp only [Bool.or_eq_true, beq_iff_eq, Bool.and_eq_true] at this
  · have := ((this.resolve_left hne).1.1)
    rw [hd] at this
    simp only [Bool.and_eq_true, Bool.or_eq_true, Bool.not_eq_true', List.contains_eq_mem, decide_eq_false_iff_not] at this
    exact this.1.resolve_left (fun h => h hr)
  · have := ((this.resolve_left hne).1.1)
    rw [hd] at this
    simp only [Bool.and_eq_true, Bool.or_eq_true, Bool.not_eq_true', beq_eq_false_iff_ne] at this
    exact this.2 hr
  · have := ((this.resolve_left hne).1.2)
    simpa [hp, hm] using this
  · have := ((this.resolve_left (by omega)).2)
    simpa [hp, hpq, hlt] using this
end Go.Vc
