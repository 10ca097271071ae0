/- A part of the proof of given statements: a verified condition generator for the model, and contracts of the program's functions. No condition. -/
import Derived.Test.YtegnmmfjbncgnaaVcSnd13
set_option linter.unusedVariables false
set_option linter.unusedSimpArgs false
namespace Go.Vc
open Go Go.RowKit

/-- the world against the one in which the call began: W: the blocks that may be written -/
structure Env where
  w0 : World
  W : List Nat
  ok : Nat → Prop
  keep : Option (Hd × World)
  pin : List (Nat × Value)
structure Fr (E : Env) (m : Hd) (w : World) : Prop where
  os : w.os = E.w0.os
  tape : w.tape = E.w0.tape
  output : w.output = E.w0.output
  size : E.w0.heap.size ≤ w.heap.size
  ok : m.ok = E.ok
  block : ∀ b, b < E.w0.heap.size → b ∉ E.W → w.heap[b]? = E.w0.heap[b]?
  own : ∀ k v b, m k = some v → blk v = some b → E.w0.heap.size ≤ b ∨ b ∈ E.W
  keep : ∀ m0 w1, E.keep = some (m0, w1) → Pres m0 w1 m w
  pin : ∀ j v, (j, v) ∈ E.pin → m j = some v
theorem Fr.step {E : Env} {m m' : Hd} {w w' : World} (h : Fr E m w) (t : Tr m w m' w') : Fr E m' w' := by
  refine ⟨t.os.trans h.os, t.tape.trans h.tape, t.output.trans h.output, Nat.le_trans h.size t.size, t.ok.trans h.ok, fun b hb hw => ?_, fun k v b hk hv => ?_, fun m0 w1 he => (h.keep m0 w1 he).trans t.pres, fun j v hj => t.mu j v (h.pin j v hj)⟩
  · rw [t.old b (Nat.lt_of_lt_of_le hb h.size) (fun k v hk hv => ?_), h.block b hb hw]
    rcases h.own k v b hk hv with h1 | h1
    · omega
    · exact hw h1
  · rcases t.own k v b hk hv with ⟨k0, v0, h1, h2⟩ | h1
    · exact h.own k0 v0 b h1 h2
    · exact .inl (Nat.le_trans h.size h1)

/-- memory's part of a state -/
structure StM (E : Env) (me : Mem) (nk : Nat) (m : Hd) (w : World) : Prop where
  mem : MemR m w me
  bd : Bd m w
  nk : ∀ k, nk ≤ k → m k = none
  fr : Fr E m w
/-- a call's contract, by what follows it -/
def KSpecOK (P : Program) (f : Nat) (ks : KSpec) : Prop :=
  ∀ (E : Env) (s : AS) (m : Hd) (w : World) (args : List AV) (vals : List Value) (K : AV → AS → Prop), StM E s.me s.nk m w → RVs m w args vals → ks args s K →
    Calls P f vals.toArray w fun en w' => ∃ v, en = .returned v ∧ ∃ av s' m', K av s' ∧ RV m' w' av v ∧ StM E s'.me s'.nk m' w' ∧ Pres m w m' w'
def KSpecsOK (P : Program) (kss : List (Nat × KSpec)) : Prop := ∀ p ∈ kss, Ready P p.1 ∧ KSpecOK P p.1 p.2
theorem KSpecsOK.look {P : Program} {kss : List (Nat × KSpec)} (h : KSpecsOK P kss) {f : Nat} {s : KSpec} (hl : klook kss f = some s) : Ready P f ∧ KSpecOK P f s := by
  induction kss with
  | nil => simp [klook] at hl
  | cons a r ih =>
    obtain ⟨k, t⟩ := a
    simp only [klook] at hl
    split at hl
    · rename_i e
      have := Nat.eq_of_beq_eq_true e
      subst this; cases hl
      exact h (k, s) (by simp)
    · exact ih (fun p hp => h p (by simp [hp])) hl
structure XOK (P : Program) (x : Cx) : Prop where
  tt : TTok P x.tt
  sp : SpecsOK P x.sp
  ks : KSpecsOK P x.ks

structure StR (E : Env) (nt : Nat) (s : AS) (m : Hd) (a : Act) (w : World) : Prop where
  sl : SlR m w s.sl a
  mem : MemR m w s.me
  bd : Bd m w
  nk : ∀ k, s.nk ≤ k → m k = none
  tm : a.tmps.size = nt
  df : a.defers = []
  fr : Fr E m w

section
variable {P : Program} {E : Env} {x : Cx} {s : AS} {m : Hd} {a : Act} {w : World}

theorem SlR.put {sl : List (Nat × AV)} (h : SlR m w sl a) {d : Nat} {av : AV} {v : Value} (hd : d < a.tmps.size) (hv : RV m w av v) : SlR m w ((d, av) :: sl) (a.put (some d) v) := by
  intro t
  simp only [sget, Act.put]
  split
  · rename_i e
    have := beq_nat e; subst this
    simp [hd, hv]
  · rename_i e
    have hne : d ≠ t := fun h => by subst h; simp at e
    have := h t
    simpa [Array.getD_eq_getD_getElem?, Array.getElem?_setIfInBounds_ne hne] using this
theorem SlR.mono {m' : Hd} {w' : World} {sl : List (Nat × AV)} (h : SlR m w sl a) (hp : Pres m w m' w') : SlR m' w' sl a := fun t => RV_mono hp _ _ (h t)
theorem SlR.putU {sl : List (Nat × AV)} (h : SlR m w sl a) {d : Nat} : SlR m w ((d, .tup []) :: sl) (a.put (some d) undef) := by
  intro t
  simp only [sget, Act.put]
  split
  · rename_i e
    have := beq_nat e; subst this
    simp only [RV, RVs]
    refine ⟨[], ?_, rfl⟩
    by_cases hd : d < a.tmps.size
    · simp [hd, undef]
    · simp [Array.getElem?_eq_none (Nat.le_of_not_lt hd), undef]
  · rename_i e
    have hne : d ≠ t := fun h => by subst h; simp at e
    have := h t
    simpa [Array.getD_eq_getD_getElem?, Array.getElem?_setIfInBounds_ne hne] using this
theorem SlR.know {sl : List (Nat × AV)} (h : SlR m w sl a) {d : Nat} {av : AV} (hv : RV m w av (a.tmps.getD d undef)) : SlR m w ((d, av) :: sl) a := by
  intro t
  simp only [sget]
  split
  · rename_i e
    have := beq_nat e; subst this
    exact hv
  · exact h t

theorem StR.base (h : StR E x.nt s m a w) : Base m w s.me s.nk := ⟨h.mem, h.bd, fun k hk _ => h.nk k hk⟩
theorem put_size (a : Act) (d : Option Nat) (v : Value) : (a.put d v).tmps.size = a.tmps.size := by cases d <;> simp [Act.put]
theorem put_defers (a : Act) (d : Option Nat) (v : Value) : (a.put d v).defers = a.defers := by cases d <;> rfl
theorem StR.step (h : StR E x.nt s m a w) {dst : Option Nat} (hd : dstOk x.nt dst = true) {av : AV} {puts : Mem} {v : Value} {m' : Hd} {w' : World} (hk : OkE m w s.me s.nk av puts v m' w') :
    StR E x.nt (s.upd dst av puts) m' (a.put dst v) w' := by
  have hsl := h.sl.mono hk.tr.pres
  refine ⟨?_, ?_, hk.bd, fun k hk1 => ?_, ?_, ?_, h.fr.step hk.tr⟩
  · cases dst with
    | none => exact hsl
    | some d => exact hsl.put (by simp [dstOk, Nat.blt] at hd; rw [h.tm]; omega) hk.rv
  · cases dst <;> exact hk.mem
  · have hnk : (s.upd dst av puts).nk = s.nk + 8 := by cases dst <;> rfl
    cases hm : m' k with
    | none => rfl
    | some u =>
      exfalso
      rcases hk.keys k (by simp [hm]) with h1 | h1
      · exact h1 (h.nk k (by omega))
      · omega
  · rw [put_size]; exact h.tm
  · rw [put_defers]; exact h.df
theorem StR.skip (h : StR E x.nt s m a w) {dst : Option Nat} : StR E x.nt (s.putO dst (.tup [])) m (a.put dst undef) w := by
  refine ⟨?_, ?_, h.bd, ?_, ?_, ?_, h.fr⟩
  · cases dst with
    | none => exact h.sl
    | some d => exact h.sl.putU
  · cases dst <;> exact h.mem
  · cases dst <;> exact h.nk
  · rw [put_size]; exact h.tm
  · rw [put_defers]; exact h.df
theorem StR.know (h : StR E x.nt s m a w) {d : Nat} {av : AV} (hv : RV m w av (a.tmps.getD d undef)) : StR E x.nt (s.put d av) m a w :=
  ⟨h.sl.know hv, h.mem, h.bd, h.nk, h.tm, h.df, h.fr⟩

theorem nth_get {α : Type} : ∀ (l : List α) (i : Nat), nth l i = l[i]?
  | [], i => by simp [nth]
  | a :: r, 0 => rfl
  | a :: r, i + 1 => by simp [nth, nth_get r i]
theorem yielded_of {all : List Oper} {j dj : Nat} {oj : Oper} (h1 : nth all j = some oj) (h2 : oj.dst = some dj) : yielded all.toArray a.tmps j = (match a.tmps[dj]? with | some (.bool b) => some b | _ => none) := by
  rw [nth_get] at h1
  simp only [yielded, List.getElem?_toArray, h1, Option.bind_some, h2]
  rfl
theorem yielded_bool {all : List Oper} {j dj : Nat} {oj : Oper} (h1 : nth all j = some oj) (h2 : oj.dst = some dj) {b : Bool} (hv : a.tmps.getD dj undef = .bool b) : yielded all.toArray a.tmps j = some b := by
  rw [yielded_of h1 h2]
  rw [Array.getD_eq_getD_getElem?] at hv
  cases h : a.tmps[dj]? with
  | none => rw [h] at hv; simp [undef] at hv
  | some u => rw [h] at hv; simp at hv; subst hv; rfl
theorem yielded_undef {all : List Oper} {j dj : Nat} {oj : Oper} (h1 : nth all j = some oj) (h2 : oj.dst = some dj) (hv : a.tmps.getD dj undef = undef) : yielded all.toArray a.tmps j = none := by
  rw [yielded_of h1 h2]
  rw [Array.getD_eq_getD_getElem?] at hv
  cases h : a.tmps[dj]? with
  | none => rfl
  | some u => rw [h] at hv; simp at hv; subst hv; rfl

theorem StR.stM (h : StR E x.nt s m a w) : StM E s.me s.nk m w := ⟨h.mem, h.bd, h.nk, h.fr⟩
theorem StR.back (h : StR E x.nt s m a w) {dst : Option Nat} (hd : dstOk x.nt dst = true) {av : AV} {s' : AS} {v : Value} {m' : Hd} {w' : World} (hv : RV m' w' av v) (hs : StM E s'.me s'.nk m' w') (hp : Pres m w m' w') :
    StR E x.nt (s.ret dst av s') m' (a.put dst v) w' := by
  have hsl := h.sl.mono hp
  refine ⟨?_, ?_, hs.bd, ?_, ?_, ?_, hs.fr⟩
  · cases dst with
    | none => exact hsl
    | some d => exact hsl.put (by simp [dstOk, Nat.blt] at hd; rw [h.tm]; omega) hv
  · cases dst <;> exact hs.mem
  · cases dst <;> exact hs.nk
  · rw [put_size]; exact h.tm
  · rw [put_defers]; exact h.df

theorem kcall_run (hs : KSpecsOK P x.ks) {o : Oper} {ks : KSpec} {args : List Operand} (hk : kcall x.ks o.op = some (ks, args)) (hr : StR E x.nt s m a w) {K : AV → AS → Prop} (h : ks (aop.gets real s.sl args) s K) :
    OpRun P a.eval o w fun v w' => ∃ av s' m', K av s' ∧ RV m' w' av v ∧ StM E s'.me s'.nk m' w' ∧ Pres m w m' w' := by
  obtain ⟨dst, op, type, pos, after, guard⟩ := o
  unfold kcall at hk
  split at hk
  · rename_i f args' tys hop
    simp only at hop; subst hop
    split at hk
    · rename_i k hl
      cases hk
      obtain ⟨hr1, hok⟩ := hs.look hl
      have hcall := hok E s m w _ _ K hr.stM (gets_sound hr.sl args'.toList) h
      have e1 : (args'.toList.map a.eval).toArray = args'.map a.eval := by rw [← Array.toList_map, Array.toArray_toList]
      rw [e1] at hcall
      have key : execOp a.eval { dst := dst, op := Op.call { callee := .value (.func f), args := args', argTypes := tys }, type := type, pos := pos, after := after, guard := guard } = callFunc f ((#[] ++ args'.map a.eval) ++ #[]) := rfl
      unfold OpRun
      rw [key, callFunc_run hr1, Array.append_empty, Array.empty_append]
      exact hcall
    · cases hk
  · cases hk

theorem opVc_sound (hx : XOK P x) {o : Oper} {K : AS → Prop} (h : opVc real x o s K) (hr : StR E x.nt s m a w) {K' : Act → World → Prop} {Q : Exit → Act → World → Prop}
    (hK : ∀ s' m' a' w', StR E x.nt s' m' a' w' → K s' → K' a' w') : o.wp P a w K' Q := by
  unfold opVc at h
  split at h
  · rename_i hd
    split at h
    · rename_i ks args hks
      exact (kcall_run hx.ks hks hr h).wp fun v w' ⟨av, s', m', hk, hv, hm, hp⟩ => hK _ m' _ w' (hr.back hd hv hm hp) hk
    · split at h
      · rename_i e he
        exact (aop_sound hx.tt hx.sp hr.base hr.sl he h.1).wp fun v w' ⟨m', hk⟩ => hK _ m' _ w' (hr.step hd hk) h.2
      · exact h.elim
  · exact h.elim

theorem opsVc_sound (hx : XOK P x) (mu : Bool) (all : List Oper) {Q : Exit → Act → World → Prop} : ∀ (l : List Oper) (s : AS) (m : Hd) (a : Act) (w : World) (K : AS → Prop), opsVc real x mu all l s K → StR E x.nt s m a w →
    (∀ s' m' a' w', StR E x.nt s' m' a' w' → K s' → Q .normal a' w') → wpList P all.toArray Q l a w
  | [], s, m, a, w, K, h, hr, hK => hK s m a w hr h
  | o :: r, s, m, a, w, K, h, hr, hK => by
    have exec : ∀ s1, Region.wanted o (yielded all.toArray a.tmps) = true → opVc real x o s1 (fun s' => opsVc real x mu all r s' K) → StR E x.nt s1 m a w → wpList P all.toArray Q (o :: r) a w := by
      intro s1 hw h1 hr1
      unfold wpList
      rw [if_pos hw]
      exact .inl (opVc_sound hx h1 hr1 fun s' m' a' w' hr' h' => opsVc_sound hx mu all r s' m' a' w' K h' hr' hK)
    have skip : ∀ s1, Region.wanted o (yielded all.toArray a.tmps) = false → opsVc real x mu all r (s1.putO o.dst (.tup [])) K → StR E x.nt s1 m a w → wpList P all.toArray Q (o :: r) a w := by
      intro s1 hw h1 hr1
      unfold wpList
      rw [if_neg (by simp [hw])]
      exact opsVc_sound hx mu all r _ m _ w K h1 hr1.skip hK
    unfold opsVc at h
    split at h
    · rename_i hg
      exact exec s (by simp [Region.wanted, hg]) h hr
    · rename_i j want hg
      have hwant : ∀ b, yielded all.toArray a.tmps j = some b → Region.wanted o (yielded all.toArray a.tmps) = (b == want) := by
        intro b hb; simp [Region.wanted, hg, hb]
      have hwant0 : yielded all.toArray a.tmps j = none → Region.wanted o (yielded all.toArray a.tmps) = false := by
        intro hb; simp [Region.wanted, hg, hb]
      split at h
      · exact h.elim
      · rename_i oj hj
        split at h
        · exact h.elim
        · rename_i dj hdj
          have hsl := hr.sl dj
          split at h
          · rename_i hq
            rw [hq] at hsl
            simp only [RV, CR, List.cons.injEq, and_true] at hsl
            have hy := hwant _ (yielded_bool hj hdj hsl)
            cases want with
            | true => exact exec s (by rw [hy]; rfl) h hr
            | false => exact skip s (by rw [hy]; rfl) h hr
          · rename_i hq
            rw [hq] at hsl
            simp only [RV, CR, List.cons.injEq, and_true] at hsl
            have hy := hwant _ (yielded_bool hj hdj hsl)
            cases want with
            | false => exact exec s (by rw [hy]; rfl) h hr
            | true => exact skip s (by rw [hy]; rfl) h hr
          · rename_i y hq
            rw [hq] at hsl
            simp only [RV, CR, List.cons.injEq, and_true] at hsl
            have hy := hwant _ (yielded_bool hj hdj hsl)
            have hkn : ∀ b, y = b → StR E x.nt (s.put dj (.kb b)) m a w := fun b hb => hr.know (by simp only [RV, CR]; rw [hsl, hb])
            cases mu with
            | true =>
              obtain ⟨hyt, h⟩ := h
              have hyt : y = true := by simpa [real] using hyt
              subst hyt
              cases want with
              | true => exact exec _ (by rw [hy]; rfl) h (hkn true rfl)
              | false => exact skip _ (by rw [hy]; rfl) h (hkn true rfl)
            | false =>
            cases want with
            | true =>
              cases y with
              | true => exact exec _ (by rw [hy]; rfl) (h.1.resolve_left (fun e => by simp [real] at e)) (hkn true rfl)
              | false => exact skip _ (by rw [hy]; rfl) (h.2.resolve_left (fun e => by simp [real] at e)) (hkn false rfl)
            | false =>
              cases y with
              | false => exact exec _ (by rw [hy]; rfl) (h.1.resolve_left (fun e => by simp [real] at e)) (hkn false rfl)
              | true => exact skip _ (by rw [hy]; rfl) (h.2.resolve_left (fun e => by simp [real] at e)) (hkn true rfl)
          · rename_i hq
            rw [hq] at hsl
            simp only [RV, RVs] at hsl
            obtain ⟨vs, h1, rfl⟩ := hsl
            exact skip s (hwant0 (yielded_undef hj hdj h1)) h hr
          · exact h.elim
end
end Go.Vc
