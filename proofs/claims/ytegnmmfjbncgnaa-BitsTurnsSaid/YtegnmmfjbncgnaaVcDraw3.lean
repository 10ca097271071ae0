/- A part of the proof of given statements: a verified condition generator for the model, and contracts of the program's functions. No condition. -/
import Derived.Test.YtegnmmfjbncgnaaVcDraw2
set_option linter.unusedVariables false
set_option linter.unusedSimpArgs false
namespace Go.Vc
open Go Go.RowKit
def RVeq (a b : AV) : Prop := ∀ (m : Hd) (w : World) (v : Value), RV m w a v ↔ RV m w b v
theorem RVeq.rfl' {a : AV} : RVeq a a := fun _ _ _ => Iff.rfl
theorem RVeq.trans {a b c : AV} (h : RVeq a b) (g : RVeq b c) : RVeq a c := fun m w v => (h m w v).trans (g m w v)
theorem RVeq.symm {a b : AV} (h : RVeq a b) : RVeq b a := fun m w v => (h m w v).symm
theorem sget_cons (d : Nat) (a : AV) (r : List (Nat × AV)) (t : Nat) : sget ((d, a) :: r) t = if d = t then a else sget r t := by
  simp only [sget]
  by_cases h : d = t
  · subst h; simp
  · rw [if_neg h]
    split
    · rename_i e; exact absurd (beq_nat e) h
    · rfl
section
variable {P : Program} {E : Env} {x : Cx} {drs : Drops} {ops : List Oper} {B : List Nat} {nk0 : Nat} {s0 : AS} {st : Nat → AS} {res : Nat → Option Eff} {m : Hd} {a : Act} {w : World}
theorem gd_slot {o : Oper} {s s' : AS} {b : Bool} (h : Gd ops o s s' b) (t : Nat) : RVeq (sget s.sl t) (sget s'.sl t) := by
  cases h with
  | no _ => exact .rfl'
  | kb => exact .rfl'
  | un => exact .rfl'
  | b j want oj dj y h1 h2 h3 h4 =>
    simp only [AS.put]
    rw [sget_cons]
    split
    · rename_i e; subst e
      rw [h4]; intro m w v; simp [RV, CR]
    · exact .rfl'
theorem gd_rest {o : Oper} {s s' : AS} {b : Bool} (h : Gd ops o s s' b) : s'.me = s.me ∧ s'.nk = s.nk := by
  cases h <;> exact ⟨rfl, rfl⟩
theorem step_slot {i : Nat} {o : Oper} {s s2 : AS} {r : Option Eff} (h : StepOK x drs nk0 ops i o s r s2) {t : Nat} (ht : o.dst ≠ some t) : RVeq (sget s.sl t) (sget s2.sl t) := by
  obtain ⟨s', b, hg, h⟩ := h
  refine (gd_slot hg t).trans ?_
  split at h
  · obtain ⟨_, _, _, _, _, rfl⟩ := h
    cases hd : o.dst with
    | none => exact .rfl'
    | some d =>
      simp only [AS.upd]
      rw [sget_cons, if_neg (fun e => ht (by rw [hd, e]))]
      exact .rfl'
  · obtain ⟨_, rfl⟩ := h
    cases hd : o.dst with
    | none => exact .rfl'
    | some d =>
      simp only [AS.skipD, AS.putO, AS.put]
      rw [sget_cons, if_neg (fun e => ht (by rw [hd, e]))]
      exact .rfl'
structure Trc (x : Cx) (drs : Drops) (nk0 : Nat) (ops : List Oper) (s0 : AS) (st : Nat → AS) (res : Nat → Option Eff) : Prop where
  h0 : st 0 = s0
  nk : s0.nk = nk0
  low : memBelow nk0 s0.me = true
  step : ∀ i o, ops[i]? = some o → StepOK x drs nk0 ops i o (st i) (res i) (st (i + 1))
theorem Trc.op (i : Nat) (h : i < ops.length) : ∃ o, ops[i]? = some o := ⟨_, List.getElem?_eq_getElem h⟩
theorem Trc.nks (h : Trc x drs nk0 ops s0 st res) : ∀ i, i ≤ ops.length → (st i).nk = nk0 + 8 * i
  | 0, _ => by rw [h.h0, h.nk]; rfl
  | i + 1, hi => by
    obtain ⟨o, ho⟩ := Trc.op (ops := ops) i (by omega)
    have ih := h.nks i (by omega)
    obtain ⟨s', b, hg, hs⟩ := h.step i o ho
    have := (gd_rest hg).2
    split at hs
    · obtain ⟨_, _, _, _, _, e⟩ := hs
      rw [e]
      cases o.dst <;> simp only [AS.upd] <;> omega
    · obtain ⟨_, e⟩ := hs
      rw [e]
      simp only [AS.skipD]
      omega
theorem Trc.mes (h : Trc x drs nk0 ops s0 st res) (k : Nat) : ∀ i, i ≤ ops.length → mlook (st i).me k = look res s0.me (fun _ => true) i k
  | 0, _ => by rw [h.h0]; rfl
  | i + 1, hi => by
    obtain ⟨o, ho⟩ := Trc.op (ops := ops) i (by omega)
    have ih := h.mes k i (by omega)
    obtain ⟨s', b, hg, hs⟩ := h.step i o ho
    have hme := (gd_rest hg).1
    simp only [look]
    split at hs
    · rename_i e he
      obtain ⟨_, _, _, _, _, e1⟩ := hs
      have : (st (i + 1)).me = mputs e.puts s'.me := by rw [e1]; cases o.dst <;> rfl
      rw [this, mlook_mputs, hme, ih]
      simp only [he]
    · rename_i he
      obtain ⟨_, e1⟩ := hs
      have : (st (i + 1)).me = s'.me := by rw [e1]; rfl
      rw [this, hme, ih]
      simp only [he]
theorem Trc.puts (h : Trc x drs nk0 ops s0 st res) {j : Nat} {q : Oper} {e : Eff} {k : Nat} (hq : ops[j]? = some q) (he : res j = some e) (hk : mlook e.puts k ≠ none) :
    opPure x.tt q.op = false ∧ k < nk0 + 8 * j + 8 ∧ (isMut q.op = true ∨ nk0 + 8 * j ≤ k) := by
  obtain ⟨s', b, hg, hs⟩ := h.step j q hq
  rw [he] at hs
  obtain ⟨_, _, _, _, hp, _⟩ := hs
  have := putsOk_spec hp hk
  rw [(gd_rest hg).2, h.nks j (by have := (List.getElem?_eq_some_iff.1 hq).1; omega)] at this
  exact this
theorem Trc.fwd (h : Trc x drs nk0 ops s0 st res) {t : Nat} : ∀ i, i ≤ ops.length → (∀ j q, j < i → ops[j]? = some q → q.dst ≠ some t) → RVeq (sget s0.sl t) (sget (st i).sl t)
  | 0, _, _ => by rw [h.h0]; exact .rfl'
  | i + 1, hi, hd => by
    obtain ⟨o, ho⟩ := Trc.op (ops := ops) i (by omega)
    exact (h.fwd i (by omega) (fun j q hj => hd j q (by omega))).trans (step_slot (h.step i o ho) (hd i o (by omega) ho))
theorem Trc.keep (h : Trc x drs nk0 ops s0 st res) (hd : DStat x.tt drs ops B) {j t : Nat} {q : Oper} (hq : ops[j]? = some q) (ht : q.dst = some t) : ∀ (n i : Nat), i + n = ops.length → j < i → RVeq (sget (st i).sl t) (sget (st ops.length).sl t)
  | 0, i, hn, hj => by rw [show i = ops.length by omega]; exact .rfl'
  | n + 1, i, hn, hj => by
    obtain ⟨o, ho⟩ := Trc.op (ops := ops) i (by omega)
    exact (step_slot (h.step i o ho) (hd.ds i o j q t ho hq (by omega) ht)).trans (h.keep hd hq ht n (i + 1) (by omega) (by omega))

structure Inv (P : Program) (E : Env) (x : Cx) (nk0 : Nat) (ops : List Oper) (s0 : AS) (st : Nat → AS) (res : Nat → Option Eff) (p : Nat → Bool) (m : Hd) (a : Act) (w : World) : Prop where
  closed : ∀ i o e, ops[i]? = some o → p i = true → e ∈ o.after → Region.binds .any e = true → p e.on = true
  bd : Bd m w
  fr : Fr E m w
  tm : a.tmps.size = x.nt
  df : a.defers = []
  keys : ∀ k, m k ≠ none → k < nk0 ∨ ∃ i, p i = true ∧ nk0 + 8 * i ≤ k ∧ k < nk0 + 8 * i + 8
  old : ∀ t, (∀ j q, ops[j]? = some q → p j = true → q.dst ≠ some t) → RV m w (sget s0.sl t) (a.tmps.getD t undef)
  new : ∀ j q t, ops[j]? = some q → p j = true → q.dst = some t → RV m w (sget (st ops.length).sl t) (a.tmps.getD t undef)
  mem : ∃ me, MemR m w me ∧ ∀ k, mlook me k = look res s0.me p ops.length k

theorem gd_wanted {o : Oper} {s s' : AS} {b : Bool} (h : Gd ops o s s' b)
    (hsl : ∀ j want oj dj, o.guard = some (j, want) → ops[j]? = some oj → oj.dst = some dj → RV m w (sget s.sl dj) (a.tmps.getD dj undef)) : Region.wanted o (yielded ops.toArray a.tmps) = b := by
  cases h with
  | no hg => simp [Region.wanted, hg]
  | kb j want oj dj y hg hj hd hq =>
    have := hsl j want oj dj hg hj hd
    rw [hq] at this
    simp only [RV, CR, List.cons.injEq, and_true] at this
    have hy := yielded_bool (a := a) (by rw [nth_get]; exact hj) hd this
    simp [Region.wanted, hg, hy]
  | b j want oj dj y hg hj hd hq =>
    have := hsl j want oj dj hg hj hd
    rw [hq] at this
    simp only [RV, CR, List.cons.injEq, and_true] at this
    have hy := yielded_bool (a := a) (by rw [nth_get]; exact hj) hd this
    simp [Region.wanted, hg, hy]
  | un j want oj dj hg hj hd hq =>
    have := hsl j want oj dj hg hj hd
    rw [hq] at this
    simp only [RV, RVs] at this
    obtain ⟨vs, h1, rfl⟩ := this
    have hy := yielded_undef (a := a) (by rw [nth_get]; exact hj) hd h1
    simp [Region.wanted, hg, hy]
theorem rdSl_get (sl : List (Nat × AV)) : ∀ (l : List Nat) (t : Nat), sget (rdSl sl l) t = if t ∈ l then sget sl t else .u
  | [], t => by simp [rdSl, sget]
  | d :: r, t => by
    simp only [rdSl]
    rw [sget_cons, rdSl_get sl r t]
    by_cases e : d = t
    · subst e; simp
    · rw [if_neg e]
      have : (t ∈ d :: r) ↔ t ∈ r := by simp [show t ≠ d from fun h => e h.symm]
      simp only [this]
theorem put_ne (a : Act) {dst : Option Nat} {v : Value} {t : Nat} (h : dst ≠ some t) : (a.put dst v).tmps.getD t undef = a.tmps.getD t undef := by
  cases dst with
  | none => rfl
  | some d =>
    simp only [Act.put]
    have hne : d ≠ t := fun e => h (by rw [e])
    simp [Array.getD_eq_getD_getElem?, Array.getElem?_setIfInBounds_ne hne]

section
variable (ht : Trc x drs nk0 ops s0 st res) (hd : DStat x.tt drs ops B) {p : Nat → Bool} (hI : Inv P E x nk0 ops s0 st res p m a w) {i : Nat} {o : Oper} (ho : ops[i]? = some o) (hp : p i = false)
  (hr : ∀ e, e ∈ o.after → Region.binds .any e = true → p e.on = true)
include ht hd hI ho hp hr
/-- what a ready operation reads -/
theorem inv_slot {t : Nat} (hc : ∀ j q, ops[j]? = some q → j ≠ i → q.dst = some t → comp B i j = true) : RV m w (sget (st i).sl t) (a.tmps.getD t undef) := by
  have hlen := (List.getElem?_eq_some_iff.1 ho).1
  have D : ∀ j, (B.getD i 0).testBit j = true → p j = true := fun j h => hd.listed hI.closed i o j ho hr h
  by_cases hx : ∃ j q, ops[j]? = some q ∧ j < i ∧ q.dst = some t
  · obtain ⟨j, q, hq, hj, hqt⟩ := hx
    have hlj : p j = true := by
      have := hc j q hq (by omega) hqt
      simp only [comp, Bool.or_eq_true] at this
      rcases this with h1 | h1
      · exact D j h1
      · have := hd.lt j q i hq h1; omega
    exact ((ht.keep hd hq hqt (ops.length - i) i (by omega) hj) m w _).2 (hI.new j q t hq hlj hqt)
  · refine ((ht.fwd i (by omega) (fun j q hj hq e => hx ⟨j, q, hq, hj, e⟩)) m w _).1 (hI.old t fun j q hq hpj e => ?_)
    have hne : j ≠ i := fun e2 => by subst e2; rw [hp] at hpj; cases hpj
    have := hc j q hq hne e
    simp only [comp, Bool.or_eq_true] at this
    rcases this with h1 | h1
    · exact hx ⟨j, q, hq, hd.lt i o j ho h1, e⟩
    · have := hd.listed hI.closed j q i hq (fun e2 he2 hb2 => hI.closed j q e2 hq hpj he2 hb2) h1
      rw [hp] at this; cases this
theorem inv_mem {k : Nat} {ab : AB} (h : mlook (dMem x.tt drs nk0 i o.op (st i).me) k = some ab) : look res s0.me p ops.length k = some ab := by
  have hlen := (List.getElem?_eq_some_iff.1 ho).1
  have D : ∀ j, (B.getD i 0).testBit j = true → p j = true := fun j h => hd.listed hI.closed i o j ho hr h
  obtain ⟨h1, h2, h3⟩ := dMem_spec h
  rw [ht.mes k i (by omega)] at h3
  rw [look_up (i := i) ops.length (by omega) fun j hj hpj => ?_, look_congr (q := fun _ => true) i fun j e hj he hk => ?_, h3]
  · obtain ⟨q, hq⟩ := Trc.op (ops := ops) j (by omega)
    obtain ⟨g1, g2, g3⟩ := ht.puts hq he hk
    show p j = true
    rcases g3 with g3 | g3
    · have := hd.mt i o j q ho hq (by omega) h1 g3
      simp only [comp, Bool.or_eq_true] at this
      rcases this with h4 | h4
      · exact D j h4
      · have := hd.lt j q i hq h4; omega
    · rcases hd.dr i o j q ho hq hj h1 g1 with h4 | h4
      · exact D j h4
      · exact absurd ⟨g3, g2⟩ (inDrop_spec h2 h4)
  · by_cases hji : j < i
    · exact .inl hji
    · refine .inr fun e he => ?_
      cases hm : mlook e.puts k with
      | none => rfl
      | some ab' =>
        exfalso
        have hne : j ≠ i := fun e2 => by subst e2; rw [hp] at hpj; cases hpj
        obtain ⟨q, hq⟩ := Trc.op (ops := ops) j hj
        obtain ⟨g1, g2, g3⟩ := ht.puts hq he (by rw [hm]; simp)
        rcases g3 with g3 | g3
        · have := hd.mt i o j q ho hq hne h1 g3
          simp only [comp, Bool.or_eq_true] at this
          rcases this with h4 | h4
          · have := hd.lt i o j ho h4; omega
          · have := hd.listed hI.closed j q i hq (fun e2 he2 hb2 => hI.closed j q e2 hq hpj he2 hb2) h4
            rw [hp] at this; cases this
        · rcases look_src i h3 with h4 | ⟨j', e', h4, _, h5, h6⟩
          · have := memBelow_spec ht.low h4
            omega
          · obtain ⟨q', hq'⟩ := Trc.op (ops := ops) j' (by omega)
            obtain ⟨_, g5, _⟩ := ht.puts hq' h5 h6
            omega
omit hr in
theorem inv_top {e : Eff} {k : Nat} {ab : AB} (he : res i = some e) (hk : mlook e.puts k = some ab) : look res s0.me (fun j => decide (j = i) || p j) ops.length k = some ab := by
  have hlen := (List.getElem?_eq_some_iff.1 ho).1
  rw [look_up (i := i + 1) ops.length (by omega) fun j hj hpj => ?_]
  · simp only [look, decide_true, Bool.true_or, he, hk]
  · by_cases hji : j < i + 1
    · exact .inl hji
    · refine .inr fun e' he' => ?_
      have hpj : p j = true := by simpa [show ¬ j = i by omega] using hpj
      cases hm : mlook e'.puts k with
      | none => rfl
      | some ab' =>
        exfalso
        obtain ⟨q, hq⟩ := Trc.op (ops := ops) j hj
        obtain ⟨g1, g2, g3⟩ := ht.puts hq he' (by rw [hm]; simp)
        obtain ⟨k1, k2, k3⟩ := ht.puts ho he (by rw [hk]; simp)
        rcases g3 with g3 | g3
        · have := hd.mt i o j q ho hq (by omega) k1 g3
          simp only [comp, Bool.or_eq_true] at this
          rcases this with h4 | h4
          · have := hd.lt i o j ho h4; omega
          · have := hd.listed hI.closed j q i hq (fun e2 he2 hb2 => hI.closed j q e2 hq hpj he2 hb2) h4
            rw [hp] at this; cases this
        · omega
end
end
end Go.Vc
