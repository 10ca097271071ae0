/- A part of the proof of given statements: a verified condition generator for the model, and contracts of the program's functions. No condition. -/
import Derived.Test.YtegnmmfjbncgnaaVcDraw
set_option linter.unusedVariables false
set_option linter.unusedSimpArgs false
namespace Go.Vc
open Go Go.RowKit

/-! ## What the text's order gives -/
inductive Gd (ops : List Oper) (o : Oper) (s : AS) : AS → Bool → Prop
  | no : o.guard = none → Gd ops o s s true
  | kb (j : Nat) (want : Bool) (oj : Oper) (dj : Nat) (y : Bool) : o.guard = some (j, want) → ops[j]? = some oj → oj.dst = some dj → sget s.sl dj = .kb y → Gd ops o s s (y == want)
  | b (j : Nat) (want : Bool) (oj : Oper) (dj : Nat) (y : Bool) : o.guard = some (j, want) → ops[j]? = some oj → oj.dst = some dj → sget s.sl dj = .b y → Gd ops o s (s.put dj (.kb y)) (y == want)
  | un (j : Nat) (want : Bool) (oj : Oper) (dj : Nat) : o.guard = some (j, want) → ops[j]? = some oj → oj.dst = some dj → sget s.sl dj = .tup [] → Gd ops o s s false
def StepOK (x : Cx) (drs : Drops) (nk0 : Nat) (ops : List Oper) (i : Nat) (o : Oper) (s : AS) (r : Option Eff) (s2 : AS) : Prop :=
  ∃ s' b, Gd ops o s s' b ∧ match r with
    | some e => b = true ∧ dstOk x.nt o.dst = true ∧ dRun real x drs nk0 i o s' = some e ∧ e.c ∧ putsOk (opPure x.tt o.op) (isMut o.op) s'.nk e.puts = true ∧ s2 = s'.upd o.dst e.v e.puts
    | none => b = false ∧ s2 = s'.skipD o.dst
theorem dOp_spec {x : Cx} {drs : Drops} {nk0 i : Nat} {o : Oper} {s : AS} {K : AS → Prop} (h : dOp real x drs nk0 i o s K) :
    ∃ e, dstOk x.nt o.dst = true ∧ dRun real x drs nk0 i o s = some e ∧ e.c ∧ putsOk (opPure x.tt o.op) (isMut o.op) s.nk e.puts = true ∧ K (s.upd o.dst e.v e.puts) := by
  unfold dOp at h
  split at h
  · rename_i hd
    split at h
    · rename_i e he
      split at h
      · rename_i hp
        exact ⟨e, hd, he, h.1, hp, h.2⟩
      · exact h.elim
    · exact h.elim
  · exact h.elim
def HasTr (x : Cx) (drs : Drops) (nk0 : Nat) (ops l : List Oper) (i : Nat) (s : AS) (K : AS → Prop) : Prop :=
  ∃ (st : Nat → AS) (res : Nat → Option Eff), st i = s ∧ (∀ n o, l[n]? = some o → StepOK x drs nk0 ops (i + n) o (st (i + n)) (res (i + n)) (st (i + n + 1))) ∧ K (st (i + l.length))
theorem drawVc_trace {x : Cx} {mu : Bool} {drs : Drops} {nk0 : Nat} {ops : List Oper} : ∀ (l : List Oper) (i : Nat) (s : AS) (K : AS → Prop), drawVc real x mu drs nk0 ops i l s K → HasTr x drs nk0 ops l i s K
  | [], i, s, K, h => ⟨fun _ => s, fun _ => none, rfl, fun n o hn => by simp at hn, h⟩
  | o :: r, i, s, K, h => by
    have fin : ∀ s2 r0, StepOK x drs nk0 ops i o s r0 s2 → drawVc real x mu drs nk0 ops (i + 1) r s2 K → HasTr x drs nk0 ops (o :: r) i s K := by
      intro s2 r0 hs hd
      obtain ⟨st, res, h1, h2, h3⟩ := drawVc_trace r (i + 1) s2 K hd
      refine ⟨fun n => if n ≤ i then s else st n, fun n => if n ≤ i then r0 else res n, by simp, fun n q hn => ?_, ?_⟩
      · cases n with
        | zero =>
          simp only [List.getElem?_cons_zero, Option.some.injEq] at hn
          subst hn
          have e1 : ¬ (i + 0 + 1 ≤ i) := by omega
          simp only [Nat.add_zero, Nat.le_refl, if_true, if_neg e1]
          rw [h1]; exact hs
        | succ n =>
          have := h2 n q (by simpa using hn)
          have e0 : i + (n + 1) = i + 1 + n := by omega
          simp only [e0]
          rw [if_neg (by omega), if_neg (by omega), if_neg (by omega)]
          exact this
      · have e0 : i + (o :: r).length = i + 1 + r.length := by simp; omega
        rw [e0]
        show K (if _ then _ else _)
        rw [if_neg (by omega)]
        exact h3
    have exec : ∀ s1, Gd ops o s s1 true → dOp real x drs nk0 i o s1 (fun s' => drawVc real x mu drs nk0 ops (i + 1) r s' K) → HasTr x drs nk0 ops (o :: r) i s K := fun s1 hg h1 => by
      obtain ⟨e, g1, g2, g3, g4, g5⟩ := dOp_spec h1
      exact fin _ (some e) ⟨s1, true, hg, rfl, g1, g2, g3, g4, rfl⟩ g5
    have skip : ∀ s1, Gd ops o s s1 false → drawVc real x mu drs nk0 ops (i + 1) r (s1.skipD o.dst) K → HasTr x drs nk0 ops (o :: r) i s K := fun s1 hg h1 =>
      fin _ none ⟨s1, false, hg, rfl, rfl⟩ h1
    unfold drawVc at h
    split at h
    · rename_i hg
      exact exec s (.no hg) h
    · rename_i j want hg
      split at h
      · exact h.elim
      · rename_i oj hj
        rw [nth_get] at hj
        split at h
        · exact h.elim
        · rename_i dj hdj
          split at h
          · rename_i hq
            have := Gd.kb (s := s) j want oj dj true hg hj hdj hq
            cases want with
            | true => exact exec s this h
            | false => exact skip s this h
          · rename_i hq
            have := Gd.kb (s := s) j want oj dj false hg hj hdj hq
            cases want with
            | true => exact skip s this h
            | false => exact exec s this h
          · rename_i y hq
            have := Gd.b (s := s) j want oj dj y hg hj hdj hq
            cases mu with
            | true =>
              obtain ⟨hyt, h⟩ := h
              have hyt : y = true := by simpa [real] using hyt
              subst hyt
              cases want with
              | true => exact exec _ this h
              | false => exact skip _ this h
            | false =>
            cases want with
            | true =>
              cases y with
              | true => exact exec _ this (h.1.resolve_left (fun e => by simp [real] at e))
              | false => exact skip _ this (h.2.resolve_left (fun e => by simp [real] at e))
            | false =>
              cases y with
              | false => exact exec _ this (h.1.resolve_left (fun e => by simp [real] at e))
              | true => exact skip _ this (h.2.resolve_left (fun e => by simp [real] at e))
          · rename_i hq
            exact skip s (.un j want oj dj hg hj hdj hq) h
          · exact h.elim

/-! ## Memory, by who has written -/
def look (res : Nat → Option Eff) (me : Mem) (p : Nat → Bool) : Nat → Nat → Option AB
  | 0, k => mlook me k
  | i + 1, k => match p i, res i with
    | true, some e => match mlook e.puts k with
      | some ab => some ab
      | none => look res me p i k
    | _, _ => look res me p i k
theorem mlook_mputs : ∀ (p me : Mem) (k : Nat), mlook (mputs p me) k = match mlook p k with
    | some ab => some ab
    | none => mlook me k
  | [], me, k => rfl
  | (t, a) :: r, me, k => by
    simp only [mputs]
    rw [mlook_cons, mlook_cons]
    split
    · rfl
    · exact mlook_mputs r me k
theorem look_congr {res : Nat → Option Eff} {me : Mem} {p q : Nat → Bool} {k : Nat} : ∀ (n : Nat), (∀ i e, i < n → res i = some e → mlook e.puts k ≠ none → p i = q i) → look res me p n k = look res me q n k
  | 0, _ => rfl
  | n + 1, h => by
    have ih := look_congr (me := me) n (fun i e hi => h i e (by omega))
    simp only [look]
    cases hr : res n with
    | none => cases p n <;> cases q n <;> exact ih
    | some e =>
      cases hm : mlook e.puts k with
      | none => cases p n <;> cases q n <;> simp [hm, ih]
      | some ab =>
        rw [h n e (by omega) hr (by simp [hm])]
        cases q n
        · exact ih
        · simp [hm]
theorem look_up {res : Nat → Option Eff} {me : Mem} {p : Nat → Bool} {k i : Nat} : ∀ (n : Nat), i ≤ n → (∀ j, j < n → p j = true → j < i ∨ ∀ e, res j = some e → mlook e.puts k = none) → look res me p n k = look res me p i k
  | 0, hi, _ => by rw [show i = 0 by omega]
  | n + 1, hi, h => by
    by_cases e : i = n + 1
    · rw [e]
    · rw [← look_up n (by omega) (fun j hj => h j (by omega))]
      simp only [look]
      cases hp : p n with
      | false => rfl
      | true =>
        rcases h n (by omega) hp with h1 | h1
        · omega
        · cases hr : res n with
          | none => rfl
          | some e => simp [h1 e hr]
theorem look_src {res : Nat → Option Eff} {me : Mem} {p : Nat → Bool} {k : Nat} {ab : AB} : ∀ (n : Nat), look res me p n k = some ab → mlook me k = some ab ∨ ∃ j e, j < n ∧ p j = true ∧ res j = some e ∧ mlook e.puts k ≠ none
  | 0, h => .inl h
  | n + 1, h => by
    simp only [look] at h
    split at h
    · rename_i e hp hr
      split at h
      · rename_i ab' hm
        exact .inr ⟨n, e, by omega, hp, hr, by simp [hm]⟩
      · rcases look_src n h with h1 | ⟨j, e', h1, h2⟩
        · exact .inl h1
        · exact .inr ⟨j, e', by omega, h2⟩
    · rcases look_src n h with h1 | ⟨j, e', h1, h2⟩
      · exact .inl h1
      · exact .inr ⟨j, e', by omega, h2⟩
theorem putsOk_spec {pu mu : Bool} {nk : Nat} : ∀ {ps : Mem} {k : Nat}, putsOk pu mu nk ps = true → mlook ps k ≠ none → pu = false ∧ k < nk + 8 ∧ (mu = true ∨ nk ≤ k)
  | [], k, h, hm => absurd rfl hm
  | (t, a) :: r, k, h, hm => by
    simp only [putsOk] at h
    rw [mlook_cons] at hm
    split at h
    · rename_i h1
      split at hm
      · rename_i e; subst e; simp [Nat.blt] at h1; exact ⟨rfl, by omega, .inl rfl⟩
      · exact putsOk_spec h hm
    · rename_i h1 h2
      split at hm
      · rename_i e; subst e; simp [Nat.blt] at h2; exact ⟨rfl, by omega, .inr (Nat.le_of_ble_eq_true h1)⟩
      · exact putsOk_spec h hm
    · cases h
theorem memBelow_spec {nk : Nat} : ∀ {me : Mem} {k : Nat} {ab : AB}, memBelow nk me = true → mlook me k = some ab → k < nk
  | [], k, ab, h, hm => by simp [mlook] at hm
  | (t, a) :: r, k, ab, h, hm => by
    simp only [memBelow] at h
    rw [mlook_cons] at hm
    split at h
    · rename_i h1
      split at hm
      · rename_i e; subst e; simp [Nat.blt] at h1; omega
      · exact memBelow_spec h hm
    · cases h
theorem inDrop_spec {nk0 k : Nat} : ∀ {ds : List Nat} {j : Nat}, inDrop nk0 k ds = false → j ∈ ds → ¬ (nk0 + 8 * j ≤ k ∧ k < nk0 + 8 * j + 8)
  | [], j, h, hj => by simp at hj
  | d :: r, j, h, hj => by
    simp only [inDrop] at h
    have hr : inDrop nk0 k r = false ∧ ¬ (nk0 + 8 * d ≤ k ∧ k < nk0 + 8 * d + 8) := by
      split at h
      · split at h
        · cases h
        · rename_i h2
          refine ⟨h, fun ⟨_, h3⟩ => ?_⟩
          have : Nat.blt k (nk0 + 8 * d + 8) = true := by rw [Nat.blt]; exact Nat.ble_eq_true_of_le h3
          rw [this] at h2; simp at h2
      · rename_i h1
        refine ⟨h, fun ⟨h3, _⟩ => ?_⟩
        rw [Nat.ble_eq_true_of_le h3] at h1; simp at h1
    rcases List.mem_cons.1 hj with e | e
    · subst e; exact hr.2
    · exact inDrop_spec hr.1 e
theorem memDrop_spec {nk0 : Nat} {ds : List Nat} {k : Nat} {ab : AB} : ∀ {me : Mem}, mlook (memDrop nk0 ds me) k = some ab → inDrop nk0 k ds = false ∧ mlook me k = some ab
  | [], h => by simp [memDrop, mlook] at h
  | (t, a) :: r, h => by
    simp only [memDrop] at h
    rw [mlook_cons]
    split at h
    · rename_i h1
      obtain ⟨g1, g2⟩ := memDrop_spec h
      refine ⟨g1, ?_⟩
      rw [if_neg]
      · exact g2
      · intro e; subst e; rw [h1] at g1; cases g1
    · rename_i h1
      rw [mlook_cons] at h
      split at h
      · rename_i e; subst e; exact ⟨h1, by simpa using h⟩
      · rename_i e
        obtain ⟨g1, g2⟩ := memDrop_spec h
        exact ⟨g1, by rw [if_neg e]; exact g2⟩
theorem dMem_spec {tt : TT} {drs : Drops} {nk0 i : Nat} {op : Op} {me : Mem} {k : Nat} {ab : AB} (h : mlook (dMem tt drs nk0 i op me) k = some ab) :
    opPure tt op = false ∧ inDrop nk0 k (dlook drs i) = false ∧ mlook me k = some ab := by
  unfold dMem at h
  split at h
  · simp [mlook] at h
  · rename_i hp
    split at h
    · rename_i hd; rw [hd]; exact ⟨hp, rfl, h⟩
    · obtain ⟨g1, g2⟩ := memDrop_spec h
      exact ⟨hp, g1, g2⟩
theorem run_mono {me me' : Mem} (h : ∀ k ab, mlook me k = some ab → mlook me' k = some ab) : ∀ (l : Look) (e : Eff), l.run me = some e → l.run me' = some e
  | .no, e, hr => by simp [Look.run] at hr
  | .ret _, e, hr => hr
  | .look k f, e, hr => by
    simp only [Look.run] at hr ⊢
    split at hr
    · rename_i ab hm
      rw [h k ab hm]
      exact run_mono h (f ab) e hr
    · cases hr

/-! ## The bits of what goes before -/
theorem fold_bit {B : List Nat} {j : Nat} : ∀ (l : List Edge) (s : Nat), ((l.foldl (fun s e => if Region.binds .any e then s ||| 2 ^ e.on ||| B.getD e.on 0 else s) s).testBit j = true) →
    s.testBit j = true ∨ ∃ e ∈ l, Region.binds .any e = true ∧ (e.on = j ∨ (B.getD e.on 0).testBit j = true)
  | [], s, h => .inl h
  | e :: l, s, h => by
    rw [List.foldl_cons] at h
    rcases fold_bit l _ h with h1 | ⟨q, h1, h2⟩
    · split at h1
      · rename_i hb
        rw [Nat.testBit_or, Nat.testBit_or, Nat.testBit_two_pow] at h1
        simp only [Bool.or_eq_true, decide_eq_true_eq] at h1
        rcases h1 with (h1 | h1) | h1
        · exact .inl h1
        · exact .inr ⟨e, by simp, hb, .inl h1⟩
        · exact .inr ⟨e, by simp, hb, .inr h1⟩
      · exact .inl h1
    · exact .inr ⟨q, by simp [h1], h2⟩
section
variable {tt : TT} {drs : Drops} {ops : List Oper} {B : List Nat}
theorem DStat.lt (h : DStat tt drs ops B) : ∀ (i : Nat) (o : Oper) (j : Nat), ops[i]? = some o → (B.getD i 0).testBit j = true → j < i := by
  intro i
  induction i using Nat.strongRecOn with
  | _ i ih =>
    intro o j ho hb
    rw [h.msk i o ho] at hb
    rcases fold_bit _ _ hb with h1 | ⟨e, he, hbd, h1⟩
    · simp at h1
    · have hlt := h.on i o e ho (by simpa using he) hbd
      rcases h1 with h1 | h1
      · omega
      · have := (List.getElem?_eq_some_iff.1 ho).1
        obtain ⟨o', ho'⟩ : ∃ o', ops[e.on]? = some o' := ⟨_, List.getElem?_eq_getElem (by omega)⟩
        have := ih e.on hlt o' j ho' h1
        omega
theorem DStat.listed (h : DStat tt drs ops B) {p : Nat → Bool} (hp : ∀ i o e, ops[i]? = some o → p i = true → e ∈ o.after → Region.binds .any e = true → p e.on = true) :
    ∀ (i : Nat) (o : Oper) (j : Nat), ops[i]? = some o → (∀ e, e ∈ o.after → Region.binds .any e = true → p e.on = true) → (B.getD i 0).testBit j = true → p j = true := by
  intro i
  induction i using Nat.strongRecOn with
  | _ i ih =>
    intro o j ho hall hb
    rw [h.msk i o ho] at hb
    rcases fold_bit _ _ hb with h1 | ⟨e, he, hbd, h1⟩
    · simp at h1
    · have he' : e ∈ o.after := by simpa using he
      have hlt := h.on i o e ho he' hbd
      rcases h1 with h1 | h1
      · rw [← h1]; exact hall e he' hbd
      · have := (List.getElem?_eq_some_iff.1 ho).1
        obtain ⟨o', ho'⟩ : ∃ o', ops[e.on]? = some o' := ⟨_, List.getElem?_eq_getElem (by omega)⟩
        exact ih e.on hlt o' j ho' (fun e2 he2 hb2 => hp e.on o' e2 ho' (hall e he' hbd) he2 hb2) h1
end
end Go.Vc
