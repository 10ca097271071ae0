/- A part of the proof of given statements: a verified condition generator for the model, and contracts of the program's functions. No condition. -/
import Derived.Test.YtegnmmfjbncgnaaVcGen
set_option linter.unusedVariables false
namespace Go.Vc
open Go Go.RowKit

/-- what one step may do to memory -/
structure Tr (m : Hd) (w : World) (m' : Hd) (w' : World) : Prop where
  mu : ∀ k v, m k = some v → m' k = some v
  ok : m'.ok = m.ok
  size : w.heap.size ≤ w'.heap.size
  old : ∀ b, b < w.heap.size → (∀ k v, m k = some v → blk v ≠ some b) → w'.heap[b]? = w.heap[b]?
  own : ∀ k v b, m' k = some v → blk v = some b → (∃ k0 v0, m k0 = some v0 ∧ blk v0 = some b) ∨ w.heap.size ≤ b
  os : w'.os = w.os
  tape : w'.tape = w.tape
  output : w'.output = w.output

theorem Tr.refl (m : Hd) (w : World) : Tr m w m w :=
  ⟨fun _ _ h => h, rfl, Nat.le_refl _, fun _ _ _ => rfl, fun k v b h1 h2 => .inl ⟨k, v, h1, h2⟩, rfl, rfl, rfl⟩

theorem Tr.pres {m m' : Hd} {w w' : World} (h : Tr m w m' w') : Pres m w m' w' := by
  refine ⟨h.mu, fun b ⟨hb, ho, hn⟩ => ⟨h.old b hb hn, Nat.lt_of_lt_of_le hb h.size, h.ok ▸ ho, fun k v hk hv => ?_⟩⟩
  rcases h.own k v b hk hv with ⟨k0, v0, h1, h2⟩ | h1
  · exact hn k0 v0 h1 h2
  · omega

theorem Tr.trans {m m' m'' : Hd} {w w' w'' : World} (h : Tr m w m' w') (g : Tr m' w' m'' w'') : Tr m w m'' w'' := by
  refine ⟨fun k v hk => g.mu k v (h.mu k v hk), g.ok.trans h.ok, Nat.le_trans h.size g.size, fun b hb hn => ?_, fun k v b hk hv => ?_, g.os.trans h.os, g.tape.trans h.tape, g.output.trans h.output⟩
  · rw [g.old b (Nat.lt_of_lt_of_le hb h.size) (fun k v hk hv => ?_), h.old b hb hn]
    rcases h.own k v b hk hv with ⟨k0, v0, h1, h2⟩ | h1
    · exact hn k0 v0 h1 h2
    · omega
  · rcases g.own k v b hk hv with ⟨k0, v0, h1, h2⟩ | h1
    · exact h.own k0 v0 b h1 h2
    · exact .inr (Nat.le_trans h.size h1)

/-- every handle leads to a block that is there -/
def Bd (m : Hd) (w : World) : Prop := ∀ k v b, m k = some v → blk v = some b → b < w.heap.size

theorem ABR_keep {m m' : Hd} {w w' : World} {k : Nat} {ab : AB} (h : ABR m w k ab) (hk : ∀ v, m k = some v → m' k = some v)
    (hb : ∀ v b, m k = some v → blk v = some b → w'.heap[b]? = w.heap[b]?) (hp : Pres m w m' w') : ABR m' w' k ab := by
  cases ab with
  | dead => trivial
  | bk T segs =>
    obtain ⟨g, cs, fz, h1, h2, h3, h4⟩ := h
    exact ⟨g, cs, fz, hk _ h1, by rw [hb _ g h1 rfl]; exact h2, h3, SegsR_mono hp _ _ h4⟩
  | row T e c =>
    obtain ⟨v, n, cs, h1, h2, h3⟩ := h
    refine ⟨v, n, cs, hk _ h1, ⟨h2.1, ?_⟩, RC_mono hp _ _ h3⟩
    rcases h2.2 with h4 | ⟨g, cap, cur, fz, rfl, h5, h6⟩
    · exact .inl h4
    · exact .inr ⟨g, cap, cur, fz, rfl, by rw [hb _ g h1 rfl]; exact h5, h6⟩

theorem mlook_cons (k : Nat) (a : AB) (r : Mem) (t : Nat) : mlook ((k, a) :: r) t = if k = t then some a else mlook r t := by
  simp only [mlook]
  by_cases h : k = t
  · subst h; simp
  · have : Nat.beq k t = false := by
      cases hb : Nat.beq k t with
      | false => rfl
      | true => exact absurd (Nat.eq_of_beq_eq_true hb) h
    simp [this, h]

def hput (m : Hd) (k : Nat) (v : Value) : Hd := ⟨fun t => if t = k then some v else m t, m.ok⟩
theorem hput_apply (m : Hd) (k : Nat) (v : Value) (t : Nat) : (hput m k v) t = if t = k then some v else m t := rfl

/-- a new block under a new name -/
theorem tr_new {m : Hd} {w w' : World} {k : Nat} {v : Value} (hk : m k = none) (hs : w.heap.size ≤ w'.heap.size)
    (hv : ∀ b, blk v = some b → w.heap.size ≤ b) (hold : ∀ b, b < w.heap.size → w'.heap[b]? = w.heap[b]?)
    (os : w'.os = w.os) (tape : w'.tape = w.tape) (output : w'.output = w.output) : Tr m w (hput m k v) w' := by
  refine ⟨fun t u ht => ?_, rfl, hs, fun b hb _ => hold b hb, fun t u b ht hu => ?_, os, tape, output⟩
  · rw [hput_apply]
    rw [if_neg (fun e => by rw [e, hk] at ht; cases ht)]
    exact ht
  · rw [hput_apply] at ht
    split at ht
    · cases ht; exact .inr (hv b hu)
    · exact .inl ⟨t, u, ht, hu⟩

theorem memR_new {m : Hd} {w w' : World} {me : Mem} {k : Nat} {v : Value} {ab : AB} (hm : MemR m w me) (hbd : Bd m w) (hk : m k = none)
    (hs : w.heap.size ≤ w'.heap.size) (hv : ∀ b, blk v = some b → w.heap.size ≤ b) (hold : ∀ b, b < w.heap.size → w'.heap[b]? = w.heap[b]?)
    (os : w'.os = w.os) (tape : w'.tape = w.tape) (output : w'.output = w.output) (hab : ABR (hput m k v) w' k ab) : MemR (hput m k v) w' ((k, ab) :: me) := by
  have ht := tr_new hk hs hv hold os tape output
  have hp := ht.pres
  refine ⟨fun t a ha => ?_, fun t t' a a' u u' b ha ha' hl hl' hne hu hu' hb hb' => ?_⟩
  · rw [mlook_cons] at ha
    split at ha
    · rename_i e; subst e; cases ha; exact hab
    · refine ABR_keep (hm.at_ t a ha) (ht.mu t) (fun u b hu hb => hold b (hbd t u b hu hb)) hp
  · rw [mlook_cons] at ha ha'
    rw [hput_apply] at hu hu'
    by_cases e : k = t
    · subst e
      have e' : ¬ t' = k := fun e => hne e.symm
      rw [if_neg (fun e2 => e' e2.symm)] at ha'
      rw [if_pos rfl] at hu
      rw [if_neg e'] at hu'
      cases hu
      have h1 := hv b hb
      have h2 := hbd t' u' b hu' hb'
      omega
    · rw [if_neg e] at ha
      rw [if_neg (fun e2 => e e2.symm)] at hu
      by_cases e2 : k = t'
      · subst e2
        rw [if_pos rfl] at hu'
        cases hu'
        have h1 := hv b hb'
        have h2 := hbd t u b hu hb
        omega
      · rw [if_neg e2] at ha'
        rw [if_neg (fun e3 => e2 e3.symm)] at hu'
        exact hm.apart t t' a a' u u' b ha ha' hl hl' hne hu hu' hb hb'

theorem bd_new {m : Hd} {w w' : World} {k : Nat} {v : Value} (hbd : Bd m w) (hs : w.heap.size ≤ w'.heap.size) (hv : ∀ b, blk v = some b → b < w'.heap.size) : Bd (hput m k v) w' := by
  intro t u b ht hu
  rw [hput_apply] at ht
  split at ht
  · cases ht; exact hv b hu
  · have := hbd t u b ht hu; omega

/-- a write to the one block that a live name leads to -/
theorem tr_write {m : Hd} {w w' : World} {k : Nat} {v : Value} {g : Nat} (hk : m k = some v) (hg : blk v = some g) (hs : w'.heap.size = w.heap.size)
    (hold : ∀ b, b ≠ g → w'.heap[b]? = w.heap[b]?) (os : w'.os = w.os) (tape : w'.tape = w.tape) (output : w'.output = w.output) : Tr m w m w' :=
  ⟨fun _ _ h => h, rfl, Nat.le_of_eq hs.symm, fun b _ hn => hold b (fun e => hn k v hk (e ▸ hg)), fun t u b ht hu => .inl ⟨t, u, ht, hu⟩, os, tape, output⟩

theorem memR_write {m : Hd} {w w' : World} {me : Mem} {k : Nat} {v : Value} {g : Nat} {ab ab' : AB} (hm : MemR m w me) (hl0 : mlook me k = some ab) (hlive : ab.live = true)
    (hk : m k = some v) (hg : blk v = some g) (hs : w'.heap.size = w.heap.size)
    (hold : ∀ b, b ≠ g → w'.heap[b]? = w.heap[b]?) (os : w'.os = w.os) (tape : w'.tape = w.tape) (output : w'.output = w.output) (hab : ABR m w' k ab') : MemR m w' ((k, ab') :: me) := by
  have ht := tr_write hk hg hs hold os tape output
  refine ⟨fun t a ha => ?_, fun t t' a a' u u' b ha ha' hl hl' hne hu hu' hb hb' => ?_⟩
  · rw [mlook_cons] at ha
    split at ha
    · rename_i e; subst e; cases ha; exact hab
    · rename_i e
      cases hla : a.live with
      | false => cases a with
        | dead => trivial
        | bk T s => simp [AB.live] at hla
        | row T e c => simp [AB.live] at hla
      | true =>
        refine ABR_keep (hm.at_ t a ha) (ht.mu t) (fun u b hu hb => hold b (fun e2 => ?_)) ht.pres
        subst e2
        exact hm.apart k t ab a v u b hl0 ha hlive hla e hk hu hg hb
  · rw [mlook_cons] at ha ha'
    by_cases e : k = t
    · subst e
      rw [if_neg hne] at ha'
      rw [hk] at hu; cases hu
      exact hm.apart k t' ab a' v u' b hl0 ha' hlive hl' hne hk hu' hb hb'
    · rw [if_neg e] at ha
      by_cases e2 : k = t'
      · subst e2
        rw [hk] at hu'; cases hu'
        exact hm.apart t k a ab u v b ha hl0 hl hlive hne hu hk hb hb'
      · rw [if_neg e2] at ha'
        exact hm.apart t t' a a' u u' b ha ha' hl hl' hne hu hu' hb hb'

/-- an operation's outcome -/
structure OkE (m : Hd) (w : World) (me : Mem) (kb : Nat) (av : AV) (puts : Mem) (v : Value) (m' : Hd) (w' : World) : Prop where
  tr : Tr m w m' w'
  rv : RV m' w' av v
  mem : MemR m' w' (mputs puts me)
  keys : ∀ k, m' k ≠ none → m k ≠ none ∨ (kb ≤ k ∧ k < kb + 8)
  bd : Bd m' w'

structure Base (m : Hd) (w : World) (me : Mem) (kb : Nat) : Prop where
  mem : MemR m w me
  bd : Bd m w
  fresh : ∀ k, kb ≤ k → k < kb + 8 → m k = none

theorem Base.same {m : Hd} {w : World} {me : Mem} {kb : Nat} (h : Base m w me kb) {av : AV} {v : Value} (hv : RV m w av v) : OkE m w me kb av [] v m w :=
  ⟨Tr.refl m w, hv, h.mem, fun _ hk => .inl hk, h.bd⟩

theorem Base.new {m : Hd} {w : World} {me : Mem} {kb : Nat} (h : Base m w me kb) {w' : World} {v : Value} {ab : AB} {av : AV}
    (hs : w.heap.size ≤ w'.heap.size) (hv : ∀ b, blk v = some b → w.heap.size ≤ b) (hv' : ∀ b, blk v = some b → b < w'.heap.size) (hold : ∀ b, b < w.heap.size → w'.heap[b]? = w.heap[b]?)
    (os : w'.os = w.os) (tape : w'.tape = w.tape) (output : w'.output = w.output) (hab : ABR (hput m kb v) w' kb ab)
    (hrv : RV (hput m kb v) w' av v) : OkE m w me kb av [(kb, ab)] v (hput m kb v) w' := by
  have hk := h.fresh kb (Nat.le_refl _) (by omega)
  refine ⟨tr_new hk hs hv hold os tape output, hrv, memR_new h.mem h.bd hk hs hv hold os tape output hab, fun k hk' => ?_, bd_new h.bd hs hv'⟩
  rw [hput_apply] at hk'
  split at hk'
  · rename_i e; exact .inr ⟨by omega, by omega⟩
  · exact .inl hk'

theorem Base.write {m : Hd} {w : World} {me : Mem} {kb : Nat} (h : Base m w me kb) {w' : World} {k g : Nat} {v v1 : Value} {ab ab' : AB} {av : AV}
    (hl0 : mlook me k = some ab) (hlive : ab.live = true) (hk : m k = some v) (hg : blk v = some g) (hs : w'.heap.size = w.heap.size)
    (hold : ∀ b, b ≠ g → w'.heap[b]? = w.heap[b]?) (os : w'.os = w.os) (tape : w'.tape = w.tape) (output : w'.output = w.output) (hab : ABR m w' k ab')
    (hrv : RV m w' av v1) : OkE m w me kb av [(k, ab')] v1 m w' :=
  ⟨tr_write hk hg hs hold os tape output, hrv, memR_write h.mem hl0 hlive hk hg hs hold os tape output hab, fun _ h => .inl h, fun t u b ht hu => by have := h.bd t u b ht hu; omega⟩

/-- what an operation's run has to come to -/
def OpRun (P : Program) (ρ : Operand → Value) (o : Oper) (w : World) (post : Value → World → Prop) : Prop :=
  match (execOp ρ o).run P w with
  | .ok (.value v) w' => post v w'
  | .ok .skip w' => post undef w'
  | .ok (.enter f args) w' => Calls P f args w' fun e w'' => ∃ v, e = .returned v ∧ post v w''
  | _ => False

theorem OpRun.wp {P : Program} {o : Oper} {a : Act} {w : World} {post : Value → World → Prop} {K : Act → World → Prop} {Q : Exit → Act → World → Prop}
    (h : OpRun P a.eval o w post) (hK : ∀ v w', post v w' → K (a.put o.dst v) w') : o.wp P a w K Q := by
  unfold OpRun at h
  unfold Oper.wp
  generalize (execOp a.eval o).run P w = r at h
  cases r with
  | halt x w' => exact h.elim
  | ok n w' =>
    cases n <;> simp only [Oper.upon] <;> first
      | exact hK _ _ h
      | exact h.elim
      | exact Calls.mono h (fun e w'' ⟨v, he, hp⟩ => by subst he; exact hK _ _ hp)
end Go.Vc
