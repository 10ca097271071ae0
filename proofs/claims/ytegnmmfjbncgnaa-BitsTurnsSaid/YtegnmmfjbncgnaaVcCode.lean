/- A part of the proof of given statements: a verified condition generator for the model, and contracts of the program's functions. No condition. -/
import Derived.Test.YtegnmmfjbncgnaaVcDraw4
set_option linter.unusedVariables false
set_option linter.unusedSimpArgs false
namespace Go.Vc
open Go Go.RowKit

/-! ## A state under another's names -/
abbrev Ren := List (Nat × Option Nat)      -- a new name, the old one; none: nil
def rlook : Ren → Nat → Option (Option Nat)
  | [], _ => none
  | (k, a) :: r, t => match Nat.beq k t with
    | true => some a
    | false => rlook r t
def sameK (r : Ren) (old new : Nat) : Prop :=
  match rlook r new with
  | some (some k) => Nat.beq k old = true
  | _ => False
mutual
/-- what is known by the first says what the second says, under the new names -/
def avLe (r : Ren) : AV → AV → Prop
  | .i x, .i y => x = y
  | .w8 x, .w8 y => x = y
  | .w16 x, .w16 y => x = y
  | .w32 x, .w32 y => x = y
  | .w64 x, .w64 y => x = y
  | .b x, .b y => x = y
  | .kb x, .b y => x = y
  | .kb x, .kb y => x = y
  | .b x, .kb y => x = y
  | .s x, .s y => x = y
  | .ag n c, .ag k d => Nat.beq n k = true ∧ acLe r c d
  | .p k g o, .p k' g' o' => sameK r k k' ∧ Nat.beq g g' = true ∧ Nat.beq o o' = true
  | .pr a, .pr b => avLe r a b
  | .sl k g o e a n, .sl k' g' o' e' a' n' => sameK r k k' ∧ Nat.beq g g' = true ∧ Nat.beq o o' = true ∧ Nat.beq e e' = true ∧ a = a' ∧ n = n'
  | .rb e c, .rb e' d => Nat.beq e e' = true ∧ acLe r c d
  | .rw k, .rw k' => sameK r k k'
  | .nl, .nl => True
  | .nl, .rw k' => match rlook r k' with
    | some none => True
    | _ => False
  | .pn, .pn => True
  | .tup l, .tup l' => alLe r l l'
  | .u, .u => True
  | _, _ => False
def acLe (r : Ren) : AC → AC → Prop
  | .bt xs, .bt ys => xs = ys
  | .wh xs, .wh ys => xs = ys
  | .wd xs, .wd ys => xs = ys
  | .ww xs, .ww ys => xs = ys
  | .is xs, .is ys => xs = ys
  | .ss xs, .ss ys => xs = ys
  | .vs l, .vs l' => alLe r l l'
  | .fn e n f, .fn e' n' f' => Nat.beq e e' = true ∧ n = n' ∧ ∀ i, i < n → avLe r (f i) (f' i)
  | _, _ => False
def alLe (r : Ren) : List AV → List AV → Prop
  | [], [] => True
  | a :: l, b :: l' => avLe r a b ∧ alLe r l l'
  | _, _ => False
end
def segsLe (r : Ren) : List Seg → List Seg → Prop
  | [], [] => True
  | (n, c) :: l, (k, d) :: l' => Nat.beq n k = true ∧ acLe r c d ∧ segsLe r l l'
  | _, _ => False
def acNil : AC → Prop
  | .bt xs => xs = []
  | .wh xs => xs = []
  | .wd xs => xs = []
  | .ww xs => xs = []
  | .is xs => xs = []
  | .ss xs => xs = []
  | .vs l => l = []
  | .fn _ n _ => n = 0
def abLe (r : Ren) : AB → AB → Prop
  | _, .dead => True
  | .bk T s, .bk T' s' => Nat.beq T T' = true ∧ segsLe r s s'
  | .row T e c, .row T' e' d => Nat.beq T T' = true ∧ Nat.beq e e' = true ∧ acLe r c d
  | _, _ => False

/-- what is to be known: slots; of each name the slot that leads to it and what lies there -/
structure Tg where
  sl : List (Nat × AV)
  me : List (Nat × Nat × AB)
def keyOf : AV → Option (Option Nat)
  | .rw k => some (some k)
  | .p k _ _ => some (some k)
  | .pe k _ _ _ _ => some (some k)
  | .sl k _ _ _ _ _ => some (some k)
  | .nl => some none
  | _ => none
def renOf (sl : List (Nat × AV)) : List (Nat × Nat × AB) → Option Ren
  | [] => some []
  | (t, k, _) :: r => match keyOf (sget sl t) with
    | some o => match renOf sl r with
      | some q => some ((k, o) :: q)
      | none => none
    | none => none
def fresh1 (k : Nat) : Ren → Bool
  | [] => true
  | (k', _) :: r => match Nat.beq k k' with
    | true => false
    | false => fresh1 k r
def fresh2 (o : Option Nat) : Ren → Bool
  | [] => true
  | (_, o') :: r => match o, o' with
    | some a, some b => match Nat.beq a b with
      | true => false
      | false => fresh2 o r
    | _, _ => fresh2 o r
def renOk : Ren → Bool
  | [] => true
  | (k, o) :: r => match Nat.blt k 64, fresh1 k r, fresh2 o r with
    | true, true, true => renOk r
    | _, _, _ => false
def slLe (r : Ren) (sl : List (Nat × AV)) : List (Nat × AV) → Prop
  | [] => True
  | (t, a) :: l => (match a with
    | .u => True
    | a => avLe r (sget sl t) a) ∧ slLe r sl l
def meLe (r : Ren) (me : Mem) : List (Nat × Nat × AB) → Prop
  | [] => True
  | (_, k, ab) :: l => (match rlook r k with
    | some (some o) => match mlook me o with
      | some ab0 => abLe r ab0 ab
      | none => False
    | some none => match ab with
      | .row _ _ c => acNil c
      | _ => False
    | none => False) ∧ meLe r me l
/-- these names stay -/
def pinOk (r : Ren) : List Nat → Bool
  | [] => true
  | j :: q => match rlook r j with
    | some (some k) => match Nat.beq j k with
      | true => pinOk r q
      | false => false
    | _ => false
def Le (pin : List Nat) (s : AS) (t : Tg) : Prop :=
  match renOf s.sl t.me with
  | some r => match renOk r, pinOk r pin with
    | true, true => slLe r s.sl t.sl ∧ meLe r s.me t.me
    | _, _ => False
  | none => False
def tgMem : List (Nat × Nat × AB) → Mem
  | [] => []
  | (_, k, ab) :: l => (k, ab) :: tgMem l
def Tg.as (t : Tg) : AS := ⟨t.sl, tgMem t.me, 64⟩

/-- what is known at a loop's head, or where ways meet again -/
structure Ann where
  S : Type
  pre : S → Prop
  mu : S → Nat
  tg : S → Tg
abbrev Anns := List (Nat × Ann)
def alook : Anns → Nat → Option Ann
  | [], _ => none
  | (k, a) :: r, t => match Nat.beq k t with
    | true => some a
    | false => alook r t
/-- the number of the first region -/
def firstReg : Code → Nat
  | .region id _ _ => id
  | .seq a _ => firstReg a
  | .block _ b => firstReg b
  | .cond _ a _ => firstReg a
  | .loop a => firstReg a
  | _ => 0

def lmemB (k : Nat) : List Nat → Bool
  | [] => false
  | j :: r => match Nat.beq k j with
    | true => true
    | false => lmemB k r
/-- the conditions of a piece of code. 'an': of loops, by the number of the first region in them; 'cu': of a sequence's second half, likewise -/
def vc (F : Fs) (x : Cx) (an cu : Anns) : Code → AS → (VX → AS → Prop) → Prop
  | .skip, s, K => K .normal s
  | .region id ops draw, s, K => match draw with
    | false => opsVc F x (lmemB id x.must) ops.toList ops.toList s fun s' => K .normal s'
    | true => match memBelow s.nk s.me with
      | true => drawVc F x (lmemB id x.must) (drlook x.dr id) s.nk ops.toList 0 ops.toList s fun s' => K .normal s'
      | false => False
  | .seq a b, s, K => match alook cu (firstReg b) with
    | none => vc F x an cu a s fun e s' => match e with
      | .normal => vc F x an cu b s' K
      | e => K e s'
    | some A => (vc F x an cu a s fun e s' => match e with
        | .normal => ∃ t, A.pre t ∧ Le x.pin s' (A.tg t)
        | e => K e s') ∧ ∀ t, A.pre t → vc F x an cu b (A.tg t).as K
  | .cond c a b, s, K => match oget F s.sl c with
    | .kb true => vc F x an cu a s K
    | .kb false => vc F x an cu b s K
    | .b y => (F.pB y false ∨ vc F x an cu a s K) ∧ (F.pB y true ∨ vc F x an cu b s K)
    | _ => False
  | .block id b, s, K => vc F x an cu b s fun e s' => match e with
    | .exit i => match Nat.beq i id with
      | true => K .normal s'
      | false => K e s'
    | e => K e s'
  | .exit id, s, K => K (.exit id) s
  | .ret, s, K => K .ret s
  | .loop b, s, K => match alook an (firstReg b) with
    | some A => (∃ t, A.pre t ∧ Le x.pin s (A.tg t)) ∧ ∀ t, A.pre t → vc F x an cu b (A.tg t).as fun e s' => match e with
      | .normal => ∃ t', A.pre t' ∧ A.mu t' < A.mu t ∧ Le x.pin s' (A.tg t')
      | e => K e s'
    | none => False
  | _, _, _ => False

/-! ## What a renaming keeps -/
def hren (m : Hd) (r : Ren) : Hd := ⟨fun k => match rlook r k with
  | some (some o) => m o
  | some none => some (.slice none 0 0)
  | none => none, m.ok⟩
section
variable {m : Hd} {w : World} {r : Ren}
theorem hren_apply (k : Nat) : (hren m r) k = (match rlook r k with
  | some (some o) => m o
  | some none => some (.slice none 0 0)
  | none => none) := rfl
theorem sameK_hren {o k : Nat} (h : sameK r o k) : (hren m r) k = m o := by
  unfold sameK at h
  rw [hren_apply]
  split at h
  · rename_i o' ho
    have := beq_nat h; subst this
    rw [ho]
  · exact h.elim
theorem hren_from {k : Nat} {v : Value} (h : (hren m r) k = some v) : (∃ o, m o = some v) ∨ v = .slice none 0 0 := by
  rw [hren_apply] at h
  split at h
  · exact .inl ⟨_, h⟩
  · cases h; exact .inr rfl
  · cases h
theorem Stable.ren {b : Nat} (h : Stable m w b) : Stable (hren m r) w b := by
  refine ⟨h.1, h.2.1, fun k v hk hv => ?_⟩
  rcases hren_from hk with ⟨o, ho⟩ | rfl
  · exact h.2.2 o v ho hv
  · simp [blk] at hv
theorem StableAt.ren {ad : Addr} {ds : List Value} (h : StableAt m w ad ds) : StableAt (hren m r) w ad ds := ⟨h.1.ren, h.2⟩
mutual
theorem CR_le : ∀ (a b : AV) (cs : List Value), avLe r a b → CR m w a cs → CR (hren m r) w b cs
  | .i x, b, cs, h, hc => by
    cases b <;> first | exact (show False from h).elim | skip
    simp only [avLe] at h; subst h; simpa only [CR] using hc
  | .w8 x, b, cs, h, hc => by
    cases b <;> first | exact (show False from h).elim | skip
    simp only [avLe] at h; subst h; simpa only [CR] using hc
  | .w16 x, b, cs, h, hc => by
    cases b <;> first | exact (show False from h).elim | skip
    simp only [avLe] at h; subst h; simpa only [CR] using hc
  | .w32 x, b, cs, h, hc => by
    cases b <;> first | exact (show False from h).elim | skip
    simp only [avLe] at h; subst h; simpa only [CR] using hc
  | .w64 x, b, cs, h, hc => by
    cases b <;> first | exact (show False from h).elim | skip
    simp only [avLe] at h; subst h; simpa only [CR] using hc
  | .s x, b, cs, h, hc => by
    cases b <;> first | exact (show False from h).elim | skip
    simp only [avLe] at h; subst h; simpa only [CR] using hc
  | .b x, b, cs, h, hc => by
    cases b <;> first | exact (show False from h).elim | skip
    all_goals (simp only [avLe] at h; subst h; simpa only [CR] using hc)
  | .kb x, b, cs, h, hc => by
    cases b <;> first | exact (show False from h).elim | skip
    all_goals (simp only [avLe] at h; subst h; simpa only [CR] using hc)
  | .u, b, cs, h, hc => by
    cases b <;> first | exact (show False from h).elim | skip
    simpa only [CR] using hc
  | .nl, b, cs, h, hc => by
    cases b <;> first | exact (show False from h).elim | skip
    · simp only [avLe] at h; simp only [CR] at hc ⊢
      split at h
      · rename_i hr
        exact ⟨.slice none 0 0, by rw [hren_apply, hr], hc, rfl⟩
      · exact h.elim
    · simpa only [CR] using hc
  | .pn, b, cs, h, hc => by
    cases b <;> first | exact (show False from h).elim | skip
    simpa only [CR] using hc
  | .tup l, b, cs, h, hc => by simp [CR] at hc
  | .pe k g o e i, b, cs, h, hc => by
    cases b <;> exact (show False from h).elim
  | .ag n c, b, cs, h, hc => by
    cases b <;> first | exact (show False from h).elim | skip
    rename_i k d
    simp only [avLe] at h; simp only [CR] at hc ⊢
    have := beq_nat h.1; subst this
    exact ⟨hc.1, RC_le c d cs h.2 hc.2⟩
  | .p k g o, b, cs, h, hc => by
    cases b <;> first | exact (show False from h).elim | skip
    simp only [avLe] at h; simp only [CR] at hc ⊢
    obtain ⟨gb, h1, h2⟩ := hc
    have := beq_nat h.2.2; subst this
    exact ⟨gb, (sameK_hren h.1).trans h1, h2⟩
  | .pr a, b, cs, h, hc => by
    cases b <;> first | exact (show False from h).elim | skip
    rename_i b
    simp only [avLe] at h; simp only [CR] at hc ⊢
    obtain ⟨ad, ds, h1, h2, h3⟩ := hc
    exact ⟨ad, ds, h1, CR_le a b ds h h2, h3.ren⟩
  | .sl k g o e a n, b, cs, h, hc => by
    cases b <;> first | exact (show False from h).elim | skip
    simp only [avLe] at h; simp only [CR] at hc ⊢
    obtain ⟨v, ad, cap, h1, h2, h3, h4⟩ := hc
    obtain ⟨e0, eg, e1, e2, e3, e4⟩ := h
    have e1 := beq_nat e1; have e2 := beq_nat e2
    subst e1; subst e2; subst e3; subst e4
    exact ⟨v, ad, cap, (sameK_hren e0).trans h1, h2, h3, h4⟩
  | .rb e c, b, cs, h, hc => by
    cases b <;> first | exact (show False from h).elim | skip
    rename_i e' d
    simp only [avLe] at h; simp only [CR] at hc ⊢
    obtain ⟨ad, n, cap, ds, h1, h2, h3, h4, h5⟩ := hc
    have e1 := beq_nat h.1; subst e1
    exact ⟨ad, n, cap, ds, h1, RC_le c d ds h.2 h2, h3, h4, fun hn => let ⟨a, ha, hs⟩ := h5 hn; ⟨a, ha, hs.ren⟩⟩
  | .rw k, b, cs, h, hc => by
    cases b <;> first | exact (show False from h).elim | skip
    simp only [avLe] at h; simp only [CR] at hc ⊢
    obtain ⟨v, h1, h2⟩ := hc
    exact ⟨v, (sameK_hren h).trans h1, h2⟩
theorem RC_le : ∀ (c d : AC) (cs : List Value), acLe r c d → RC m w c cs → RC (hren m r) w d cs
  | .bt xs, d, cs, h, hc => by
    cases d <;> first | exact (show False from h).elim | skip
    simp only [acLe] at h; subst h; simpa only [RC] using hc
  | .wh xs, d, cs, h, hc => by
    cases d <;> first | exact (show False from h).elim | skip
    simp only [acLe] at h; subst h; simpa only [RC] using hc
  | .wd xs, d, cs, h, hc => by
    cases d <;> first | exact (show False from h).elim | skip
    simp only [acLe] at h; subst h; simpa only [RC] using hc
  | .ww xs, d, cs, h, hc => by
    cases d <;> first | exact (show False from h).elim | skip
    simp only [acLe] at h; subst h; simpa only [RC] using hc
  | .is xs, d, cs, h, hc => by
    cases d <;> first | exact (show False from h).elim | skip
    simp only [acLe] at h; subst h; simpa only [RC] using hc
  | .ss xs, d, cs, h, hc => by
    cases d <;> first | exact (show False from h).elim | skip
    simp only [acLe] at h; subst h; simpa only [RC] using hc
  | .vs l, d, cs, h, hc => by
    cases d <;> first | exact (show False from h).elim | skip
    rename_i l'
    simp only [acLe] at h; simp only [RC] at hc ⊢; exact LR_le l l' cs h hc
  | .fn e n f, d, cs, h, hc => by
    cases d <;> first | exact (show False from h).elim | skip
    rename_i e' n' f'
    simp only [acLe] at h; simp only [RC] at hc ⊢
    obtain ⟨css, h1, h2, h3⟩ := hc
    obtain ⟨e1, e2, e3⟩ := h
    have e1 := beq_nat e1; subst e1; subst e2
    refine ⟨css, h1, h2, fun j d hd => ⟨(h3 j d hd).1, ?_⟩⟩
    have hj : j < n := by rw [← h1]; exact (List.getElem?_eq_some_iff.1 hd).1
    exact CR_le (f j) (f' j) d (e3 j hj) (h3 j d hd).2
theorem LR_le : ∀ (l l' : List AV) (cs : List Value), alLe r l l' → LR m w l cs → LR (hren m r) w l' cs
  | [], l', cs, h, hc => by
    cases l' with
    | nil => simpa only [LR] using hc
    | cons _ _ => exact (show False from h).elim
  | a :: l, l', cs, h, hc => by
    cases l' with
    | nil => exact (show False from h).elim
    | cons b l' =>
      simp only [alLe] at h; simp only [LR] at hc ⊢
      obtain ⟨c1, c2, h1, h2, h3⟩ := hc
      exact ⟨c1, c2, h1, CR_le a b c1 h.1 h2, LR_le l l' c2 h.2 h3⟩
end
end
end Go.Vc
