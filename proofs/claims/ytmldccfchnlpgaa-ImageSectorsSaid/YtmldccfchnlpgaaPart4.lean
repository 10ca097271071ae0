/- A part of the proof of given statements: a verified condition generator for the model, and contracts of the program's functions. No condition. -/
import Derived.Test.YtmldccfchnlpgaaPart3
import Derived.Test.YtmldccfchnlpgaaProg
set_option linter.unusedVariables false
set_option linter.unusedSimpArgs false
set_option linter.constructorNameAsVariable false
set_option linter.unusedVariables false
set_option linter.unusedSimpArgs false
namespace Go.Vc
open Go Go.RowKit

/-! ## Contracts of functions that are handed what the caller owns -/
mutual
/-- under other names; none: a name that is not known -/
def rnAV (f : Nat → Option Nat) : AV → Option AV
  | .i x => some (.i x)
  | .w8 x => some (.w8 x)
  | .w16 x => some (.w16 x)
  | .w32 x => some (.w32 x)
  | .w64 x => some (.w64 x)
  | .b x => some (.b x)
  | .kb x => some (.kb x)
  | .s x => some (.s x)
  | .ag n c => match rnAC f c with
    | some d => some (.ag n d)
    | none => none
  | .nl => some .nl
  | .pn => some .pn
  | .rb e c => match AC.nk true c with
    | true => some (.rb e c)
    | false => none
  | .pr a => match AV.nk true a with
    | true => some (.pr a)
    | false => none
  | .rw k => match f k with
    | some j => some (.rw j)
    | none => none
  | .p k g o => match f k with
    | some j => some (.p j g o)
    | none => none
  | .sl k g o e a n => match f k with
    | some j => some (.sl j g o e a n)
    | none => none
  | .cl k => match f k with
    | some j => some (.cl j)
    | none => none
  | .mh k => match f k with
    | some j => some (.mh j)
    | none => none
  | .z => some .z
  | .mn => some .mn
  | .fv g l => match rnAL f l with
    | some l' => some (.fv g l')
    | none => none
  | _ => none
def rnAC (f : Nat → Option Nat) : AC → Option AC
  | .bt x => some (.bt x)
  | .wh x => some (.wh x)
  | .wd x => some (.wd x)
  | .ww x => some (.ww x)
  | .is x => some (.is x)
  | .ss x => some (.ss x)
  | .vs l => match rnAL f l with
    | some l' => some (.vs l')
    | none => none
  | .fn _ _ _ => none
  | .ds s xs => some (.ds s xs)
def rnAL (f : Nat → Option Nat) : List AV → Option (List AV)
  | [] => some []
  | a :: l => match rnAV f a, rnAL f l with
    | some b, some l' => some (b :: l')
    | _, _ => none
end
def rnSegs (f : Nat → Option Nat) : List Seg → Option (List Seg)
  | [] => some []
  | (n, c) :: l => match rnAC f c, rnSegs f l with
    | some d, some l' => some ((n, d) :: l')
    | _, _ => none
def rnAB (f : Nat → Option Nat) : AB → Option AB
  | .dead => none
  | .bk T s => match rnSegs f s with
    | some s' => some (.bk T s')
    | none => none
  | .row T e c => match rnAC f c with
    | some d => some (.row T e d)
    | none => none
  | .mp T kk vs M => some (.mp T kk vs M)
  | .it k a b c => match f k with
    | some j => some (.it j a b c)
    | none => none
def rnABs (f : Nat → Option Nat) : List AB → Option (List AB)
  | [] => some []
  | a :: l => match rnAB f a, rnABs f l with
    | some b, some l' => some (b :: l')
    | _, _ => none
def rnPRs (f : Nat → Option Nat) : List PR → Option (List PR)
  | [] => some []
  | .val a :: l => match rnAV f a, rnPRs f l with
    | some b, some l' => some (.val b :: l')
    | _, _ => none
  | .row T e c :: l => match AC.nk true c, rnPRs f l with
    | true, some l' => some (.row T e c :: l')
    | _, _ => none

def sameAll (r : Ren) (f : Nat → Option Nat) : Prop := ∀ k j, f k = some j → rlook r j = some (some k)
theorem sameK_of {r : Ren} {k j : Nat} (h : rlook r j = some (some k)) : sameK r k j := by
  unfold sameK; rw [h]; simp
mutual
theorem Sh.beq_refl : ∀ (x : Sh), Sh.beq x x = true
  | .i => rfl
  | .w8 => rfl
  | .w32 => rfl
  | .w64 => rfl
  | .b => rfl
  | .s => rfl
  | .l8 n => by simp [Sh.beq]
  | .ss => rfl
  | .bs => rfl
  | .t l => by simp only [Sh.beq]; exact Sh.beqs_refl l
  | .sl x => by simp only [Sh.beq]; exact Sh.beq_refl x
theorem Sh.beqs_refl : ∀ (x : List Sh), Sh.beqs x x = true
  | [] => rfl
  | x :: l => by simp only [Sh.beqs, Sh.beq_refl x]; exact Sh.beqs_refl l
end
theorem KK.beq_refl (x : KK) : KK.beq x x = true := by cases x <;> simp [KK.beq]
mutual
theorem nk_le {sh : Bool} (r : Ren) : ∀ (a : AV), a.nk sh = true → avLe r a a
  | .i _, _ => by simp [avLe]
  | .w8 _, _ => by simp [avLe]
  | .w16 _, _ => by simp [avLe]
  | .w32 _, _ => by simp [avLe]
  | .w64 _, _ => by simp [avLe]
  | .b _, _ => by simp [avLe]
  | .kb _, _ => by simp [avLe]
  | .s _, _ => by simp [avLe]
  | .ag n c, h => by simp only [AV.nk] at h; simp only [avLe]; exact ⟨by simp, nkc_le r c h⟩
  | .nl, _ => by simp [avLe]
  | .pn, _ => by simp [avLe]
  | .rb e c, h => by
    have hsh : sh = true := by cases hq : sh <;> simp [AV.nk, hq] at h ⊢
    have h' : c.nk sh = true := by simpa only [AV.nk, hsh] using h
    simp only [avLe]; exact ⟨by simp, nkc_le r c h'⟩
  | .pr a, h => by
    have hsh : sh = true := by cases hq : sh <;> simp [AV.nk, hq] at h ⊢
    have h' : a.nk sh = true := by simpa only [AV.nk, hsh] using h
    simp only [avLe]; exact nk_le r a h'
  | .u, h => by simp [AV.nk] at h
  | .tup _, h => by simp [AV.nk] at h
  | .p _ _ _, h => by simp [AV.nk] at h
  | .pe _ _ _ _ _, h => by simp [AV.nk] at h
  | .sl _ _ _ _ _ _, h => by simp [AV.nk] at h
  | .rw _, h => by simp [AV.nk] at h
  | .cl _, h => by simp [AV.nk] at h
  | .mh _, h => by simp [AV.nk] at h
  | .pf _ _ _ _ _ _ _, h => by simp [AV.nk] at h
  | .z, _ => by simp [avLe]
  | .mn, _ => by simp [avLe]
  | .fv f l, h => by simp only [AV.nk] at h; simp only [avLe]; exact ⟨by simp, nkl_le r l h⟩
theorem nkc_le {sh : Bool} (r : Ren) : ∀ (c : AC), c.nk sh = true → acLe r c c
  | .bt _, _ => by simp [acLe]
  | .wh _, _ => by simp [acLe]
  | .wd _, _ => by simp [acLe]
  | .ww _, _ => by simp [acLe]
  | .is _, _ => by simp [acLe]
  | .ss _, _ => by simp [acLe]
  | .vs l, h => by simp only [AC.nk] at h; simp only [acLe]; exact nkl_le r l h
  | .fn _ _ _, h => by simp [AC.nk] at h
  | .ds s xs, _ => by simp only [acLe]; exact ⟨Sh.beq_refl s, trivial⟩
theorem nkl_le {sh : Bool} (r : Ren) : ∀ (l : List AV), AL.nk sh l = true → alLe r l l
  | [], _ => by simp [alLe]
  | a :: l, h => by
    simp only [AL.nk] at h
    split at h
    · simp only [alLe]; exact ⟨nk_le r a (by assumption), nkl_le r l h⟩
    · cases h
end
mutual
theorem rn_le {r : Ren} {f : Nat → Option Nat} (hf : sameAll r f) : ∀ (a b : AV), rnAV f a = some b → avLe r a b ∧ b ≠ .u
  | .i _, b, h => by simp only [rnAV, Option.some.injEq] at h; subst h; simp [avLe]
  | .w8 _, b, h => by simp only [rnAV, Option.some.injEq] at h; subst h; simp [avLe]
  | .w16 _, b, h => by simp only [rnAV, Option.some.injEq] at h; subst h; simp [avLe]
  | .w32 _, b, h => by simp only [rnAV, Option.some.injEq] at h; subst h; simp [avLe]
  | .w64 _, b, h => by simp only [rnAV, Option.some.injEq] at h; subst h; simp [avLe]
  | .b _, b, h => by simp only [rnAV, Option.some.injEq] at h; subst h; simp [avLe]
  | .kb _, b, h => by simp only [rnAV, Option.some.injEq] at h; subst h; simp [avLe]
  | .s _, b, h => by simp only [rnAV, Option.some.injEq] at h; subst h; simp [avLe]
  | .ag n c, b, h => by
    simp only [rnAV] at h
    split at h
    · rename_i d hd
      cases h
      exact ⟨by simp only [avLe]; exact ⟨by simp, rnc_le hf c d hd⟩, by simp⟩
    · cases h
  | .nl, b, h => by simp only [rnAV, Option.some.injEq] at h; subst h; simp [avLe]
  | .pn, b, h => by simp only [rnAV, Option.some.injEq] at h; subst h; simp [avLe]
  | .rb e c, b, h => by
    simp only [rnAV] at h
    split at h
    · rename_i hn
      cases h
      exact ⟨by simp only [avLe]; exact ⟨by simp, nkc_le r c hn⟩, by simp⟩
    · cases h
  | .pr a, b, h => by
    simp only [rnAV] at h
    split at h
    · rename_i hn
      cases h
      exact ⟨by simp only [avLe]; exact nk_le r a hn, by simp⟩
    · cases h
  | .rw k, b, h => by
    simp only [rnAV] at h
    split at h
    · rename_i j hj
      cases h
      exact ⟨by simp only [avLe]; exact sameK_of (hf k j hj), by simp⟩
    · cases h
  | .p k g o, b, h => by
    simp only [rnAV] at h
    split at h
    · rename_i j hj
      cases h
      exact ⟨by simp only [avLe]; exact ⟨sameK_of (hf k j hj), by simp, by simp⟩, by simp⟩
    · cases h
  | .sl k g o e a n, b, h => by
    simp only [rnAV] at h
    split at h
    · rename_i j hj
      cases h
      exact ⟨by simp only [avLe]; exact ⟨sameK_of (hf k j hj), by simp, by simp, by simp, trivial, trivial⟩, by simp⟩
    · cases h
  | .u, b, h => by simp [rnAV] at h
  | .tup _, b, h => by simp [rnAV] at h
  | .pe _ _ _ _ _, b, h => by simp [rnAV] at h
  | .cl k, b, h => by
    simp only [rnAV] at h
    split at h
    · rename_i j hj
      cases h
      exact ⟨by simp only [avLe]; exact sameK_of (hf k j hj), by simp⟩
    · cases h
  | .mh k, b, h => by
    simp only [rnAV] at h
    split at h
    · rename_i j hj
      cases h
      exact ⟨by simp only [avLe]; exact sameK_of (hf k j hj), by simp⟩
    · cases h
  | .z, b, h => by simp only [rnAV, Option.some.injEq] at h; subst h; simp [avLe]
  | .mn, b, h => by simp only [rnAV, Option.some.injEq] at h; subst h; simp [avLe]
  | .fv g l, b, h => by
    simp only [rnAV] at h
    split at h
    · rename_i l' hl
      cases h
      exact ⟨by simp only [avLe]; exact ⟨by simp, rnl_le hf l l' hl⟩, by simp⟩
    · cases h
  | .pf _ _ _ _ _ _ _, b, h => by simp [rnAV] at h
theorem rnc_le {r : Ren} {f : Nat → Option Nat} (hf : sameAll r f) : ∀ (a b : AC), rnAC f a = some b → acLe r a b
  | .bt _, b, h => by simp only [rnAC, Option.some.injEq] at h; subst h; simp [acLe]
  | .wh _, b, h => by simp only [rnAC, Option.some.injEq] at h; subst h; simp [acLe]
  | .wd _, b, h => by simp only [rnAC, Option.some.injEq] at h; subst h; simp [acLe]
  | .ww _, b, h => by simp only [rnAC, Option.some.injEq] at h; subst h; simp [acLe]
  | .is _, b, h => by simp only [rnAC, Option.some.injEq] at h; subst h; simp [acLe]
  | .ss _, b, h => by simp only [rnAC, Option.some.injEq] at h; subst h; simp [acLe]
  | .vs l, b, h => by
    simp only [rnAC] at h
    split at h
    · rename_i l' hl
      cases h
      simp only [acLe]; exact rnl_le hf l l' hl
    · cases h
  | .fn _ _ _, b, h => by simp [rnAC] at h
  | .ds s xs, b, h => by simp only [rnAC, Option.some.injEq] at h; subst h; simp only [acLe]; exact ⟨Sh.beq_refl s, trivial⟩
theorem rnl_le {r : Ren} {f : Nat → Option Nat} (hf : sameAll r f) : ∀ (a b : List AV), rnAL f a = some b → alLe r a b
  | [], b, h => by simp only [rnAL, Option.some.injEq] at h; subst h; simp [alLe]
  | a :: l, b, h => by
    simp only [rnAL] at h
    split at h
    · rename_i a' l' h1 h2
      cases h
      simp only [alLe]; exact ⟨(rn_le hf a a' h1).1, rnl_le hf l l' h2⟩
    · cases h
end
theorem rns_le {r : Ren} {f : Nat → Option Nat} (hf : sameAll r f) : ∀ (a b : List Seg), rnSegs f a = some b → segsLe r a b
  | [], b, h => by simp only [rnSegs, Option.some.injEq] at h; subst h; simp [segsLe]
  | (n, c) :: l, b, h => by
    simp only [rnSegs] at h
    split at h
    · rename_i a' l' h1 h2
      cases h
      simp only [segsLe]; exact ⟨by simp, rnc_le hf c a' h1, rns_le hf l l' h2⟩
    · cases h
theorem rnb_le {r : Ren} {f : Nat → Option Nat} (hf : sameAll r f) (a b : AB) (h : rnAB f a = some b) : abLe r a b ∧ a.live = true ∧ b.live = true := by
  cases a with
  | dead => simp [rnAB] at h
  | bk T s =>
    simp only [rnAB] at h
    split at h
    · rename_i s' hs
      cases h
      exact ⟨by simp only [abLe]; exact ⟨by simp, rns_le hf s s' hs⟩, rfl, rfl⟩
    · cases h
  | row T e c =>
    simp only [rnAB] at h
    split at h
    · rename_i d hd
      cases h
      exact ⟨by simp only [abLe]; exact ⟨by simp, by simp, rnc_le hf c d hd⟩, rfl, rfl⟩
    · cases h
  | mp T kk vs M =>
    simp only [rnAB, Option.some.injEq] at h
    subst h
    exact ⟨by simp only [abLe]; exact ⟨by simp, KK.beq_refl kk, Sh.beq_refl vs, trivial⟩, rfl, rfl⟩
  | it k a b c =>
    simp only [rnAB] at h
    split at h
    · rename_i j hj
      cases h
      exact ⟨by simp only [abLe]; exact ⟨sameK_of (hf k j hj), trivial, trivial, trivial⟩, rfl, rfl⟩
    · cases h

def sameBack (r : Ren) (f : Nat → Option Nat) : Prop := ∀ k j, f k = some j → rlook r k = some (some j)
mutual
theorem rn_ge {r : Ren} {f : Nat → Option Nat} (hf : sameBack r f) : ∀ (a b : AV), rnAV f a = some b → avLe r b a ∧ a ≠ .u
  | .i _, b, h => by simp only [rnAV, Option.some.injEq] at h; subst h; simp [avLe]
  | .w8 _, b, h => by simp only [rnAV, Option.some.injEq] at h; subst h; simp [avLe]
  | .w16 _, b, h => by simp only [rnAV, Option.some.injEq] at h; subst h; simp [avLe]
  | .w32 _, b, h => by simp only [rnAV, Option.some.injEq] at h; subst h; simp [avLe]
  | .w64 _, b, h => by simp only [rnAV, Option.some.injEq] at h; subst h; simp [avLe]
  | .b _, b, h => by simp only [rnAV, Option.some.injEq] at h; subst h; simp [avLe]
  | .kb _, b, h => by simp only [rnAV, Option.some.injEq] at h; subst h; simp [avLe]
  | .s _, b, h => by simp only [rnAV, Option.some.injEq] at h; subst h; simp [avLe]
  | .ag n c, b, h => by
    simp only [rnAV] at h
    split at h
    · rename_i d hd
      cases h
      exact ⟨by simp only [avLe]; exact ⟨by simp, rnc_ge hf c d hd⟩, by simp⟩
    · cases h
  | .nl, b, h => by simp only [rnAV, Option.some.injEq] at h; subst h; simp [avLe]
  | .pn, b, h => by simp only [rnAV, Option.some.injEq] at h; subst h; simp [avLe]
  | .rb e c, b, h => by
    simp only [rnAV] at h
    split at h
    · rename_i hn
      cases h
      exact ⟨by simp only [avLe]; exact ⟨by simp, nkc_le r c hn⟩, by simp⟩
    · cases h
  | .pr a, b, h => by
    simp only [rnAV] at h
    split at h
    · rename_i hn
      cases h
      exact ⟨by simp only [avLe]; exact nk_le r a hn, by simp⟩
    · cases h
  | .rw k, b, h => by
    simp only [rnAV] at h
    split at h
    · rename_i j hj
      cases h
      exact ⟨by simp only [avLe]; exact sameK_of (hf k j hj), by simp⟩
    · cases h
  | .p k g o, b, h => by
    simp only [rnAV] at h
    split at h
    · rename_i j hj
      cases h
      exact ⟨by simp only [avLe]; exact ⟨sameK_of (hf k j hj), by simp, by simp⟩, by simp⟩
    · cases h
  | .sl k g o e a n, b, h => by
    simp only [rnAV] at h
    split at h
    · rename_i j hj
      cases h
      exact ⟨by simp only [avLe]; exact ⟨sameK_of (hf k j hj), by simp, by simp, by simp, trivial, trivial⟩, by simp⟩
    · cases h
  | .u, b, h => by simp [rnAV] at h
  | .tup _, b, h => by simp [rnAV] at h
  | .pe _ _ _ _ _, b, h => by simp [rnAV] at h
  | .cl k, b, h => by
    simp only [rnAV] at h
    split at h
    · rename_i j hj
      cases h
      exact ⟨by simp only [avLe]; exact sameK_of (hf k j hj), by simp⟩
    · cases h
  | .mh k, b, h => by
    simp only [rnAV] at h
    split at h
    · rename_i j hj
      cases h
      exact ⟨by simp only [avLe]; exact sameK_of (hf k j hj), by simp⟩
    · cases h
  | .z, b, h => by simp only [rnAV, Option.some.injEq] at h; subst h; simp [avLe]
  | .mn, b, h => by simp only [rnAV, Option.some.injEq] at h; subst h; simp [avLe]
  | .fv g l, b, h => by
    simp only [rnAV] at h
    split at h
    · rename_i l' hl
      cases h
      exact ⟨by simp only [avLe]; exact ⟨by simp, rnl_ge hf l l' hl⟩, by simp⟩
    · cases h
  | .pf _ _ _ _ _ _ _, b, h => by simp [rnAV] at h
theorem rnc_ge {r : Ren} {f : Nat → Option Nat} (hf : sameBack r f) : ∀ (a b : AC), rnAC f a = some b → acLe r b a
  | .bt _, b, h => by simp only [rnAC, Option.some.injEq] at h; subst h; simp [acLe]
  | .wh _, b, h => by simp only [rnAC, Option.some.injEq] at h; subst h; simp [acLe]
  | .wd _, b, h => by simp only [rnAC, Option.some.injEq] at h; subst h; simp [acLe]
  | .ww _, b, h => by simp only [rnAC, Option.some.injEq] at h; subst h; simp [acLe]
  | .is _, b, h => by simp only [rnAC, Option.some.injEq] at h; subst h; simp [acLe]
  | .ss _, b, h => by simp only [rnAC, Option.some.injEq] at h; subst h; simp [acLe]
  | .vs l, b, h => by
    simp only [rnAC] at h
    split at h
    · rename_i l' hl
      cases h
      simp only [acLe]; exact rnl_ge hf l l' hl
    · cases h
  | .fn _ _ _, b, h => by simp [rnAC] at h
  | .ds s xs, b, h => by simp only [rnAC, Option.some.injEq] at h; subst h; simp only [acLe]; exact ⟨Sh.beq_refl s, trivial⟩
theorem rnl_ge {r : Ren} {f : Nat → Option Nat} (hf : sameBack r f) : ∀ (a b : List AV), rnAL f a = some b → alLe r b a
  | [], b, h => by simp only [rnAL, Option.some.injEq] at h; subst h; simp [alLe]
  | a :: l, b, h => by
    simp only [rnAL] at h
    split at h
    · rename_i a' l' h1 h2
      cases h
      simp only [alLe]; exact ⟨(rn_ge hf a a' h1).1, rnl_ge hf l l' h2⟩
    · cases h
end
theorem rns_ge {r : Ren} {f : Nat → Option Nat} (hf : sameBack r f) : ∀ (a b : List Seg), rnSegs f a = some b → segsLe r b a
  | [], b, h => by simp only [rnSegs, Option.some.injEq] at h; subst h; simp [segsLe]
  | (n, c) :: l, b, h => by
    simp only [rnSegs] at h
    split at h
    · rename_i a' l' h1 h2
      cases h
      simp only [segsLe]; exact ⟨by simp, rnc_ge hf c a' h1, rns_ge hf l l' h2⟩
    · cases h
theorem rnb_ge {r : Ren} {f : Nat → Option Nat} (hf : sameBack r f) (a b : AB) (h : rnAB f a = some b) : abLe r b a ∧ a.live = true ∧ b.live = true := by
  cases a with
  | dead => simp [rnAB] at h
  | bk T s =>
    simp only [rnAB] at h
    split at h
    · rename_i s' hs
      cases h
      exact ⟨by simp only [abLe]; exact ⟨by simp, rns_ge hf s s' hs⟩, rfl, rfl⟩
    · cases h
  | row T e c =>
    simp only [rnAB] at h
    split at h
    · rename_i d hd
      cases h
      exact ⟨by simp only [abLe]; exact ⟨by simp, by simp, rnc_ge hf c d hd⟩, rfl, rfl⟩
    · cases h
  | mp T kk vs M =>
    simp only [rnAB, Option.some.injEq] at h
    subst h
    exact ⟨by simp only [abLe]; exact ⟨by simp, KK.beq_refl kk, Sh.beq_refl vs, trivial⟩, rfl, rfl⟩
  | it k a b c =>
    simp only [rnAB] at h
    split at h
    · rename_i j hj
      cases h
      exact ⟨by simp only [abLe]; exact ⟨sameK_of (hf k j hj), trivial, trivial, trivial⟩, rfl, rfl⟩
    · cases h

/-! ## Names met -/
def addK (k : Nat) (ks : List Nat) : List Nat := match lmem k ks with
  | true => ks
  | false => ks ++ [k]
mutual
def keysV : AV → List Nat → List Nat
  | .rw k, ks => addK k ks
  | .p k _ _, ks => addK k ks
  | .sl k _ _ _ _ _, ks => addK k ks
  | .cl k, ks => addK k ks
  | .mh k, ks => addK k ks
  | .fv _ l, ks => keysL l ks
  | .ag _ c, ks => keysC c ks
  | _, ks => ks
def keysC : AC → List Nat → List Nat
  | .vs l, ks => keysL l ks
  | _, ks => ks
def keysL : List AV → List Nat → List Nat
  | [], ks => ks
  | a :: l, ks => keysL l (keysV a ks)
end
def keysS : List Seg → List Nat → List Nat
  | [], ks => ks
  | (_, c) :: l, ks => keysS l (keysC c ks)
def keysB : AB → List Nat → List Nat
  | .bk _ s, ks => keysS s ks
  | .row _ _ c, ks => keysC c ks
  | .it k _ _ _, ks => addK k ks
  | .mp _ _ _ _, ks => ks
  | .dead, ks => ks
/-- what is to be looked up, what has been -/
def gather : Nat → List Nat → Nat → List AB → (List Nat → List AB → Look) → Look
  | 0, _, _, _, _ => .no
  | fuel + 1, ks, i, abs, K => match nth ks i with
    | none => K ks abs
    | some k => .look k fun ab => gather fuel (keysB ab ks) (Nat.succ i) (abs ++ [ab]) K
def idxOf (k : Nat) : Nat → List Nat → Option Nat
  | _, [] => none
  | i, j :: r => match Nat.beq k j with
    | true => some i
    | false => idxOf k (Nat.succ i) r
theorem addK_nodup {k : Nat} {ks : List Nat} (h : ks.Nodup) : (addK k ks).Nodup ∧ ks <+: addK k ks := by
  unfold addK
  split
  · exact ⟨h, List.prefix_refl _⟩
  · rename_i hm
    refine ⟨?_, List.prefix_append _ _⟩
    rw [List.nodup_append]
    refine ⟨h, by simp, fun a ha b hb => ?_⟩
    simp at hb; subst hb
    intro e; subst e; exact lmem_spec hm ha
mutual
theorem keysV_nodup : ∀ (a : AV) (ks : List Nat), ks.Nodup → (keysV a ks).Nodup ∧ ks <+: keysV a ks
  | .rw k, ks, h => by simp only [keysV]; exact addK_nodup h
  | .p k _ _, ks, h => by simp only [keysV]; exact addK_nodup h
  | .sl k _ _ _ _ _, ks, h => by simp only [keysV]; exact addK_nodup h
  | .cl k, ks, h => by simp only [keysV]; exact addK_nodup h
  | .mh k, ks, h => by simp only [keysV]; exact addK_nodup h
  | .fv _ l, ks, h => by simp only [keysV]; exact keysL_nodup l ks h
  | .z, ks, h => by simp only [keysV]; exact ⟨h, List.prefix_refl _⟩
  | .mn, ks, h => by simp only [keysV]; exact ⟨h, List.prefix_refl _⟩
  | .pf _ _ _ _ _ _ _, ks, h => by simp only [keysV]; exact ⟨h, List.prefix_refl _⟩
  | .ag _ c, ks, h => by simp only [keysV]; exact keysC_nodup c ks h
  | .i _, ks, h => by simp only [keysV]; exact ⟨h, List.prefix_refl _⟩
  | .w8 _, ks, h => by simp only [keysV]; exact ⟨h, List.prefix_refl _⟩
  | .w16 _, ks, h => by simp only [keysV]; exact ⟨h, List.prefix_refl _⟩
  | .w32 _, ks, h => by simp only [keysV]; exact ⟨h, List.prefix_refl _⟩
  | .w64 _, ks, h => by simp only [keysV]; exact ⟨h, List.prefix_refl _⟩
  | .b _, ks, h => by simp only [keysV]; exact ⟨h, List.prefix_refl _⟩
  | .kb _, ks, h => by simp only [keysV]; exact ⟨h, List.prefix_refl _⟩
  | .s _, ks, h => by simp only [keysV]; exact ⟨h, List.prefix_refl _⟩
  | .u, ks, h => by simp only [keysV]; exact ⟨h, List.prefix_refl _⟩
  | .tup _, ks, h => by simp only [keysV]; exact ⟨h, List.prefix_refl _⟩
  | .pe _ _ _ _ _, ks, h => by simp only [keysV]; exact ⟨h, List.prefix_refl _⟩
  | .pr _, ks, h => by simp only [keysV]; exact ⟨h, List.prefix_refl _⟩
  | .rb _ _, ks, h => by simp only [keysV]; exact ⟨h, List.prefix_refl _⟩
  | .nl, ks, h => by simp only [keysV]; exact ⟨h, List.prefix_refl _⟩
  | .pn, ks, h => by simp only [keysV]; exact ⟨h, List.prefix_refl _⟩
theorem keysC_nodup : ∀ (a : AC) (ks : List Nat), ks.Nodup → (keysC a ks).Nodup ∧ ks <+: keysC a ks
  | .vs l, ks, h => by simp only [keysC]; exact keysL_nodup l ks h
  | .bt _, ks, h => by simp only [keysC]; exact ⟨h, List.prefix_refl _⟩
  | .wh _, ks, h => by simp only [keysC]; exact ⟨h, List.prefix_refl _⟩
  | .wd _, ks, h => by simp only [keysC]; exact ⟨h, List.prefix_refl _⟩
  | .ww _, ks, h => by simp only [keysC]; exact ⟨h, List.prefix_refl _⟩
  | .is _, ks, h => by simp only [keysC]; exact ⟨h, List.prefix_refl _⟩
  | .ss _, ks, h => by simp only [keysC]; exact ⟨h, List.prefix_refl _⟩
  | .fn _ _ _, ks, h => by simp only [keysC]; exact ⟨h, List.prefix_refl _⟩
  | .ds _ _, ks, h => by simp only [keysC]; exact ⟨h, List.prefix_refl _⟩
theorem keysL_nodup : ∀ (a : List AV) (ks : List Nat), ks.Nodup → (keysL a ks).Nodup ∧ ks <+: keysL a ks
  | [], ks, h => by simp only [keysL]; exact ⟨h, List.prefix_refl _⟩
  | a :: l, ks, h => by
    simp only [keysL]
    obtain ⟨h1, h2⟩ := keysV_nodup a ks h
    obtain ⟨h3, h4⟩ := keysL_nodup l _ h1
    exact ⟨h3, h2.trans h4⟩
end
theorem keysS_nodup : ∀ (a : List Seg) (ks : List Nat), ks.Nodup → (keysS a ks).Nodup ∧ ks <+: keysS a ks
  | [], ks, h => ⟨h, List.prefix_refl _⟩
  | (n, c) :: l, ks, h => by
    simp only [keysS]
    obtain ⟨h1, h2⟩ := keysC_nodup c ks h
    obtain ⟨h3, h4⟩ := keysS_nodup l _ h1
    exact ⟨h3, h2.trans h4⟩
theorem keysB_nodup (a : AB) (ks : List Nat) (h : ks.Nodup) : (keysB a ks).Nodup ∧ ks <+: keysB a ks := by
  cases a with
  | dead => exact ⟨h, List.prefix_refl _⟩
  | bk T s => exact keysS_nodup s ks h
  | row T e c => exact keysC_nodup c ks h
  | mp T kk vs M => exact ⟨h, List.prefix_refl _⟩
  | it k a b c => exact addK_nodup h
theorem gather_sound {me : Mem} {K : List Nat → List AB → Look} {e : Eff} : ∀ (fuel : Nat) (ks : List Nat) (i : Nat) (abs : List AB), ks.Nodup → abs.length = i → (∀ (j : Nat) (ab : AB), abs[j]? = some ab → ∃ k : Nat, ks[j]? = some k ∧ mlook me k = some ab) → i ≤ ks.length →
    (gather fuel ks i abs K).run me = some e → ∃ ks' abs', ks'.Nodup ∧ abs'.length = ks'.length ∧ (∀ (j : Nat) (ab : AB), abs'[j]? = some ab → ∃ k : Nat, ks'[j]? = some k ∧ mlook me k = some ab) ∧ (K ks' abs').run me = some e
  | 0, ks, i, abs, hn, hl, ha, hi, h => by simp [gather, Look.run] at h
  | fuel + 1, ks, i, abs, hn, hl, ha, hi, h => by
    simp only [gather] at h
    split at h
    · rename_i hk
      rw [nth_get] at hk
      have : ks.length ≤ i := by simpa using hk
      exact ⟨ks, abs, hn, by omega, ha, h⟩
    · rename_i k hk
      rw [nth_get] at hk
      obtain ⟨ab, hab, h⟩ := Look.run_look h
      obtain ⟨h1, h2⟩ := keysB_nodup ab ks hn
      have hik := (List.getElem?_eq_some_iff.1 hk).1
      obtain ⟨t, ht⟩ := h2
      refine gather_sound fuel (keysB ab ks) (i + 1) (abs ++ [ab]) h1 (by simp [hl]) (fun j ab' hj => ?_) (by rw [← ht]; simp; omega) h
      by_cases e : j < abs.length
      · rw [List.getElem?_append_left e] at hj
        obtain ⟨k', h3, h4⟩ := ha j ab' hj
        exact ⟨k', by rw [← ht, List.getElem?_append_left (List.getElem?_eq_some_iff.1 h3).1]; exact h3, h4⟩
      · have e1 : j = i := by
          have := (List.getElem?_eq_some_iff.1 hj).1
          simp at this; omega
        subst e1
        rw [List.getElem?_append_right (by omega)] at hj
        simp [hl] at hj
        subst hj
        exact ⟨k, by rw [← ht, List.getElem?_append_left hik]; exact hk, hab⟩
end Go.Vc
set_option linter.unusedVariables false
set_option linter.unusedSimpArgs false
namespace Go.Vc
open Go Go.RowKit
def zipMe : Nat → List AB → Mem
  | _, [] => []
  | i, a :: r => (i, a) :: zipMe (Nat.succ i) r
def ridOf : Nat → List AB → Ren
  | _, [] => []
  | i, _ :: r => (i, some i) :: ridOf (Nat.succ i) r
def upto : Nat → List AB → List Nat
  | _, [] => []
  | i, _ :: r => i :: upto (Nat.succ i) r
abbrev HLaw := List AV → List AB → Option (Prop × List PR × List (Option AB))
/-- what has gone may be told, too -/
def rnABd (f : Nat → Option Nat) : AB → Option AB
  | .dead => some .dead
  | a => rnAB f a
def rnOpts (f : Nat → Option Nat) : List (Option AB) → Option (List (Option AB))
  | [] => some []
  | none :: l => match rnOpts f l with
    | some l' => some (none :: l')
    | none => none
  | some a :: l => match rnABd f a, rnOpts f l with
    | some b, some l' => some (some b :: l')
    | _, _ => none
/-- what has turned, under the caller's names -/
def chg : List Nat → List (Option AB) → Mem
  | k :: ks, some a :: r => (k, a) :: chg ks r
  | _ :: ks, none :: r => chg ks r
  | _, _ => []
def sameLen : List Nat → List AB → List (Option AB) → Bool
  | [], [], [] => true
  | _ :: a, _ :: b, _ :: c => sameLen a b c
  | _, _, _ => false
def mapp : Mem → Mem → Mem
  | [], b => b
  | p :: r, b => p :: mapp r b
def few : Nat → List Nat → Bool
  | _, [] => true
  | 0, _ :: _ => false
  | n + 1, _ :: r => few n r
def isLen : Nat → List Nat → Bool
  | 0, [] => true
  | n + 1, _ :: r => isLen n r
  | _, _ => false
def hSpec (n : Nat) (g : HLaw) : Spec := fun args kb =>
  gather 40 (keysL args []) 0 [] fun ks abs =>
    match rnAL (fun k => idxOf k 0 ks) args, rnABs (fun k => idxOf k 0 ks) abs with
    | some l, some mm => match g l mm with
      | some (c, rs, ch) => match rnPRs (nth ks) rs, rnOpts (nth ks) ch with
        | some rs', some ch' => match Nat.ble (nRows rs') 8, isLen n ks, sameLen ks mm ch' with
          | true, true, true => .ret ⟨c, tupAV (outs kb rs'), mapp (newRows kb rs') (chg ks ch')⟩
          | _, _, _ => .no
        | _, _ => .no
      | none => .no
    | _, _ => .no
def retMH (rid : Ren) (s : AS) : List AV → List PR → List Nat → Prop
  | [], [], _ => True
  | a :: r, .val b :: ps, us => avLeM rid s.me a b ∧ retMH rid s r ps us
  | a :: r, .row T e c :: ps, us => match c.nk true with
    | true => match a with
      | .rw k => match lmem k us with
        | true => False
        | false => match mlook s.me k with
          | some (.row T' e' c') => (Nat.beq T' T = true ∧ Nat.beq e' e = true ∧ acLe rid c' c) ∧ retMH rid s r ps (k :: us)
          | _ => False
      | .nl => acNil c ∧ retMH rid s r ps us
      | .z => acNil c ∧ retMH rid s r ps us
      | _ => False
    | false => False
  | _, _, _ => False
def memM (rid : Ren) (s : AS) : Nat → List AB → List (Option AB) → Prop
  | _, [], [] => True
  | i, a :: r, o :: q => (match o with
    | some .dead => True
    | none => match mlook s.me i with
      | some b => abLe rid b a
      | none => False
    | some a' => match mlook s.me i with
      | some b => abLe rid b a'
      | none => False) ∧ memM rid s (Nat.succ i) r q
  | _, _, _ => False
/-- the names that are not given away -/
def uptoL : Nat → List (Option AB) → List Nat
  | _, [] => []
  | i, some .dead :: r => uptoL (Nat.succ i) r
  | i, _ :: r => i :: uptoL (Nat.succ i) r
def retHOk (F : Fs) (tt : TT) (fr : List ResultVar) (mm : List AB) (rs : List PR) (ch : List (Option AB)) : VX → AS → Prop :=
  endK F tt fr fun l s => retMH (ridOf 0 mm) s l rs (uptoL 0 ch) ∧ memM (ridOf 0 mm) s 0 mm ch

/-! ## Lists -/
theorem zipMe_look : ∀ (l : List AB) (i t : Nat), mlook (zipMe i l) t = if i ≤ t then l[t - i]? else none
  | [], i, t => by simp [zipMe, mlook]
  | a :: r, i, t => by
    simp only [zipMe]
    rw [mlook_cons, zipMe_look r (i + 1) t]
    by_cases e : i = t
    · subst e; simp
    · rw [if_neg e]
      by_cases h : i + 1 ≤ t
      · rw [if_pos h, if_pos (by omega), show t - i = (t - (i + 1)) + 1 by omega]; simp
      · rw [if_neg h, if_neg (by omega)]
theorem rlook_cons (k : Nat) (a : Option Nat) (r : Ren) (t : Nat) : rlook ((k, a) :: r) t = if k = t then some a else rlook r t := by
  simp only [rlook]
  by_cases h : k = t
  · subst h; simp
  · rw [if_neg h]
    split
    · rename_i e; exact absurd (beq_nat e) h
    · rfl
theorem ridOf_look : ∀ (l : List AB) (i t : Nat), rlook (ridOf i l) t = if i ≤ t ∧ t < i + l.length then some (some t) else none
  | [], i, t => by simp [ridOf, rlook]
  | a :: r, i, t => by
    simp only [ridOf]
    rw [rlook_cons, ridOf_look r (i + 1) t]
    by_cases e : i = t
    · subst e; simp
    · rw [if_neg e]
      by_cases h : i + 1 ≤ t ∧ t < i + 1 + r.length
      · rw [if_pos h, if_pos (by simp; omega)]
      · rw [if_neg h, if_neg (by simp; omega)]
theorem upto_mem : ∀ (l : List AB) (i t : Nat), t ∈ upto i l ↔ i ≤ t ∧ t < i + l.length
  | [], i, t => by simp [upto]
  | a :: r, i, t => by
    simp only [upto, List.mem_cons, upto_mem r (i + 1) t, List.length_cons]
    omega
/-- local names for the caller's -/
def ren1 : Nat → List Nat → Ren
  | _, [] => []
  | i, k :: r => (i, some k) :: ren1 (i + 1) r
theorem ren1_look : ∀ (l : List Nat) (i t : Nat), rlook (ren1 i l) t = if i ≤ t then (l[t - i]?).map some else none
  | [], i, t => by simp [ren1, rlook]
  | a :: r, i, t => by
    simp only [ren1]
    rw [rlook_cons, ren1_look r (i + 1) t]
    by_cases e : i = t
    · subst e; simp
    · rw [if_neg e]
      by_cases h : i + 1 ≤ t
      · rw [if_pos h, if_pos (by omega), show t - i = (t - (i + 1)) + 1 by omega]; simp
      · rw [if_neg h, if_neg (by omega)]
/-- and back -/
def ren2 : Nat → List Nat → Ren
  | _, [] => []
  | i, k :: r => (k, some i) :: ren2 (i + 1) r
theorem ren2_look : ∀ (l : List Nat) (i t : Nat), rlook (ren2 i l) t = (idxOf t i l).map some
  | [], i, t => by simp [ren2, rlook, idxOf]
  | a :: r, i, t => by
    simp only [ren2]
    rw [rlook_cons, ren2_look r (i + 1) t]
    simp only [idxOf]
    by_cases e : a = t
    · subst e; simp
    · rw [if_neg e]
      split
      · rename_i h; exact absurd (beq_nat h).symm e
      · rfl
theorem idxOf_get : ∀ (l : List Nat) (i t j : Nat), idxOf t i l = some j → i ≤ j ∧ l[j - i]? = some t
  | [], i, t, j, h => by simp [idxOf] at h
  | a :: r, i, t, j, h => by
    simp only [idxOf] at h
    split at h
    · rename_i e
      have := beq_nat e; subst this
      cases h
      simp
    · obtain ⟨h1, h2⟩ := idxOf_get r (i + 1) t j h
      refine ⟨by omega, ?_⟩
      rw [show j - i = (j - (i + 1)) + 1 by omega]; simpa using h2
theorem idxOf_of : ∀ (l : List Nat) (i t j : Nat), l.Nodup → l[j]? = some t → idxOf t i l = some (i + j)
  | [], i, t, j, _, h => by simp at h
  | a :: r, i, t, j, hn, h => by
    simp only [idxOf]
    cases j with
    | zero => simp only [List.getElem?_cons_zero, Option.some.injEq] at h; subst h; simp
    | succ j =>
      simp only [List.getElem?_cons_succ] at h
      have hne : t ≠ a := fun e => by subst e; exact (List.nodup_cons.1 hn).1 (List.mem_of_getElem? h)
      split
      · rename_i e; exact absurd (beq_nat e) hne
      · rw [idxOf_of r (i + 1) t j (List.nodup_cons.1 hn).2 h]; congr 1; omega
theorem same1 (ks : List Nat) : sameAll (ren1 0 ks) (fun k => idxOf k 0 ks) := by
  intro k j h
  rw [ren1_look]
  have := (idxOf_get ks 0 k j h).2
  simp only [Nat.sub_zero] at this
  simp [this]
theorem same2 {ks : List Nat} (hn : ks.Nodup) : sameAll (ren2 0 ks) (nth ks) := by
  intro k j h
  rw [nth_get] at h
  rw [ren2_look, idxOf_of ks 0 j k hn h]
  simp
theorem rnABs_get {f : Nat → Option Nat} : ∀ {a b : List AB}, rnABs f a = some b → a.length = b.length ∧ ∀ (j : Nat) y, b[j]? = some y → ∃ x, a[j]? = some x ∧ rnAB f x = some y
  | [], b, h => by simp only [rnABs, Option.some.injEq] at h; subst h; simp
  | x :: a, b, h => by
    simp only [rnABs] at h
    split at h
    · rename_i y b' h1 h2
      cases h
      obtain ⟨h3, h4⟩ := rnABs_get h2
      refine ⟨by simp [h3], fun j z hz => ?_⟩
      cases j with
      | zero => simp only [List.getElem?_cons_zero, Option.some.injEq] at hz; subst hz; exact ⟨x, rfl, h1⟩
      | succ j => exact h4 j z (by simpa using hz)
    · cases h
theorem isLen_spec : ∀ {n : Nat} {l : List Nat}, isLen n l = true → l.length = n
  | 0, [], _ => rfl
  | 0, _ :: _, h => by simp [isLen] at h
  | n + 1, [], h => by simp [isLen] at h
  | n + 1, _ :: r, h => by simp [isLen_spec (n := n) (l := r) (by simpa [isLen] using h)]
theorem sameLen_spec : ∀ {a : List Nat} {b : List AB} {c : List (Option AB)}, sameLen a b c = true → b.length = a.length ∧ c.length = a.length
  | [], [], [], _ => ⟨rfl, rfl⟩
  | _ :: a, _ :: b, _ :: c, h => by
    obtain ⟨h1, h2⟩ := sameLen_spec (a := a) (b := b) (c := c) (by simpa [sameLen] using h)
    simp [h1, h2]
  | [], _ :: _, _, h => by simp [sameLen] at h
  | [], [], _ :: _, h => by simp [sameLen] at h
  | _ :: _, [], _, h => by simp [sameLen] at h
  | _ :: _, _ :: _, [], h => by simp [sameLen] at h
theorem rnOpts_get {f : Nat → Option Nat} : ∀ {a b : List (Option AB)}, rnOpts f a = some b → a.length = b.length ∧ ∀ (j : Nat), (b[j]? = some none → a[j]? = some none) ∧ ∀ y, b[j]? = some (some y) → ∃ x, a[j]? = some (some x) ∧ rnABd f x = some y
  | [], b, h => by simp only [rnOpts, Option.some.injEq] at h; subst h; simp
  | none :: a, b, h => by
    simp only [rnOpts] at h
    split at h
    · rename_i b' h2
      cases h
      obtain ⟨h3, h4⟩ := rnOpts_get h2
      refine ⟨by simp [h3], fun j => ?_⟩
      cases j with
      | zero => simp
      | succ j => simpa using h4 j
    · cases h
  | some x :: a, b, h => by
    simp only [rnOpts] at h
    split at h
    · rename_i y b' h1 h2
      cases h
      obtain ⟨h3, h4⟩ := rnOpts_get h2
      refine ⟨by simp [h3], fun j => ?_⟩
      cases j with
      | zero => simp only [List.getElem?_cons_zero, Option.some.injEq, reduceCtorEq, false_implies, true_and]; intro z hz; exact ⟨x, rfl, by rw [h1]; exact congrArg _ hz⟩
      | succ j => simpa using h4 j
    · cases h
theorem chg_look : ∀ (ks : List Nat) (ch : List (Option AB)) (k : Nat), ks.Nodup → ch.length = ks.length → mlook (chg ks ch) k = match idxOf k 0 ks with
    | some j => match ch[j]? with
      | some (some a) => some a
      | _ => none
    | none => none := by
  have key : ∀ (ks : List Nat) (ch : List (Option AB)) (k i : Nat), ks.Nodup → ch.length = ks.length → mlook (chg ks ch) k = match idxOf k i ks with
    | some j => match ch[j - i]? with
      | some (some a) => some a
      | _ => none
    | none => none := by
    intro ks
    induction ks with
    | nil => intro ch k i _ h; cases ch <;> simp [chg, mlook, idxOf]
    | cons t r ih =>
      intro ch k i hn hl
      cases ch with
      | nil => simp at hl
      | cons o q =>
        have hl : q.length = r.length := by simpa using hl
        have hi := ih q k (i + 1) (List.nodup_cons.1 hn).2 hl
        by_cases e : k = t
        · subst e
          have hno : mlook (chg r q) k = none := by
            rw [hi]
            cases hq : idxOf k (i + 1) r with
            | none => rfl
            | some j => exact absurd (List.mem_of_getElem? (idxOf_get r (i + 1) k j hq).2) (List.nodup_cons.1 hn).1
          simp only [idxOf, Nat.beq_refl, Nat.sub_self]
          cases o with
          | none => simpa [chg] using hno
          | some a => simp [chg, mlook_cons]
        · have hidx : idxOf k i (t :: r) = idxOf k (i + 1) r := by
            simp only [idxOf]
            split
            · rename_i h; exact absurd (beq_nat h) e
            · rfl
          rw [hidx]
          have hm : mlook (chg (t :: r) (o :: q)) k = mlook (chg r q) k := by
            cases o with
            | none => rfl
            | some a => simp only [chg]; rw [mlook_cons, if_neg (fun h => e h.symm)]
          rw [hm, hi]
          cases hq : idxOf k (i + 1) r with
          | none => rfl
          | some j =>
            have := (idxOf_get r (i + 1) k j hq).1
            simp only
            rw [show j - i = (j - (i + 1)) + 1 by omega]; simp
  intro ks ch k hn hl
  rw [key ks ch k 0 hn hl]
  cases idxOf k 0 ks <;> simp
theorem uptoL_mem : ∀ {ch : List (Option AB)} {i j : Nat} {o : Option AB}, ch[j]? = some o → o ≠ some .dead → i + j ∈ uptoL i ch
  | [], i, j, o, h, _ => by simp at h
  | x :: ch, i, 0, o, h, hd => by
    simp only [List.getElem?_cons_zero, Option.some.injEq] at h
    subst h
    cases x with
    | none => simp [uptoL]
    | some a => cases a <;> first | exact absurd rfl hd | simp [uptoL]
  | x :: ch, i, j + 1, o, h, hd => by
    have := uptoL_mem (i := i + 1) (j := j) (by simpa using h) hd
    rw [show i + (j + 1) = i + 1 + j by omega]
    cases x with
    | none => simp only [uptoL, List.mem_cons]; exact .inr this
    | some a => cases a <;> simp only [uptoL, List.mem_cons] <;> first | exact this | exact .inr this
theorem memM_get {rid : Ren} {s : AS} : ∀ {i : Nat} {mm : List AB} {ch : List (Option AB)}, memM rid s i mm ch → ∀ (j : Nat) a, mm[j]? = some a → ch[j]? = some (some .dead) ∨ ∃ b, mlook s.me (i + j) = some b ∧ (ch[j]? = some none → abLe rid b a) ∧ ∀ a', ch[j]? = some (some a') → abLe rid b a'
  | i, [], ch, h, j, a, ha => by simp at ha
  | i, x :: mm, [], h, j, a, ha => by simp [memM] at h
  | i, x :: mm, o :: ch, h, j, a, ha => by
    cases j with
    | zero =>
      simp only [List.getElem?_cons_zero, Option.some.injEq] at ha; subst ha
      simp only [memM] at h
      have h0 := h.1
      cases o with
      | none =>
        right
        simp only at h0
        split at h0
        · rename_i b hb
          exact ⟨b, hb, fun _ => h0, fun a' e => by simp at e⟩
        · exact h0.elim
      | some a' =>
        by_cases hd : a' = .dead
        · subst hd; left; rfl
        · right
          split at h0
          · rename_i e; cases e; exact absurd rfl hd
          · rename_i e; cases e
          · rename_i a'' _ e
            cases e
            split at h0
            · rename_i b hb
              exact ⟨b, hb, fun e => by simp at e, fun a2 e => by simp at e; subst e; exact h0⟩
            · exact h0.elim
    | succ j =>
      have := memM_get (by simp only [memM] at h; exact h.2) j a (by simpa using ha)
      rw [show i + (j + 1) = i + 1 + j by omega]
      simpa using this
end Go.Vc
set_option linter.unusedVariables false
set_option linter.unusedSimpArgs false
namespace Go.Vc
open Go Go.RowKit
theorem mputs_mapp : ∀ (a b me : Mem), mputs (mapp a b) me = mputs a (mputs b me)
  | [], b, me => rfl
  | p :: r, b, me => by simp only [mapp, mputs, mputs_mapp r b me]
section
variable {P : Program} {m : Hd} {w : World} {me : Mem} {kb : Nat}
theorem ret_okH {E : Env} {m1 mc : Hd} {w1 : World} {N : AV → Bool} {s : AS} {ps : List PR} {vs : List Value} {rs : List NewRow} {nk : Nat} {us ks : List Nat} {B : Mem} (hb : Base m w me kb) (h3 : StM E s.me nk m1 w1) (hE0 : E.w0 = w)
    (hr : RetR m1 mc w1 true N s ps vs rs us) (hn : nRows ps ≤ 8)
    (hkl : ∀ k ∈ ks, ∃ ab, mlook me k = some ab ∧ ab.live = true) (hWk : ∀ b ∈ E.W, ∃ k ∈ ks, ∃ v, m k = some v ∧ blk v = some b)
    (hWj : ∀ b ∈ E.W, (∃ j v ab, j ∈ us ∧ m1 j = some v ∧ blk v = some b ∧ mlook s.me j = some ab ∧ ab.live = true) ∨ ∃ k v, k ∈ ks ∧ m k = some v ∧ blk v = some b ∧ mlook (mputs B me) k = some .dead)
    (hmc : ∀ k v, mc k = some v → m k = some v) (hmcs : ∀ b, Stable mc w1 b → Stable m w b ∨ (m1.pub b ∧ m.ok b) ∨ (w.heap.size ≤ b ∧ ∀ u v, m1 u = some v → blk v ≠ some b)) (hpbW : ∀ b, m1.pub b → m.pub b ∨ (∃ k v, k ∈ ks ∧ m k = some v ∧ blk v = some b ∧ ∀ ab, mlook (mputs B me) k = some ab → ab.live = true → False) ∨ w.heap.size ≤ b) (hpbm : ∀ b, m.pub b → m1.pub b)
    (hB1 : ∀ t ab, mlook (mputs B me) t = some ab → t ∈ ks → ABR mc w1 t ab) (hB2 : ∀ t, t ∉ ks → mlook (mputs B me) t = mlook me t) :
    ∃ m', OkE m w me kb (tupAV (outs kb ps)) (mapp (newRows kb ps) B) (if h : vs.toArray.size = 1 then vs.toArray[0] else .tuple vs.toArray) m' w1 := by
  have hlen := hr.len
  obtain ⟨hall, hpw⟩ := hr.all
  have hsz : w.heap.size ≤ w1.heap.size := hE0 ▸ h3.fr.size
  have hblk : ∀ b, b < w.heap.size → b ∉ E.W → w1.heap[b]? = w.heap[b]? := fun b h1 h2 => by have := h3.fr.block b (by rw [hE0]; exact h1) h2; rw [hE0] at this; exact this
  have hnew : ∀ r ∈ rs, ∀ b, blk r.2.1 = some b → (w.heap.size ≤ b ∨ ∃ k v, k ∈ ks ∧ m k = some v ∧ blk v = some b ∧ mlook (mputs B me) k = some .dead) ∧ ∃ u ab, r.1 = some u ∧ m1 u = some r.2.1 ∧ mlook s.me u = some ab ∧ ab.live = true := by
    intro r hr b hbk
    rcases (hall r hr).key with ⟨_, ad, h2⟩ | ⟨u, ab, h1, hus, h2, h4, h5⟩
    · rw [h2, blk_slice0] at hbk; cases hbk
    · rcases h3.fr.own u _ b h2 hbk with h6 | h6
      · rw [hE0] at h6; exact ⟨.inl h6, u, ab, h1, h2, h4, h5⟩
      · rcases hWj b h6 with ⟨j, v, ab', k1, k2, k3, k4, k5⟩ | hd
        · exact absurd k3 (h3.mem.apart u j ab ab' _ v b h4 k4 h5 k5 (fun e => hus (e ▸ k1)) h2 k2 hbk)
        · exact ⟨.inr hd, u, ab, h1, h2, h4, h5⟩
  have tr : Tr m w (mNew m kb m1.pub rs) w1 := by
    refine ⟨fun k v hk => ?_, rfl, hpbm, fun b hp => ?_, hsz, fun b hb' hno => hblk b hb' (fun hm => ?_), fun k v b hk hv => ?_, h3.fr.os.trans (by rw [hE0]), h3.fr.tape.trans (by rw [hE0]), h3.fr.output.trans (by rw [hE0])⟩
    · show (if kb ≤ k ∧ k < kb + rs.length then _ else _) = _
      rw [if_neg]
      · exact hk
      · rintro ⟨h1, h2⟩
        rw [hb.fresh k h1 (by omega)] at hk; cases hk
    · rcases hpbW b hp with h | ⟨k, v, _, h1, h2, _⟩ | h
      · exact .inl h
      · exact .inr (.inl ⟨k, v, h1, h2⟩)
      · exact .inr (.inr h)
    · obtain ⟨k, hkk, v, h1, h2⟩ := hWk b hm
      obtain ⟨ab, h3, h4⟩ := hkl k hkk
      exact hno.elim (hb.mem.live k ab v b h3 h4 h1 h2) (fun hno => hno k v h1 h2)
    · rcases mNew_cases hk with ⟨i, r, rfl, hi, rfl⟩ | ⟨_, hk⟩
      · rcases (hnew r (List.mem_of_getElem? hi) b hv).1 with h | ⟨k', v', _, h1, h2, _⟩
        · exact .inr h
        · exact .inl ⟨k', v', h1, h2⟩
      · exact .inl ⟨k, v, hk, hv⟩
  have hpc : Pres mc w1 (mNew m kb m1.pub rs) w1 := by
    refine ⟨fun k v hk => tr.mu k v (hmc k v hk), fun b hs => ⟨rfl, ?_⟩⟩
    rcases hmcs b hs with h | ⟨h, h2⟩ | ⟨h, h2⟩
    · exact (tr.pres.stab b h).2
    · exact ⟨hs.1, h2, .inl h⟩
    · refine ⟨hs.1, hb.mem.okn b h, .inr fun k v hk hv => ?_⟩
      rcases mNew_cases hk with ⟨i, r, rfl, hi, rfl⟩ | ⟨_, hk0⟩
      · obtain ⟨_, u, _, _, k2, _⟩ := hnew r (List.mem_of_getElem? hi) b hv
        exact h2 u _ k2 hv
      · have := hb.bd k v b hk0 hv; omega
  have hml := fun t => mlook_new (me := mputs B me) ps vs rs us m1 _ _ w1 s kb t hr
  have hold : ∀ t ab, mlook (mputs B me) t = some ab → ab.live = true → ∃ ab0, mlook me t = some ab0 ∧ ab0.live = true := by
    intro t ab h1 h2
    by_cases hk : t ∈ ks
    · exact hkl t hk
    · rw [hB2 t hk] at h1; exact ⟨ab, h1, h2⟩
  refine ⟨mNew m kb m1.pub rs, tr, tupAV_sound (outs_sound (fun b v _ h2 => RV_mono hpc b v h2) ps vs rs us kb hr fun i r hi => mNew_in hi), ?_, fun k hk => ?_, fun k v b hk hv => ?_⟩
  · rw [mputs_mapp]
    refine ⟨fun t ab hab => ?_, fun t t' ab ab' v v' b hab hab' hl hl' hne hv hv' hbk => ?_, h3.mem.pubs, fun t ab v b hab hl hv hbk hp => ?_, fun t ab v b hab hl hv hbk => ?_, fun b h => hb.mem.okn b (Nat.le_trans hsz h)⟩
    · rw [hml] at hab
      split at hab
      · rename_i hin
        cases hq : rs[t - kb]? with
        | none => rw [hq] at hab; cases hab
        | some r =>
          rw [hq] at hab; cases hab
          obtain ⟨T, e, c, n, cs, h1, h2, h4, h5⟩ := (hall r (List.mem_of_getElem? hq)).row
          show ABR _ _ _ r.2.2
          rw [h1]
          have := mNew_in (m := m) (kb := kb) (pb := m1.pub) hq
          rw [show kb + (t - kb) = t by omega] at this
          exact ⟨r.2.1, n, cs, this, h4, RC_mono hpc c cs h5⟩
      · by_cases hk : t ∈ ks
        · exact ABR_keep (hB1 t ab hab hk) (fun v hv => tr.mu t v (hmc t v hv)) (fun _ _ _ _ => rfl) hpc
        · rw [hB2 t hk] at hab
          cases hlv : ab.live with
          | false => cases ab with
            | dead => trivial
            | _ => simp [AB.live] at hlv
          | true =>
            refine ABR_keep (hb.mem.at_ t ab hab) (tr.mu t) (fun v b hv hbk => hblk b (hb.bd t v b hv hbk) (fun hm => ?_)) tr.pres
            obtain ⟨k, hkk, v', g1, g2⟩ := hWk b hm
            obtain ⟨ab0, g3, g4⟩ := hkl k hkk
            exact hb.mem.apart t k ab ab0 v v' b hab g3 hlv g4 (fun e => hk (e ▸ hkk)) hv g1 hbk g2
    · rw [hml] at hab hab'
      rcases mNew_cases hv with ⟨i, r, rfl, hi, rfl⟩ | ⟨ho, hv0⟩ <;> rcases mNew_cases hv' with ⟨j, q, rfl, hj, rfl⟩ | ⟨ho', hv0'⟩
      · obtain ⟨_, u, au, k1, k2, k3, k4⟩ := hnew r (List.mem_of_getElem? hi) b hbk
        intro hbq
        obtain ⟨_, u', au', k1', k2', k3', k4'⟩ := hnew q (List.mem_of_getElem? hj) b hbq
        have hij : i ≠ j := fun e => hne (by rw [e])
        have hu : u ≠ u' := by
          rcases Nat.lt_or_gt_of_ne hij with h | h
          · have := List.pairwise_iff_getElem.1 hpw i j (List.getElem?_eq_some_iff.1 hi).1 (List.getElem?_eq_some_iff.1 hj).1 h
            rw [(List.getElem?_eq_some_iff.1 hi).2, (List.getElem?_eq_some_iff.1 hj).2] at this
            intro e; exact this u k1 (by rw [k1', e])
          · have := List.pairwise_iff_getElem.1 hpw j i (List.getElem?_eq_some_iff.1 hj).1 (List.getElem?_eq_some_iff.1 hi).1 h
            rw [(List.getElem?_eq_some_iff.1 hi).2, (List.getElem?_eq_some_iff.1 hj).2] at this
            intro e; exact this u' k1' (by rw [k1, e])
        exact h3.mem.apart u u' au au' _ _ b k3 k3' k4 k4' hu k2 k2' hbk hbq
      · have h1 := (hnew r (List.mem_of_getElem? hi) b hbk).1
        intro hbq
        have h2 := hb.bd t' v' b hv0' hbq
        rcases h1 with h1 | ⟨k, vk, g1, g2, g3, g4⟩
        · omega
        · rw [if_neg ho'] at hab'
          obtain ⟨a0', q1, q2⟩ := hold t' ab' hab' hl'
          obtain ⟨a0, q3, q4⟩ := hkl k g1
          refine hb.mem.apart k t' a0 a0' vk v' b q3 q1 q4 q2 (fun e => ?_) g2 hv0' g3 hbq
          subst e
          rw [g4] at hab'; cases hab'; cases hl'
      · intro hbq
        have h1 := (hnew q (List.mem_of_getElem? hj) b hbq).1
        have h2 := hb.bd t v b hv0 hbk
        rcases h1 with h1 | ⟨k, vk, g1, g2, g3, g4⟩
        · omega
        · rw [if_neg ho] at hab
          obtain ⟨a0', q1, q2⟩ := hold t ab hab hl
          obtain ⟨a0, q3, q4⟩ := hkl k g1
          refine hb.mem.apart k t a0 a0' vk v b q3 q1 q4 q2 (fun e => ?_) g2 hv0 g3 hbk
          subst e
          rw [g4] at hab; cases hab; cases hl
      · rw [if_neg ho] at hab
        rw [if_neg ho'] at hab'
        obtain ⟨a0, g1, g2⟩ := hold t ab hab hl
        obtain ⟨a0', g1', g2'⟩ := hold t' ab' hab' hl'
        exact hb.mem.apart t t' a0 a0' v v' b g1 g1' g2 g2' hne hv0 hv0' hbk
    · rw [hml] at hab
      rcases mNew_cases hv with ⟨i, r, rfl, hi, rfl⟩ | ⟨ho, hv0⟩
      · obtain ⟨_, u, au, k1, k2, k3, k4⟩ := hnew r (List.mem_of_getElem? hi) b hbk
        exact h3.mem.live u au _ b k3 k4 k2 hbk hp
      · rw [if_neg ho] at hab
        obtain ⟨ab0, g1, g2⟩ := hold t ab hab hl
        rcases hpbW b hp with h | ⟨k, vk, q1, q2, q3, q4⟩ | h
        · exact hb.mem.live t ab0 v b g1 g2 hv0 hbk h
        · obtain ⟨a0, p1, p2⟩ := hkl k q1
          by_cases e : k = t
          · subst e; exact q4 ab hab hl
          · exact hb.mem.apart k t a0 ab0 vk v b p1 g1 p2 g2 e q2 hv0 q3 hbk
        · have := hb.bd t v b hv0 hbk; omega
    · rw [hml] at hab
      rcases mNew_cases hv with ⟨i, r, rfl, hi, rfl⟩ | ⟨ho, hv0⟩
      · rcases (hnew r (List.mem_of_getElem? hi) b hbk).1 with h | ⟨k, vk, q1, q2, q3, _⟩
        · exact hb.mem.okn b h
        · obtain ⟨a0, p1, p2⟩ := hkl k q1
          exact hb.mem.okl k a0 vk b p1 p2 q2 q3
      · rw [if_neg ho] at hab
        obtain ⟨ab0, g1, g2⟩ := hold t ab hab hl
        exact hb.mem.okl t ab0 v b g1 g2 hv0 hbk
  · cases hq : (mNew m kb m1.pub rs) k with
    | none => exact absurd hq hk
    | some v =>
      rcases mNew_cases hq with ⟨i, r, rfl, hi, rfl⟩ | ⟨_, hv⟩
      · have := (List.getElem?_eq_some_iff.1 hi).1
        exact .inr ⟨by omega, by omega⟩
      · exact .inl (by rw [hv]; simp)
  · rcases mNew_cases hk with ⟨i, r, rfl, hi, rfl⟩ | ⟨_, hk⟩
    · obtain ⟨_, u, _, _, k2, _⟩ := hnew r (List.mem_of_getElem? hi) b hv
      exact h3.bd u _ b k2 hv
    · exact Nat.lt_of_lt_of_le (hb.bd k v b hk hv) hsz

/-- results under the caller's names -/
theorem retMH_sound {m2 : Hd} {w1 : World} {s : AS} {rid r2 : Ren} {f : Nat → Option Nat} (hf : sameAll r2 f) (hm : MemR m2 w1 s.me) : ∀ (l : List AV) (ps ps' : List PR) (us : List Nat) (vs : List Value), retMH rid s l ps us → rnPRs f ps = some ps' → RVs m2 w1 l vs →
    ∃ rs, RetR m2 (hrens (hrens m2 rid) r2) w1 true (fun _ => true) s ps' vs rs us
  | [], [], ps', us, vs, h, hp, hv => by
    simp only [rnPRs, Option.some.injEq] at hp; subst hp
    simp only [RVs] at hv; subst hv; exact ⟨[], .nil us⟩
  | a :: r, .val b :: ps, ps', us, vs, h, hp, hv => by
    simp only [RVs] at hv
    obtain ⟨v, q, rfl, h1, h2⟩ := hv
    simp only [retMH] at h
    simp only [rnPRs] at hp
    split at hp
    · rename_i b' l' hb hl
      cases hp
      obtain ⟨rs, hr⟩ := retMH_sound hf hm r ps l' us q h.2 hl h2
      obtain ⟨g1, g2⟩ := rn_le hf b b' hb
      have hbu : b ≠ .u := fun e => by subst e; simp [rnAV] at hb
      exact ⟨rs, .val b' v l' q rs us rfl (RV_leG .hrens b b' v g1 g2 (avLeM_soundG .hrens hm h.1 hbu h1)) hr⟩
    · cases hp
  | a :: r, .row T e c :: ps, ps', us, vs, h, hp, hv => by
    simp only [RVs] at hv
    obtain ⟨v, q, rfl, h1, h2⟩ := hv
    simp only [retMH] at h
    simp only [rnPRs] at hp
    split at hp
    · rename_i l' hnn hl
      cases hp
      split at h
      · rename_i hn
        split at h
        · rename_i k
          split at h
          · exact h.elim
          · rename_i hus
            split at h
            · rename_i T' e' c' hl2
              obtain ⟨⟨e1, e2, h3⟩, h4⟩ := h
              have e1 := beq_nat e1; have e2 := beq_nat e2; subst e1; subst e2
              obtain ⟨rs, hr⟩ := retMH_sound hf hm r ps l' (k :: us) q h4 hl h2
              obtain ⟨v', n, cs, g1, g2, g3⟩ := hm.at_ k _ hl2
              simp only [RV, CR] at h1
              obtain ⟨v'', g4, g5, _⟩ := h1
              simp only [List.cons.injEq, and_true] at g5
              subst g5
              rw [g1] at g4; cases g4
              exact ⟨_, .row _ _ c (some k, v, .row T' e' c) l' q rs us (k :: us) rfl ⟨⟨T', e', c, n, cs, rfl, hn, g2, RC_leG .hrens c c cs (nkc_le r2 c hn) (RC_leG .hrens c' c cs h3 g3)⟩, .inr ⟨k, _, rfl, lmem_spec hus, g1, hl2, rfl⟩⟩
                (fun u hu => by cases hu; simp) (fun u hu => by simp [hu]) hr⟩
            · exact h.elim
        · obtain ⟨h3, h4⟩ := h
          obtain ⟨rs, hr⟩ := retMH_sound hf hm r ps l' us q h4 hl h2
          simp only [RV, CR, List.cons.injEq, and_true] at h1
          subst h1
          exact ⟨_, .row T e c (none, .slice none 0 0, .row T e c) l' q rs us us rfl ⟨⟨T, e, c, 0, [], rfl, hn, ⟨by simp, .inl ⟨none, rfl, rfl⟩⟩, acNil_RC h3⟩, .inl ⟨rfl, none, rfl⟩⟩
            (fun u hu => by cases hu) (fun u hu => hu) hr⟩
        · obtain ⟨h3, h4⟩ := h
          obtain ⟨rs, hr⟩ := retMH_sound hf hm r ps l' us q h4 hl h2
          simp only [RV, CR, List.cons.injEq, and_true] at h1
          obtain ⟨ad, h1⟩ := h1
          subst h1
          exact ⟨_, .row T e c (none, .slice ad 0 0, .row T e c) l' q rs us us rfl ⟨⟨T, e, c, 0, [], rfl, hn, ⟨by simp, .inl ⟨ad, rfl, rfl⟩⟩, acNil_RC h3⟩, .inl ⟨rfl, ad, rfl⟩⟩
            (fun u hu => by cases hu) (fun u hu => hu) hr⟩
        · exact h.elim
      · exact h.elim
    · cases hp
  | [], _ :: _, ps', us, vs, h, hp, hv => by simp [retMH] at h
  | _ :: _, [], ps', us, vs, h, hp, hv => by simp [retMH] at h
end
end Go.Vc
set_option linter.unusedVariables false
set_option linter.unusedSimpArgs false
namespace Go.Vc
open Go Go.RowKit
section
variable {P : Program} {m : Hd} {w : World} {me : Mem} {kb : Nat}
theorem ABR_live {k : Nat} {ab : AB} (h : ABR m w k ab) (hl : ab.live = true) : ∃ v, m k = some v := by
  cases ab with
  | dead => simp [AB.live] at hl
  | bk T s => obtain ⟨g, _, _, h1, _⟩ := h; exact ⟨_, h1⟩
  | row T e c => obtain ⟨v, _, _, h1, _⟩ := h; exact ⟨v, h1⟩
  | mp T kk vs M => obtain ⟨r, _, h1, _⟩ := h; exact ⟨_, h1⟩
  | it k a b c => obtain ⟨r, _, h1, _⟩ := h; exact ⟨_, h1⟩
/-- a function that is handed what the caller owns: from the conditions of its code, its contract -/
theorem h_sound {x : Cx} (hx : XOK P x) (hmx : P.follows .mixedOrders = true) {f : Nat} {fn : Func} {body : Code} (hf : P.funcs[f]? = some fn) (hbd : fn.body = some body) (hnt : fn.ntmps = x.nt) (hdr : drawsOk x.tt x.dr body = true)
    {n : Nat} (hn64 : n ≤ 64) (hpin : ∀ j, j < n → j ∈ x.pin) {g : HLaw}
    (h : ∀ l mm c rs ch, g l mm = some (c, rs, ch) → mm.length = n → c → llen l ≤ x.nt ∧ ∃ an cu, vc real x an cu body ⟨zipSl 0 l, zipMe 0 mm, 64⟩ (retHOk real x.tt fn.results.toList mm rs ch)) : SpecOK P f (hSpec n g) := by
  intro m w me kb args vals e hgi hb hv he hc
  unfold hSpec at he
  obtain ⟨ks, abs, hnd, hal, habs, he⟩ := gather_sound 40 (keysL args []) 0 [] (keysL_nodup args [] List.nodup_nil).1 rfl (fun j ab hj => by simp at hj) (Nat.zero_le _) he
  split at he
  · rename_i l mm hl hmm
    split at he
    · rename_i c rs ch hg
      split at he
      · rename_i rs' ch' hrs hch
        split at he
        · rename_i hle hil hsl
          simp only [Look.run, Option.some.injEq] at he
          subst he
          have hkn := isLen_spec hil
          obtain ⟨hml, hcl⟩ := sameLen_spec hsl
          obtain ⟨hlen, an, cu, hvc⟩ := h l mm c rs ch hg (by omega) hc
          rw [llen_eq] at hlen
          obtain ⟨_, hget⟩ := rnABs_get hmm
          obtain ⟨hcl2, hcget⟩ := rnOpts_get hch
          -- the callee's names
          let okS : Nat → Prop := fun b => Stable m w b ∨ w.heap.size ≤ b ∨ ∃ k v, k ∈ ks ∧ m k = some v ∧ blk v = some b
          let mS : Hd := ⟨m.mu, okS, m.pub⟩
          have hpS : Pres m w mS w := ⟨fun _ _ h => h, fun b hb => ⟨rfl, hb.1, .inl hb, hb.2.2⟩⟩
          let m1 : Hd := hren mS (ren1 0 ks)
          have hm1 : ∀ j, m1 j = (match ks[j]? with
            | some k => m k
            | none => none) := by
            intro j
            show (hren mS (ren1 0 ks)) j = _
            rw [hren_apply, ren1_look]
            simp only [Nat.zero_le, if_true, Nat.sub_zero]
            cases hq : ks[j]? with
            | none => rfl
            | some k => rfl
          have hv1 : RVs m1 w l vals := RVs_le args l vals (rnl_le (same1 ks) args l hl) (RVs_mono hpS args vals hv)
          have hent : ∀ (j : Nat) ab, mm[j]? = some ab → ∃ k ab0 v, ks[j]? = some k ∧ mlook me k = some ab0 ∧ rnAB (fun k => idxOf k 0 ks) ab0 = some ab ∧ ab0.live = true ∧ m k = some v := by
            intro j ab hj
            obtain ⟨ab0, h1, h2⟩ := hget j ab hj
            obtain ⟨k, h3, h4⟩ := habs j ab0 h1
            obtain ⟨_, h5, _⟩ := rnb_le (same1 ks) ab0 ab h2
            obtain ⟨v, h6⟩ := ABR_live (hb.mem.at_ k ab0 h4) h5
            exact ⟨k, ab0, v, h3, h4, h2, h5, h6⟩
          have hme : MemR m1 w (zipMe 0 mm) := by
            refine ⟨fun j ab hj => ?_, fun j j' ab ab' v v' b hj hj' _ _ hne hv hv' hbk => ?_, fun b hp => hb.mem.pubs b hp, fun j ab v b hj _ hv hbk => ?_, fun j ab v b hj _ hv hbk => ?_, fun b h => .inr (.inl h)⟩
            · rw [zipMe_look] at hj
              simp only [Nat.zero_le, if_true, Nat.sub_zero] at hj
              obtain ⟨k, ab0, v, h1, h2, h3, h4, h5⟩ := hent j ab hj
              refine ABR_le (r := ren1 0 ks) (k := j) (o := k) (by rw [ren1_look]; simp [h1]) (rnb_le (same1 ks) ab0 ab h3).1 ?_
              exact ABR_keep (hb.mem.at_ k ab0 h2) (fun _ h => h) (fun _ _ _ _ => rfl) hpS
            · rw [zipMe_look] at hj hj'
              simp only [Nat.zero_le, if_true, Nat.sub_zero] at hj hj'
              obtain ⟨k, ab0, v0, h1, h2, h3, h4, h5⟩ := hent j ab hj
              obtain ⟨k', ab0', v0', h1', h2', h3', h4', h5'⟩ := hent j' ab' hj'
              rw [hm1, h1] at hv
              rw [hm1, h1'] at hv'
              refine hb.mem.apart k k' ab0 ab0' v v' b h2 h2' h4 h4' (fun e => ?_) hv hv' hbk
              subst e
              have e1 := idxOf_of ks 0 k j hnd h1
              have e2 := idxOf_of ks 0 k j' hnd h1'
              rw [e1] at e2
              simp at e2
              exact hne e2
            · rw [zipMe_look] at hj
              simp only [Nat.zero_le, if_true, Nat.sub_zero] at hj
              obtain ⟨k, ab0, v0, h1, h2, h3, h4, h5⟩ := hent j ab hj
              rw [hm1, h1] at hv
              exact hb.mem.live k ab0 v b h2 h4 hv hbk
            · rw [zipMe_look] at hj
              simp only [Nat.zero_le, if_true, Nat.sub_zero] at hj
              obtain ⟨k, ab0, v0, h1, h2, h3, h4, h5⟩ := hent j ab hj
              rw [hm1, h1] at hv
              exact .inr (.inr ⟨k, v, List.mem_of_getElem? h1, hv, hbk⟩)
          have hbd1 : Bd m1 w := by
            intro j v b hj hbk
            rw [hm1] at hj
            split at hj
            · exact hb.bd _ v b hj hbk
            · cases hj
          let E : Env := ⟨w, (List.range n).filterMap (fun j => (m1 j).bind blk), okS, none, (List.range n).filterMap fun j => (m1 j).map fun v => (j, v), m.pub⟩
          have hlk : ∀ j, n ≤ j → m1 j = none := by
            intro j hj
            rw [hm1, List.getElem?_eq_none (by omega)]
          have hvl := RVs_length hv1
          have hr : StR E x.nt ⟨zipSl 0 l, zipMe 0 mm, 64⟩ m1 { tmps := vals.toArray ++ Array.replicate (fn.ntmps - vals.toArray.size) undef, defers := [] } w := by
            refine ⟨entry_sl hv1 _, hme, hbd1, fun k hk => hlk k (by have : 64 ≤ k := hk; omega), by simp; omega, rfl, ⟨rfl, rfl, rfl, Nat.le_refl _, rfl, fun _ _ _ => rfl, fun j v b hj hbk => .inr ?_, fun m0 w1 he => (by cases he), fun j v hj => ?_, fun b h _ _ => h, fun b h => h⟩⟩
            · show b ∈ (List.range n).filterMap _
              rw [List.mem_filterMap]
              refine ⟨j, ?_, by rw [hj]; exact hbk⟩
              rw [List.mem_range]
              by_cases h : j < n
              · exact h
              · rw [hlk j (by omega)] at hj; cases hj
            · have hj' : (j, v) ∈ (List.range n).filterMap fun j => (m1 j).map fun v => (j, v) := hj
              rw [List.mem_filterMap] at hj'
              obtain ⟨i, hi0, hi⟩ := hj'
              cases hq : m1 i with
              | none => rw [hq] at hi; cases hi
              | some u => rw [hq] at hi; cases hi; exact hq
          have hE : GE P E := hgi.ge rfl (fun b h => .inl h) (fun b h hb2 => by
            have hb3 : b ∈ (List.range n).filterMap (fun j => (m1 j).bind blk) := hb2
            rw [List.mem_filterMap] at hb3
            obtain ⟨j, hj, hj2⟩ := hb3
            rw [List.mem_range] at hj
            obtain ⟨ab, hab⟩ : ∃ ab, mm[j]? = some ab := ⟨_, List.getElem?_eq_getElem (by omega)⟩
            obtain ⟨k, ab0, v, g1, g2, g3, g4, g5⟩ := hent j ab hab
            have h6 : m1 j = some v := by rw [hm1, g1]; exact g5
            rw [h6] at hj2
            rcases h.2.2 with h7 | h7
            · exact hb.mem.live k ab0 v b g2 g4 g5 hj2 h7
            · exact h7 k v g5 hj2)
          have hpE : ∀ j v, (j, v) ∈ E.pin → j ∈ x.pin := by
            intro j v hj
            have hj' : (j, v) ∈ (List.range n).filterMap fun j => (m1 j).map fun v => (j, v) := hj
            rw [List.mem_filterMap] at hj'
            obtain ⟨i, hi, hi2⟩ := hj'
            rw [List.mem_range] at hi
            cases hq : m1 i with
            | none => rw [hq] at hi2; cases hi2
            | some u => rw [hq] at hi2; cases hi2; exact hpin _ hi
          refine calls_of_wp hf hbd (code_mono (vc_sound hx hE hpE (.inl rfl) hmx body _ _ hdr hvc _ _ w hr) ?_)
          intro en a w' hp
          refine ends_sound hx.tt (fun avs vs s' m2 w2 k1 k2 k3 => ?_) hp
          obtain ⟨k2, kmem⟩ := k2
          obtain ⟨rws, hrr⟩ := retMH_sound (same2 hnd) k3.mem avs rs rs' _ vs k2 hrs k1
          have hpinned : ∀ (j : Nat) v, j < n → m1 j = some v → m2 j = some v := by
            intro j v hj h1
            refine k3.fr.pin j v ?_
            show (j, v) ∈ (List.range n).filterMap _
            rw [List.mem_filterMap]
            exact ⟨j, by rw [List.mem_range]; exact hj, by rw [h1]; rfl⟩
          have hks : ∀ k j, ks[j]? = some k → ∃ ab0 v, mlook me k = some ab0 ∧ ab0.live = true ∧ m k = some v ∧ m1 j = some v ∧ m2 j = some v ∧ j < n := by
            intro k j hj
            have hjn := (List.getElem?_eq_some_iff.1 hj).1
            obtain ⟨ab, hab⟩ : ∃ ab, mm[j]? = some ab := ⟨_, List.getElem?_eq_getElem (by omega)⟩
            obtain ⟨k', ab0, v, h1, h2, _, h4, h5⟩ := hent j ab hab
            rw [hj] at h1; cases h1
            have h6 : m1 j = some v := by rw [hm1, hj]; exact h5
            exact ⟨ab0, v, h2, h4, h5, h6, hpinned j v (by omega) h6, by omega⟩
          have hmc : ∀ k v, (hrens (hrens m2 (ridOf 0 mm)) (ren2 0 ks)) k = some v → ∃ j, ks[j]? = some k ∧ m2 j = some v := by
            intro k v hk
            have hk : (hren (hren m2 (ridOf 0 mm)) (ren2 0 ks)) k = some v := hk
            rw [hren_apply, ren2_look] at hk
            cases hq : idxOf k 0 ks with
            | none => rw [hq] at hk; simp at hk
            | some j =>
              rw [hq] at hk
              simp only [Option.map_some] at hk
              rw [hren_apply, ridOf_look] at hk
              have h1 := (idxOf_get ks 0 k j hq).2
              simp only [Nat.sub_zero] at h1
              have h2 := (List.getElem?_eq_some_iff.1 h1).1
              rw [if_pos ⟨by omega, by omega⟩] at hk
              exact ⟨j, h1, hk⟩
          have hdead : ∀ (j : Nat), ch[j]? = some (some AB.dead) → ch'[j]? = some (some AB.dead) := by
            intro j hq
            cases hq3 : ch'[j]? with
            | none =>
              have h1 := List.getElem?_eq_none_iff.1 hq3
              have h2 := (List.getElem?_eq_some_iff.1 hq).1
              omega
            | some o' => cases o' with
              | none => have := (hcget j).1 hq3; rw [hq] at this; cases this
              | some y =>
                obtain ⟨x', hx1, hx2⟩ := (hcget j).2 y hq3
                rw [hq] at hx1; cases hx1
                simp only [rnABd, Option.some.injEq] at hx2
                rw [hx2]
          refine ⟨_, rfl, ?_⟩
          have hnames : ∀ b, (∃ k v, k ∈ ks ∧ m k = some v ∧ blk v = some b) → ∃ k j v ab0, ks[j]? = some k ∧ m k = some v ∧ blk v = some b ∧ m2 j = some v ∧ mlook me k = some ab0 ∧ ab0.live = true ∧ j < n := by
            rintro b ⟨k, v, hk, h1, h2⟩
            obtain ⟨j, hj⟩ := List.getElem?_of_mem hk
            obtain ⟨ab0, v', q1, q2, q3, q4, q5, q6⟩ := hks k j hj
            rw [q3] at h1; cases h1
            exact ⟨k, j, v, ab0, hj, q3, h2, q5, q1, q2, q6⟩
          have hWn : ∀ b, b ∈ E.W → ∃ k v, k ∈ ks ∧ m k = some v ∧ blk v = some b := by
            intro b hbW
            have hbW' : b ∈ (List.range n).filterMap (fun j => (m1 j).bind blk) := hbW
            rw [List.mem_filterMap] at hbW'
            obtain ⟨j, hj, hj2⟩ := hbW'
            rw [List.mem_range] at hj
            obtain ⟨k, hk⟩ : ∃ k, ks[j]? = some k := ⟨_, List.getElem?_eq_getElem (by omega)⟩
            obtain ⟨ab0, v, h1, h2, h4, h5, _⟩ := hks k j hk
            rw [h5] at hj2
            exact ⟨k, v, List.mem_of_getElem? hk, h4, hj2⟩
          refine ret_okH (ks := ks) (E := E) hb k3 rfl hrr (Nat.le_of_ble_eq_true hle) (fun k hk => ?_) (fun b hbW => ?_) (fun b hbW => ?_) (fun k v hk => ?_) (fun b hs => ?_) (fun b hp => ?_) (fun b hp => k3.fr.pubm b hp) (fun t ab hab htk => ?_) (fun t htk => ?_)
          · obtain ⟨j, hj⟩ := List.getElem?_of_mem hk
            obtain ⟨ab0, v, h1, h2, _⟩ := hks k j hj
            exact ⟨ab0, h1, h2⟩
          · have hbW' : b ∈ (List.range n).filterMap (fun j => (m1 j).bind blk) := hbW
            rw [List.mem_filterMap] at hbW'
            obtain ⟨j, hj, hj2⟩ := hbW'
            rw [List.mem_range] at hj
            obtain ⟨k, hk⟩ : ∃ k, ks[j]? = some k := ⟨_, List.getElem?_eq_getElem (by omega)⟩
            obtain ⟨ab0, v, h1, h2, h4, h5, _⟩ := hks k j hk
            rw [h5] at hj2
            exact ⟨k, List.mem_of_getElem? hk, v, h4, hj2⟩
          · have hbW' : b ∈ (List.range n).filterMap (fun j => (m1 j).bind blk) := hbW
            rw [List.mem_filterMap] at hbW'
            obtain ⟨j, hj, hj2⟩ := hbW'
            rw [List.mem_range] at hj
            obtain ⟨k, hk⟩ : ∃ k, ks[j]? = some k := ⟨_, List.getElem?_eq_getElem (by omega)⟩
            obtain ⟨ab0, v, h1, h2, h4, h5, h6, _⟩ := hks k j hk
            rw [h5] at hj2
            obtain ⟨ab, hab⟩ : ∃ ab, mm[j]? = some ab := ⟨_, List.getElem?_eq_getElem (by omega)⟩
            have hab_live : ab.live = true := by
              obtain ⟨_, ab1, _, _, _, q3, _, _⟩ := hent j ab hab
              exact (rnb_le (same1 ks) ab1 ab q3).2.2
            have right : ch[j]? = some (some AB.dead) → ∃ k v, k ∈ ks ∧ m k = some v ∧ blk v = some b ∧ mlook (mputs (chg ks ch') me) k = some .dead := fun hq => by
              refine ⟨k, v, List.mem_of_getElem? hk, h4, hj2, ?_⟩
              rw [mlook_mputs, chg_look ks ch' k hnd (by omega), idxOf_of ks 0 k j hnd hk, Nat.zero_add]
              simp only [hdead j hq]
            rcases memM_get kmem j ab hab with hdd | ⟨b2, g1, g2, g3⟩
            · exact .inr (right hdd)
            · rw [Nat.zero_add] at g1
              cases hq : ch[j]? with
              | none => have := List.getElem?_eq_none_iff.1 hq; omega
              | some o =>
                cases o with
                | none => exact .inl ⟨j, v, b2, (by have := uptoL_mem (i := 0) hq (by simp); rwa [Nat.zero_add] at this), h6, hj2, g1, abLe_live (g2 hq) hab_live⟩
                | some a' =>
                  by_cases hd : a' = .dead
                  · subst hd; exact .inr (right hq)
                  · have hq2 : ∃ y, ch'[j]? = some (some y) := by
                      cases hq3 : ch'[j]? with
                      | none => have := List.getElem?_eq_none_iff.1 hq3; omega
                      | some o' => cases o' with
                        | none => have := (hcget j).1 hq3; rw [hq] at this; cases this
                        | some y => exact ⟨y, rfl⟩
                    obtain ⟨y, hy⟩ := hq2
                    obtain ⟨x', hx1, hx2⟩ := (hcget j).2 y hy
                    rw [hq] at hx1; cases hx1
                    have hx2 : rnAB (nth ks) a' = some y := by cases a' <;> first | exact absurd rfl hd | exact hx2
                    exact .inl ⟨j, v, b2, (by have := uptoL_mem (i := 0) hq (by simpa using hd); rwa [Nat.zero_add] at this), h6, hj2, g1, abLe_live (g3 a' hq) (rnb_le (same2 hnd) a' y hx2).2.1⟩
          · obtain ⟨j, hj, hj2⟩ := hmc k v hk
            obtain ⟨_, v0, _, _, h4, _, h6, _⟩ := hks k j hj
            rw [h6] at hj2; cases hj2; exact h4
          · have hok2 : m2.ok b ∧ (m2.pub b ∨ ∀ k v, m2 k = some v → blk v ≠ some b) := hs.2.1.1
            have hok3 : okS b := by
              have := hok2.1
              rw [k3.fr.ok] at this
              exact this
            rcases hok2.2 with hp | hno
            · refine .inr (.inl ⟨hp, ?_⟩)
              rcases hok3 with h | h | h
              · exact h.2.1
              · exact hb.mem.okn b h
              · obtain ⟨k, j, v, ab0, _, q2, q3, _, q5, q6, _⟩ := hnames b h
                exact hb.mem.okl k ab0 v b q5 q6 q2 q3
            · rcases hok3 with h | h | h
              · exact .inl h
              · exact .inr (.inr ⟨h, hno⟩)
              · obtain ⟨k, j, v, ab0, _, q2, q3, q4, _⟩ := hnames b h
                exact absurd q3 (hno j v q4)
          · by_cases hsz : b < w.heap.size
            · by_cases hbW : b ∈ E.W
              · obtain ⟨k, j, v, ab0, q1, q2, q3, q4, q5, q6, q7⟩ := hnames b (hWn b hbW)
                refine .inr (.inl ⟨k, v, List.mem_of_getElem? q1, q2, q3, fun ab hab hlv => ?_⟩)
                obtain ⟨al, hal2⟩ : ∃ ab, mm[j]? = some ab := ⟨_, List.getElem?_eq_getElem (by omega)⟩
                have hall : al.live = true := by
                  obtain ⟨_, ab1, _, _, _, p3, _, _⟩ := hent j al hal2
                  exact (rnb_le (same1 ks) ab1 al p3).2.2
                rw [mlook_mputs, chg_look ks ch' k hnd (by omega), idxOf_of ks 0 k j hnd q1, Nat.zero_add] at hab
                simp only at hab
                rcases memM_get kmem j al hal2 with hdd | ⟨b2, g1, g2, g3⟩
                · rw [hdead j hdd] at hab
                  simp only [Option.some.injEq] at hab
                  subst hab; cases hlv
                · rw [Nat.zero_add] at g1
                  have hb2 : b2.live = true := by
                    cases hq : ch[j]? with
                    | none => have := List.getElem?_eq_none_iff.1 hq; omega
                    | some o =>
                      cases o with
                      | none => exact abLe_live (g2 hq) hall
                      | some a' =>
                        by_cases hd : a' = .dead
                        · subst hd
                          rw [hdead j hq] at hab
                          simp only [Option.some.injEq] at hab
                          subst hab; cases hlv
                        · cases hq3 : ch'[j]? with
                          | none => have := List.getElem?_eq_none_iff.1 hq3; omega
                          | some o' => cases o' with
                            | none => have := (hcget j).1 hq3; rw [hq] at this; cases this
                            | some y =>
                              obtain ⟨x', hx1, hx2⟩ := (hcget j).2 y hq3
                              rw [hq] at hx1; cases hx1
                              have hx2 : rnAB (nth ks) a' = some y := by cases a' <;> first | exact absurd rfl hd | exact hx2
                              exact abLe_live (g3 a' hq) (rnb_le (same2 hnd) a' y hx2).2.1
                  exact k3.mem.live j b2 v b g1 hb2 q4 q3 hp
              · exact .inl (k3.fr.pub b hp hsz hbW)
            · exact .inr (.inr (by omega))
          · obtain ⟨j, hj⟩ := List.getElem?_of_mem htk
            obtain ⟨ab0, v, h1, h2, h4, h5, h6, hjn⟩ := hks t j hj
            obtain ⟨al, hal2⟩ : ∃ ab, mm[j]? = some ab := ⟨_, List.getElem?_eq_getElem (by omega)⟩
            rcases memM_get kmem j al hal2 with hdd | ⟨b2, g1, g2, g3⟩
            · rw [mlook_mputs, chg_look ks ch' t hnd (by omega), idxOf_of ks 0 t j hnd hj, Nat.zero_add] at hab
              simp only [hdead j hdd, Option.some.injEq] at hab
              subst hab
              trivial
            rw [Nat.zero_add] at g1
            have hr2 : rlook (ren2 0 ks) t = some (some j) := by rw [ren2_look, idxOf_of ks 0 t j hnd hj]; simp
            have hr3 : rlook (ridOf 0 mm) j = some (some j) := by rw [ridOf_look, if_pos ⟨by omega, by omega⟩]
            have hA := k3.mem.at_ j b2 g1
            rw [mlook_mputs, chg_look ks ch' t hnd (by omega), idxOf_of ks 0 t j hnd hj, Nat.zero_add] at hab
            simp only at hab
            cases hq3 : ch'[j]? with
            | none => have := List.getElem?_eq_none_iff.1 hq3; omega
            | some o' => cases o' with
              | none =>
                rw [hq3] at hab
                simp only at hab
                rw [h1] at hab; cases hab
                have hq := (hcget j).1 hq3
                have hA2 := ABR_leG .hrens hr3 (g2 hq) hA
                obtain ⟨k', ab1, v1, q1, q2, q3, q4, q5⟩ := hent j al hal2
                rw [hj] at q1; cases q1
                rw [h1] at q2; cases q2
                refine ABR_leG .hrens (k := t) (o := j) (ab0 := al) hr2 ?_ hA2
                exact (rnb_ge (fun k j hkj => by rw [ren2_look, hkj]; rfl) ab al q3).1
              | some y =>
                rw [hq3] at hab
                simp only [Option.some.injEq] at hab
                subst hab
                obtain ⟨x', hx1, hx2⟩ := (hcget j).2 y hq3
                have hA2 := ABR_leG .hrens hr3 (g3 x' hx1) hA
                by_cases hd : x' = .dead
                · subst hd
                  simp only [rnABd, Option.some.injEq] at hx2
                  subst hx2
                  trivial
                · have hx2 : rnAB (nth ks) x' = some y := by cases x' <;> first | exact absurd rfl hd | exact hx2
                  exact ABR_leG .hrens hr2 (rnb_le (same2 hnd) x' y hx2).1 hA2
          · rw [mlook_mputs, chg_look ks ch' t hnd (by omega)]
            cases hq : idxOf t 0 ks with
            | none => rfl
            | some j =>
              have := (idxOf_get ks 0 t j hq).2
              exact absurd (List.mem_of_getElem? this) htk
        · exact (Look.run_no he).elim
      · exact (Look.run_no he).elim
    · exact (Look.run_no he).elim
  · exact (Look.run_no he).elim
end
end Go.Vc
set_option linter.unusedVariables false
set_option linter.unusedSimpArgs false
namespace Go.Vc
/-! ## Lists, bytes, words: plain laws -/
theorem fill_zero {α : Type} (zs : List α) (n : Nat) (d : α) : zs.take 0 ++ List.replicate (n - 0) d = List.replicate n d := by simp
theorem fill_full {α : Type} (zs : List α) (n : Nat) (d : α) (h : zs.length = n) : zs.take n ++ List.replicate (n - n) d = zs := by simp [← h]
theorem fill_step {α : Type} (zs : List α) (n i : Nat) (d e x : α) (h : zs.length = n) (hi : i < n) (hx : zs.getD i e = x) : (zs.take i ++ List.replicate (n - i) d).set i x = zs.take (i + 1) ++ List.replicate (n - (i + 1)) d := by
  have h1 : (zs.take i).length = i := by simp; omega
  have h2 : n - i = (n - (i + 1)) + 1 := by omega
  rw [List.set_append_right _ _ (by omega), h1, Nat.sub_self, h2, List.replicate_succ, List.set_cons_zero, List.take_add_one]
  have : zs[i]? = some x := by
    rw [← hx, List.getD_eq_getElem?_getD, List.getElem?_eq_getElem (by omega)]; simp
  rw [this]; simp
theorem fill_len {α : Type} (zs : List α) (n i : Nat) (d : α) (h : zs.length = n) (hi : i ≤ n) : (zs.take i ++ List.replicate (n - i) d).length = n := by simp; omega
theorem zipWith_getD {α β γ : Type} (f : α → β → γ) (xs : List α) (ys : List β) (i : Nat) (a : α) (b : β) (c : γ) (h1 : i < xs.length) (h2 : i < ys.length) : (List.zipWith f xs ys).getD i c = f (xs.getD i a) (ys.getD i b) := by
  simp [List.getD_eq_getElem?_getD, List.getElem?_zipWith, List.getElem?_eq_getElem h1, List.getElem?_eq_getElem h2]
theorem min_if (a b : Nat) : (if (b : Int) < (a : Int) then (b : Int) else (a : Int)).toNat = min a b := by
  split <;> omega
theorem wrap_sm {a : Int} (h1 : -9223372036854775808 ≤ a) (h2 : a ≤ 9223372036854775807) : IntKind.i64.wrap a = a := by
  simp [IntKind.wrap, IntKind.signed, IntKind.bits]
  omega
theorem take_succ_getD {α : Type} (xs : List α) (i : Nat) (d : α) (h : i < xs.length) : xs.take (i + 1) = xs.take i ++ [xs.getD i d] := by
  rw [List.take_add_one]
  have : xs[i]? = some (xs.getD i d) := by rw [List.getD_eq_getElem?_getD, List.getElem?_eq_getElem h]; simp
  rw [this]; rfl
theorem xor_twice : ∀ a b : List UInt8, List.zipWith (· ^^^ ·) (List.zipWith (· ^^^ ·) a b) b = a.take (min a.length b.length)
  | [], b => by simp
  | a :: l, [] => by simp
  | a :: l, b :: r => by
    have := xor_twice l r
    simp only [List.zipWith_cons_cons, this, List.length_cons, Nat.add_min_add_right, List.take_succ_cons, List.cons.injEq, and_true]
    rw [UInt8.xor_assoc, UInt8.xor_self, UInt8.xor_zero]
end Go.Vc
set_option linter.unusedVariables false
set_option linter.unusedSimpArgs false
namespace Go.Vc
open Go Go.RowKit
section
variable {P : Program} {f : Nat}
/-- no contract -/
def noSpec : Spec := fun _ _ => .no
theorem no_ok : SpecOK P f noSpec := by
  intro m w me kb args vals e hgi hb hv he hc
  exact (Look.run_no he).elim
/-- a contract for each form of the first argument: nil; a row that stays; a row of the caller's own; a stretch of one -/
def pick4 (n b r s : Spec) : Spec := fun args kb => match args with
  | .nl :: _ => n args kb
  | .rb _ _ :: _ => b args kb
  | .rw _ :: _ => r args kb
  | .sl _ _ _ _ _ _ :: _ => s args kb
  | _ => .no
theorem pick4_ok {n b r s : Spec} (hn : SpecOK P f n) (hb' : SpecOK P f b) (hr : SpecOK P f r) (hs : SpecOK P f s) : SpecOK P f (pick4 n b r s) := by
  intro m w me kb args vals e hgi hb hv he hc
  unfold pick4 at he
  split at he
  · exact hn m w me kb _ vals e hgi hb hv he hc
  · exact hb' m w me kb _ vals e hgi hb hv he hc
  · exact hr m w me kb _ vals e hgi hb hv he hc
  · exact hs m w me kb _ vals e hgi hb hv he hc
  · exact (Look.run_no he).elim
/-- a whole row of the caller's own, told as a stretch -/
def asSl (F : Fs) (s : Spec) : Spec := fun args kb => match args with
  | .rw k :: r => .look k fun
    | .row _ 1 (.bt xs) => s (.sl k 0 0 1 0 (F.lenB xs) :: r) kb
    | _ => .no
  | _ => .no
end
end Go.Vc
set_option linter.unusedVariables false
set_option linter.unusedSimpArgs false
namespace Go.Vc
open Go Go.RowKit
section
variable {P : Program} {T : Nat}
/-- the value of nought of a shape -/
def Sh.zval (sh : Sh) : Value := match sh.isAgg with
  | true => .agg sh.zc.toArray
  | false => sh.zc.getD 0 .nilFunc
theorem zval_DV (sh : Sh) (h : sh.isAgg = true ∨ sh.zc.length = 1) (m : Hd) (w : World) : DV m w sh sh.zero sh.zval := by
  refine ⟨sh.zc, DR_zero sh, ?_⟩
  unfold Sh.zval
  cases hs : sh.isAgg with
  | true => rfl
  | false =>
    rw [hs] at h
    rcases h with h | h
    · cases h
    · match hz : sh.zc, h with
      | [v], _ => rfl
theorem kk_i {k : Nat} (h : P.underlying k = some (.int .i64)) : KKok P k .i := h
theorem kk_l8 {k n e : Nat} (h : P.underlying k = some (.array n e)) (he : P.underlying e = some (.int .u8)) (hf : facts P e = some (1, 1, some (.int .u8 0))) : KKok P k (.l8 n) := by
  obtain ⟨i, h1, h2, h3, h4⟩ := facts_info hf
  exact ⟨e, i, h, he, h1, h2⟩
theorem ti_map {k e c b : Nat} {kk : KK} {sh : Sh} (hu : P.underlying T = some (.map k e)) (hf : facts P T = some (1, 8, some (.map none))) (hk : KKok P k kk) (he : facts P e = some (c, b, some sh.zval)) (hs : sh.isAgg = true ∨ sh.zc.length = 1) :
    TIok P T ⟨.map k kk e sh, 1, 8, .one .mn, none⟩ := by
  obtain ⟨i, h1, h2, h3, h4⟩ := facts_info he
  exact .one hu rfl ⟨hu, hk, i, _, h1, h4, zval_DV sh hs⟩ hf rfl rfl (fun m w => by simp [CR]) (fun q hq => by cases hq)
end
end Go.Vc
set_option maxRecDepth 100000
namespace Go.Proofs.Ytmldccfchnlpgaa
open Go Go.Vc
/-- the program's types -/
def tt (F : Fs) : TT := [
  (2, ⟨.int .i64, 1, 8, .one (.i 0), some .kI⟩),
  (3, ⟨.int .i64, 1, 8, .one (.i 0), some .kI⟩),
  (4, ⟨.bool, 1, 1, .one (.b false), none⟩),
  (5, ⟨.int .u8, 1, 1, .one (.w8 (F.ofI8 0)), some .kB⟩),
  (9, ⟨.str, 1, 16, .one (.s []), some .kS⟩),
  (22, ⟨.int .u32, 1, 4, .one (.w32 (F.ofI32 0)), some .kW⟩),
  (23, ⟨.arr 32 5, 32, 32, .arr 32 (.bt (F.repB 32)), some (.kD (.l8 32))⟩),
  (24, ⟨.arr 32 5, 32, 32, .arr 32 (.bt (F.repB 32)), some (.kD (.l8 32))⟩),
  (25, ⟨.arr 12 5, 12, 12, .arr 12 (.bt (F.repB 12)), some (.kD (.l8 12))⟩),
  (26, ⟨.arr 12 5, 12, 12, .arr 12 (.bt (F.repB 12)), some (.kD (.l8 12))⟩),
  (27, ⟨.slice 5, 1, 24, .one .nl, none⟩),
  (31, ⟨.arr 64 5, 64, 64, .arr 64 (.bt (F.repB 64)), some (.kD (.l8 64))⟩),
  (35, ⟨.int .u16, 1, 2, .one (.w16 (F.ofI16 0)), some .kH⟩),
  (39, ⟨.int .u64, 1, 8, .one (.w64 (F.ofI64 0)), some .kQ⟩),
  (41, ⟨.ptr 141, 1, 8, .one .pn, none⟩),
  (48, ⟨.slice 27, 1, 24, .one .nl, none⟩),
  (49, ⟨.slice 4, 1, 24, .one .nl, none⟩),
  (51, ⟨.int .i64, 1, 8, .one (.i 0), some .kI⟩),
  (54, ⟨.st [(9, 0, 0), (9, 1, 1)], 2, 32, .st [.one (.s []), .one (.s [])], some (.kD (.t [.s, .s]))⟩),
  (55, ⟨.st [(9, 0, 0), (9, 1, 1)], 2, 32, .st [.one (.s []), .one (.s [])], some (.kD (.t [.s, .s]))⟩),
  (56, ⟨.slice 55, 1, 24, .one .nl, none⟩),
  (58, ⟨.slice 9, 1, 24, .one .nl, none⟩),
  (59, ⟨.slice 22, 1, 24, .one .nl, none⟩),
  (80, ⟨.map 24 (.l8 32) 3 (.i), 1, 8, .one .mn, none⟩),
  (81, ⟨.slice 24, 1, 24, .one .nl, none⟩),
  (88, ⟨.int .u64, 1, 8, .one (.w64 (F.ofI64 0)), some .kQ⟩),
  (89, ⟨.arr 48 5, 48, 48, .arr 48 (.bt (F.repB 48)), some (.kD (.l8 48))⟩),
  (98, ⟨.arr 16 5, 16, 16, .arr 16 (.bt (F.repB 16)), some (.kD (.l8 16))⟩),
  (99, ⟨.arr 16 5, 16, 16, .arr 16 (.bt (F.repB 16)), some (.kD (.l8 16))⟩),
  (107, ⟨.map 26 (.l8 12) 3 (.i), 1, 8, .one .mn, none⟩),
  (111, ⟨.slice 3, 1, 24, .one .nl, none⟩),
  (119, ⟨.slice 35, 1, 24, .one .nl, none⟩),
  (126, ⟨.arr 16 22, 16, 64, .arr 16 (.wd (F.repW 16)), none⟩),
  (127, ⟨.arr 16 22, 16, 64, .arr 16 (.wd (F.repW 16)), none⟩),
  (129, ⟨.arr 4 5, 4, 4, .arr 4 (.bt (F.repB 4)), some (.kD (.l8 4))⟩),
  (132, ⟨.arr 4 3, 4, 32, .arr 4 (.is (F.repI 4)), none⟩),
  (133, ⟨.arr 8 132, 32, 256, .arr 32 (.is (F.repI 32)), none⟩),
  (135, ⟨.arr 8 22, 8, 32, .arr 8 (.wd (F.repW 8)), none⟩),
  (138, ⟨.arr 8 22, 8, 32, .arr 8 (.wd (F.repW 8)), none⟩),
  (140, ⟨.st [(138, 0, 0), (27, 1, 8), (3, 2, 9)], 10, 64, .st [.arr 8 (.wd (F.repW 8)), .one .nl, .one (.i 0)], none⟩),
  (141, ⟨.st [(138, 0, 0), (27, 1, 8), (3, 2, 9)], 10, 64, .st [.arr 8 (.wd (F.repW 8)), .one .nl, .one (.i 0)], none⟩),
  (147, ⟨.ptr 151, 1, 8, .one .pn, none⟩),
  (150, ⟨.st [(27, 0, 0), (4, 1, 1)], 2, 32, .st [.one .nl, .one (.b false)], none⟩),
  (151, ⟨.st [(27, 0, 0), (4, 1, 1)], 2, 32, .st [.one .nl, .one (.b false)], none⟩),
  (161, ⟨.map 3 .i 164 (.t [.l8 32, .i]), 1, 8, .one .mn, none⟩),
  (163, ⟨.st [(23, 0, 0), (3, 1, 32)], 33, 40, .st [.arr 32 (.bt (F.repB 32)), .one (.i 0)], some (.kD (.t [.l8 32, .i]))⟩),
  (164, ⟨.st [(23, 0, 0), (3, 1, 32)], 33, 40, .st [.arr 32 (.bt (F.repB 32)), .one (.i 0)], some (.kD (.t [.l8 32, .i]))⟩),
  (166, ⟨.arr 64 5, 64, 64, .arr 64 (.bt (F.repB 64)), some (.kD (.l8 64))⟩),
  (169, ⟨.arr 48 5, 48, 48, .arr 48 (.bt (F.repB 48)), some (.kD (.l8 48))⟩),
  (170, ⟨.ptr 127, 1, 8, .one .pn, none⟩),
  (172, ⟨.arr 64 22, 64, 256, .arr 64 (.wd (F.repW 64)), none⟩),
  (194, ⟨.ptr 5, 1, 8, .one .pn, none⟩)]
theorem ty2 : TIok Try.prog 2 ⟨.int .i64, 1, 8, .one (.i 0), some .kI⟩ := ti_i64 (by kernel_rfl) (by kernel_rfl)
theorem ty3 : TIok Try.prog 3 ⟨.int .i64, 1, 8, .one (.i 0), some .kI⟩ := ti_i64 (by kernel_rfl) (by kernel_rfl)
theorem ty4 : TIok Try.prog 4 ⟨.bool, 1, 1, .one (.b false), none⟩ := ti_bool (by kernel_rfl) (by kernel_rfl)
theorem ty5 : TIok Try.prog 5 ⟨.int .u8, 1, 1, .one (.w8 (real.ofI8 0)), some .kB⟩ := ti_u8 (by kernel_rfl) (by kernel_rfl)
theorem ty9 : TIok Try.prog 9 ⟨.str, 1, 16, .one (.s []), some .kS⟩ := ti_str (by kernel_rfl) (by kernel_rfl)
theorem ty22 : TIok Try.prog 22 ⟨.int .u32, 1, 4, .one (.w32 (real.ofI32 0)), some .kW⟩ := ti_u32 (by kernel_rfl) (by kernel_rfl)
theorem ty23 : TIok Try.prog 23 ⟨.arr 32 5, 32, 32, .arr 32 (.bt (real.repB 32)), some (.kD (.l8 32))⟩ := ti_arr .kB (some (.l8 32)) (fun _ h => nomatch h) (by kernel_rfl) (by kernel_rfl) ⟨by kernel_rfl, by kernel_rfl, by kernel_rfl⟩
theorem ty24 : TIok Try.prog 24 ⟨.arr 32 5, 32, 32, .arr 32 (.bt (real.repB 32)), some (.kD (.l8 32))⟩ := ti_arr .kB (some (.l8 32)) (fun _ h => nomatch h) (by kernel_rfl) (by kernel_rfl) ⟨by kernel_rfl, by kernel_rfl, by kernel_rfl⟩
theorem ty25 : TIok Try.prog 25 ⟨.arr 12 5, 12, 12, .arr 12 (.bt (real.repB 12)), some (.kD (.l8 12))⟩ := ti_arr .kB (some (.l8 12)) (fun _ h => nomatch h) (by kernel_rfl) (by kernel_rfl) ⟨by kernel_rfl, by kernel_rfl, by kernel_rfl⟩
theorem ty26 : TIok Try.prog 26 ⟨.arr 12 5, 12, 12, .arr 12 (.bt (real.repB 12)), some (.kD (.l8 12))⟩ := ti_arr .kB (some (.l8 12)) (fun _ h => nomatch h) (by kernel_rfl) (by kernel_rfl) ⟨by kernel_rfl, by kernel_rfl, by kernel_rfl⟩
theorem ty27 : TIok Try.prog 27 ⟨.slice 5, 1, 24, .one .nl, none⟩ := ti_slice (by kernel_rfl) (by kernel_rfl)
theorem ty31 : TIok Try.prog 31 ⟨.arr 64 5, 64, 64, .arr 64 (.bt (real.repB 64)), some (.kD (.l8 64))⟩ := ti_arr .kB (some (.l8 64)) (fun _ h => nomatch h) (by kernel_rfl) (by kernel_rfl) ⟨by kernel_rfl, by kernel_rfl, by kernel_rfl⟩
theorem ty35 : TIok Try.prog 35 ⟨.int .u16, 1, 2, .one (.w16 (real.ofI16 0)), some .kH⟩ := ti_u16 (by kernel_rfl) (by kernel_rfl)
theorem ty39 : TIok Try.prog 39 ⟨.int .u64, 1, 8, .one (.w64 (real.ofI64 0)), some .kQ⟩ := ti_u64 (by kernel_rfl) (by kernel_rfl)
theorem ty41 : TIok Try.prog 41 ⟨.ptr 141, 1, 8, .one .pn, none⟩ := ti_ptr (by kernel_rfl) (by kernel_rfl)
theorem ty48 : TIok Try.prog 48 ⟨.slice 27, 1, 24, .one .nl, none⟩ := ti_slice (by kernel_rfl) (by kernel_rfl)
theorem ty49 : TIok Try.prog 49 ⟨.slice 4, 1, 24, .one .nl, none⟩ := ti_slice (by kernel_rfl) (by kernel_rfl)
theorem ty51 : TIok Try.prog 51 ⟨.int .i64, 1, 8, .one (.i 0), some .kI⟩ := ti_i64 (by kernel_rfl) (by kernel_rfl)
theorem ty54 : TIok Try.prog 54 ⟨.st [(9, 0, 0), (9, 1, 1)], 2, 32, .st [.one (.s []), .one (.s [])], some (.kD (.t [.s, .s]))⟩ := ti_stK (some (.t [.s, .s])) (by kernel_rfl) (by kernel_rfl) (by kernel_rfl) (by kernel_rfl) (by kernel_rfl) (by kernel_rfl) (by kernel_rfl) (by kernel_rfl) (by kernel_rfl) ⟨by kernel_rfl, by kernel_rfl, by kernel_rfl⟩
theorem ty55 : TIok Try.prog 55 ⟨.st [(9, 0, 0), (9, 1, 1)], 2, 32, .st [.one (.s []), .one (.s [])], some (.kD (.t [.s, .s]))⟩ := ti_stK (some (.t [.s, .s])) (by kernel_rfl) (by kernel_rfl) (by kernel_rfl) (by kernel_rfl) (by kernel_rfl) (by kernel_rfl) (by kernel_rfl) (by kernel_rfl) (by kernel_rfl) ⟨by kernel_rfl, by kernel_rfl, by kernel_rfl⟩
theorem ty56 : TIok Try.prog 56 ⟨.slice 55, 1, 24, .one .nl, none⟩ := ti_slice (by kernel_rfl) (by kernel_rfl)
theorem ty58 : TIok Try.prog 58 ⟨.slice 9, 1, 24, .one .nl, none⟩ := ti_slice (by kernel_rfl) (by kernel_rfl)
theorem ty59 : TIok Try.prog 59 ⟨.slice 22, 1, 24, .one .nl, none⟩ := ti_slice (by kernel_rfl) (by kernel_rfl)
theorem ty80 : TIok Try.prog 80 ⟨.map 24 (.l8 32) 3 (.i), 1, 8, .one .mn, none⟩ := ti_map (c := 1) (b := 8) (by kernel_rfl) (by kernel_rfl) (kk_l8 (e := 5) (by kernel_rfl) (by kernel_rfl) (by kernel_rfl)) (by kernel_rfl) (.inr rfl)
theorem ty81 : TIok Try.prog 81 ⟨.slice 24, 1, 24, .one .nl, none⟩ := ti_slice (by kernel_rfl) (by kernel_rfl)
theorem ty88 : TIok Try.prog 88 ⟨.int .u64, 1, 8, .one (.w64 (real.ofI64 0)), some .kQ⟩ := ti_u64 (by kernel_rfl) (by kernel_rfl)
theorem ty89 : TIok Try.prog 89 ⟨.arr 48 5, 48, 48, .arr 48 (.bt (real.repB 48)), some (.kD (.l8 48))⟩ := ti_arr .kB (some (.l8 48)) (fun _ h => nomatch h) (by kernel_rfl) (by kernel_rfl) ⟨by kernel_rfl, by kernel_rfl, by kernel_rfl⟩
theorem ty98 : TIok Try.prog 98 ⟨.arr 16 5, 16, 16, .arr 16 (.bt (real.repB 16)), some (.kD (.l8 16))⟩ := ti_arr .kB (some (.l8 16)) (fun _ h => nomatch h) (by kernel_rfl) (by kernel_rfl) ⟨by kernel_rfl, by kernel_rfl, by kernel_rfl⟩
theorem ty99 : TIok Try.prog 99 ⟨.arr 16 5, 16, 16, .arr 16 (.bt (real.repB 16)), some (.kD (.l8 16))⟩ := ti_arr .kB (some (.l8 16)) (fun _ h => nomatch h) (by kernel_rfl) (by kernel_rfl) ⟨by kernel_rfl, by kernel_rfl, by kernel_rfl⟩
theorem ty107 : TIok Try.prog 107 ⟨.map 26 (.l8 12) 3 (.i), 1, 8, .one .mn, none⟩ := ti_map (c := 1) (b := 8) (by kernel_rfl) (by kernel_rfl) (kk_l8 (e := 5) (by kernel_rfl) (by kernel_rfl) (by kernel_rfl)) (by kernel_rfl) (.inr rfl)
theorem ty111 : TIok Try.prog 111 ⟨.slice 3, 1, 24, .one .nl, none⟩ := ti_slice (by kernel_rfl) (by kernel_rfl)
theorem ty119 : TIok Try.prog 119 ⟨.slice 35, 1, 24, .one .nl, none⟩ := ti_slice (by kernel_rfl) (by kernel_rfl)
theorem ty126 : TIok Try.prog 126 ⟨.arr 16 22, 16, 64, .arr 16 (.wd (real.repW 16)), none⟩ := ti_arr .kW none (fun _ h => nomatch h) (by kernel_rfl) (by kernel_rfl) trivial
theorem ty127 : TIok Try.prog 127 ⟨.arr 16 22, 16, 64, .arr 16 (.wd (real.repW 16)), none⟩ := ti_arr .kW none (fun _ h => nomatch h) (by kernel_rfl) (by kernel_rfl) trivial
theorem ty129 : TIok Try.prog 129 ⟨.arr 4 5, 4, 4, .arr 4 (.bt (real.repB 4)), some (.kD (.l8 4))⟩ := ti_arr .kB (some (.l8 4)) (fun _ h => nomatch h) (by kernel_rfl) (by kernel_rfl) ⟨by kernel_rfl, by kernel_rfl, by kernel_rfl⟩
theorem ty132 : TIok Try.prog 132 ⟨.arr 4 3, 4, 32, .arr 4 (.is (real.repI 4)), none⟩ := ti_arr .kI none (fun _ h => nomatch h) (by kernel_rfl) (by kernel_rfl) trivial
theorem ty133 : TIok Try.prog 133 ⟨.arr 8 132, 32, 256, .arr 32 (.is (real.repI 32)), none⟩ := ti_arr .kI none (fun _ h => nomatch h) (by kernel_rfl) (by kernel_rfl) trivial
theorem ty135 : TIok Try.prog 135 ⟨.arr 8 22, 8, 32, .arr 8 (.wd (real.repW 8)), none⟩ := ti_arr .kW none (fun _ h => nomatch h) (by kernel_rfl) (by kernel_rfl) trivial
theorem ty138 : TIok Try.prog 138 ⟨.arr 8 22, 8, 32, .arr 8 (.wd (real.repW 8)), none⟩ := ti_arr .kW none (fun _ h => nomatch h) (by kernel_rfl) (by kernel_rfl) trivial
theorem ty140 : TIok Try.prog 140 ⟨.st [(138, 0, 0), (27, 1, 8), (3, 2, 9)], 10, 64, .st [.arr 8 (.wd (real.repW 8)), .one .nl, .one (.i 0)], none⟩ := ti_stK none (by kernel_rfl) (by kernel_rfl) (by kernel_rfl) (by kernel_rfl) (by kernel_rfl) (by kernel_rfl) (by kernel_rfl) (by kernel_rfl) (by kernel_rfl) trivial
theorem ty141 : TIok Try.prog 141 ⟨.st [(138, 0, 0), (27, 1, 8), (3, 2, 9)], 10, 64, .st [.arr 8 (.wd (real.repW 8)), .one .nl, .one (.i 0)], none⟩ := ti_stK none (by kernel_rfl) (by kernel_rfl) (by kernel_rfl) (by kernel_rfl) (by kernel_rfl) (by kernel_rfl) (by kernel_rfl) (by kernel_rfl) (by kernel_rfl) trivial
theorem ty147 : TIok Try.prog 147 ⟨.ptr 151, 1, 8, .one .pn, none⟩ := ti_ptr (by kernel_rfl) (by kernel_rfl)
theorem ty150 : TIok Try.prog 150 ⟨.st [(27, 0, 0), (4, 1, 1)], 2, 32, .st [.one .nl, .one (.b false)], none⟩ := ti_stK none (by kernel_rfl) (by kernel_rfl) (by kernel_rfl) (by kernel_rfl) (by kernel_rfl) (by kernel_rfl) (by kernel_rfl) (by kernel_rfl) (by kernel_rfl) trivial
theorem ty151 : TIok Try.prog 151 ⟨.st [(27, 0, 0), (4, 1, 1)], 2, 32, .st [.one .nl, .one (.b false)], none⟩ := ti_stK none (by kernel_rfl) (by kernel_rfl) (by kernel_rfl) (by kernel_rfl) (by kernel_rfl) (by kernel_rfl) (by kernel_rfl) (by kernel_rfl) (by kernel_rfl) trivial
theorem ty161 : TIok Try.prog 161 ⟨.map 3 .i 164 (.t [.l8 32, .i]), 1, 8, .one .mn, none⟩ := ti_map (c := 33) (b := 40) (by kernel_rfl) (by kernel_rfl) (kk_i (by kernel_rfl)) (by kernel_rfl) (.inl rfl)
theorem ty163 : TIok Try.prog 163 ⟨.st [(23, 0, 0), (3, 1, 32)], 33, 40, .st [.arr 32 (.bt (real.repB 32)), .one (.i 0)], some (.kD (.t [.l8 32, .i]))⟩ := ti_stK (some (.t [.l8 32, .i])) (by kernel_rfl) (by kernel_rfl) (by kernel_rfl) (by kernel_rfl) (by kernel_rfl) (by kernel_rfl) (by kernel_rfl) (by kernel_rfl) (by kernel_rfl) ⟨by kernel_rfl, by kernel_rfl, by kernel_rfl⟩
theorem ty164 : TIok Try.prog 164 ⟨.st [(23, 0, 0), (3, 1, 32)], 33, 40, .st [.arr 32 (.bt (real.repB 32)), .one (.i 0)], some (.kD (.t [.l8 32, .i]))⟩ := ti_stK (some (.t [.l8 32, .i])) (by kernel_rfl) (by kernel_rfl) (by kernel_rfl) (by kernel_rfl) (by kernel_rfl) (by kernel_rfl) (by kernel_rfl) (by kernel_rfl) (by kernel_rfl) ⟨by kernel_rfl, by kernel_rfl, by kernel_rfl⟩
theorem ty166 : TIok Try.prog 166 ⟨.arr 64 5, 64, 64, .arr 64 (.bt (real.repB 64)), some (.kD (.l8 64))⟩ := ti_arr .kB (some (.l8 64)) (fun _ h => nomatch h) (by kernel_rfl) (by kernel_rfl) ⟨by kernel_rfl, by kernel_rfl, by kernel_rfl⟩
theorem ty169 : TIok Try.prog 169 ⟨.arr 48 5, 48, 48, .arr 48 (.bt (real.repB 48)), some (.kD (.l8 48))⟩ := ti_arr .kB (some (.l8 48)) (fun _ h => nomatch h) (by kernel_rfl) (by kernel_rfl) ⟨by kernel_rfl, by kernel_rfl, by kernel_rfl⟩
theorem ty170 : TIok Try.prog 170 ⟨.ptr 127, 1, 8, .one .pn, none⟩ := ti_ptr (by kernel_rfl) (by kernel_rfl)
theorem ty172 : TIok Try.prog 172 ⟨.arr 64 22, 64, 256, .arr 64 (.wd (real.repW 64)), none⟩ := ti_arr .kW none (fun _ h => nomatch h) (by kernel_rfl) (by kernel_rfl) trivial
theorem ty194 : TIok Try.prog 194 ⟨.ptr 5, 1, 8, .one .pn, none⟩ := ti_ptr (by kernel_rfl) (by kernel_rfl)
theorem tt_ok : TTok Try.prog (tt real) :=
  ttok_cons ty2 (ttok_cons ty3 (ttok_cons ty4 (ttok_cons ty5 (ttok_cons ty9 (ttok_cons ty22 (ttok_cons ty23 (ttok_cons ty24 (ttok_cons ty25 (ttok_cons ty26 (ttok_cons ty27 (ttok_cons ty31 (ttok_cons ty35 (ttok_cons ty39 (ttok_cons ty41 (ttok_cons ty48 (ttok_cons ty49 (ttok_cons ty51 (ttok_cons ty54 (ttok_cons ty55 (ttok_cons ty56 (ttok_cons ty58 (ttok_cons ty59 (ttok_cons ty80 (ttok_cons ty81 (ttok_cons ty88 (ttok_cons ty89 (ttok_cons ty98 (ttok_cons ty99 (ttok_cons ty107 (ttok_cons ty111 (ttok_cons ty119 (ttok_cons ty126 (ttok_cons ty127 (ttok_cons ty129 (ttok_cons ty132 (ttok_cons ty133 (ttok_cons ty135 (ttok_cons ty138 (ttok_cons ty140 (ttok_cons ty141 (ttok_cons ty147 (ttok_cons ty150 (ttok_cons ty151 (ttok_cons ty161 (ttok_cons ty163 (ttok_cons ty164 (ttok_cons ty166 (ttok_cons ty169 (ttok_cons ty170 (ttok_cons ty172 (ttok_cons ty194 ttok_nil)))))))))))))))))))))))))))))))))))))))))))))))))))
end Go.Proofs.Ytmldccfchnlpgaa
set_option linter.unusedVariables false
set_option linter.unusedSimpArgs false
set_option maxRecDepth 100000
set_option maxHeartbeats 4000000
namespace Go.Proofs.Ytmldccfchnlpgaa
open Go Go.Vc
/-- the program's plain functions, behind one name -/
structure Us where
  rl : UInt32 → Int → UInt32
  rr : UInt32 → Int → UInt32
  wid : Int → Int
  four : List UInt8 → List UInt8
  big : List UInt8 → UInt32
  little : List UInt8 → UInt32
  gv : List UInt8 → UInt64
  putBig : UInt32 → List UInt8
  xor : List UInt8 → List UInt8 → List UInt8
  xorP : List UInt8 → List UInt8 → Nat → List UInt8
  mn : List UInt8 → List UInt8 → Nat
  putK : UInt64 → Nat → List UInt8
  put : UInt64 → Int → List UInt8
  pred : Nat → Int
  putLittle : UInt32 → List UInt8
  text : List UInt8 → List UInt8
  bigP : List UInt8 → Nat → UInt32
  litP : List UInt8 → Nat → UInt32
  gtN : List UInt8 → Nat
  gtE : List UInt8 → Int → Int
  gtA : List UInt8 → Int → Nat
  gtS : List UInt8 → Int → List UInt8
  pI : Int → Prop
  getOk : List UInt8 → Int → Bool
  qa : UInt32 → UInt32 → UInt32 → UInt32 → UInt32
  qb : UInt32 → UInt32 → UInt32 → UInt32 → UInt32
  qc : UInt32 → UInt32 → UInt32 → UInt32 → UInt32
  qd : UInt32 → UInt32 → UInt32 → UInt32 → UInt32
  qr : List UInt32 → Nat → Nat → Nat → Nat → List UInt32
  is16 : List UInt32 → Prop
  colP : List UInt32 → Nat → List UInt32
  diagP : List UInt32 → Nat → List UInt32
  rndP : List UInt32 → Nat → List UInt32
  isL : List UInt8 → Nat → Prop
  kwP : List UInt8 → Nat → List UInt32
  cw : List UInt8 → UInt32 → List UInt32
  nwP : List UInt8 → List UInt8 → UInt32 → Nat → List UInt32
  outP : List UInt32 → List UInt32 → Nat → List UInt8
  block : List UInt8 → List UInt8 → UInt32 → List UInt8
  sx : List UInt8 → List UInt8 → UInt32 → List UInt8 → List UInt8
  cnt : UInt32 → Nat → UInt32
  upto : Nat → List UInt8
  rowsP : List UInt64 → List UInt8 → Nat → List UInt8
  cm : UInt8 → Nat
  zeros : Nat → List UInt8
  bk : UInt32 → UInt64 → UInt32
  getV : List UInt8 → Int → UInt64
  getA : List UInt8 → Int → Nat
  getE : List UInt8 → Int → Int
  rows : Nat → List Int
  r4P : List UInt32 → Nat → List UInt32
  o4 : List UInt32 → List UInt32 → Nat → List UInt8
  kc : List UInt32
  sched : List UInt8 → Nat → List UInt32
  rnds : List UInt32 → List UInt32 → Nat → List UInt32
  add : List UInt32 → List UInt32 → Nat → List UInt32
  next : List UInt32 → List UInt8 → List UInt32
  blks : List UInt32 → List UInt8 → Nat → List UInt32
  first : List UInt32
  ws : List UInt32 → List UInt8 → List UInt8 → List UInt32
  wr : List UInt8 → List UInt8 → List UInt8
  padZ : List UInt8 → Nat
  padP : List UInt8 → Nat → List UInt8
  pad : List UInt8 → Int → List UInt8
  outB : List UInt32 → Nat → List UInt8
  outF : List UInt32 → Nat → List UInt8
  fin : List UInt32 → List UInt8 → Int → List UInt8
  sum : List UInt8 → List UInt8
  hexP : List UInt8 → Nat → List UInt8
  hex : List UInt8 → List UInt8
  isW : List UInt32 → Nat → Prop
  nblk : List UInt8 → Nat
  chn : List UInt8 → Nat → List UInt8
  mid : List UInt8 → Nat → Nat → List UInt8
  nsz : List D → Nat → Int
  isKey : List UInt8 → Bool
  okP : List D → Nat → Bool
  okN : List D → Nat → Bool
  leafE : List D → Int
  leafP : List D → Nat → List UInt8
  leafB : List D → List UInt8
  okQ : List (List UInt8) → Nat → Bool
  okK : List (List UInt8) → Nat → Bool
  bsz : List (List UInt8) → Nat → Int
  brE : List (List UInt8) → List UInt32 → Int
  brP : List (List UInt8) → Nat → List UInt8
  brR : List (List UInt8) → List UInt32 → Nat → List UInt8
  brQ : List (List UInt8) → List UInt32 → Nat → List UInt8
  brB : List (List UInt8) → List UInt32 → List UInt8
  kind : List UInt8 → Int
  rlR : List UInt8 → Nat → List UInt8
  rlD : List UInt8 → Nat → Bool
  rlL : List UInt8 → Nat → List D
  rkR : List UInt8 → Nat → List UInt8
  rkD : List UInt8 → Nat → Bool
  rkL : List UInt8 → Nat → List (List UInt8)
  rqR : List UInt8 → Nat → Nat → List UInt8
  rqD : List UInt8 → Nat → Nat → Bool
  rqL : List UInt8 → Nat → Nat → List UInt32
  rlB : List UInt8 → List D
  rlE : List UInt8 → Int
  rbK : List UInt8 → List (List UInt8)
  rbQ : List UInt8 → List UInt32
  rbE : List UInt8 → Int
  prs : List D → List D → Bool
  sam : List (List UInt8) → List UInt32 → List (List UInt8) → List UInt32 → Bool
  keysOf : List D → Nat → List (List UInt8)
  mpad : List UInt8 → UInt8 → List UInt8
  mpadP : List UInt8 → UInt8 → Nat → List UInt8
  mac : List UInt8 → List UInt8 → List UInt8
  mxL : List UInt8 → List UInt8 → Nat → List UInt8
  mxO : List UInt8 → List UInt8 → Nat → List UInt8
  mx : List UInt8 → List UInt8 → Int → List UInt8
  mdv : List UInt8 → List UInt8 → UInt32 → List UInt8
  chM : List UInt8 → Nat → MD
  chN : List UInt8 → Nat
  chB : List UInt8 → Nat → List UInt8
  chL : List UInt8 → Nat → Int
  meq : List UInt8 → List UInt8 → Bool
  meqP : List UInt8 → List UInt8 → Nat → Bool
  apL : List UInt8 → List (List UInt8) → List UInt32 → Nat → List D
  apM : List UInt8 → List (List UInt8) → List UInt32 → Nat → MD
  find : List UInt8 → List UInt8 → Int
  noh : List UInt8 → List UInt8 → Nat → Bool
  plN : List UInt8 → List UInt8 → Nat → Nat → Bool
  plK : List UInt8 → Int → Nat
  plain : List UInt8 → List UInt8 → Int → Bool
  wrI : List UInt8 → List UInt8 → UInt32 → Nat → Nat → Bool
  wrO : List UInt8 → List UInt8 → UInt32 → Nat → Nat → Bool
  wrE : List UInt8 → List UInt8 → UInt32 → Nat → Bool
  wrK : List UInt8 → List UInt8 → UInt32 → Nat → List UInt8
  wm : UInt64 → Nat
  cut48 : List UInt8 → Nat → List UInt8
  sec : List UInt8 → Nat → List UInt8
  scn : List UInt8 → Nat → Int
  smL : List UInt8 → List UInt8 → Nat → List Int
  smN : List UInt8 → List UInt8 → Nat
  ia : Nat → Nat → List UInt8
  ib : List UInt8 → List UInt16 → UInt8 → Nat → List UInt8
  ih : List UInt8 → List UInt16 → Nat → List D
  nonce : UInt32 → UInt64 → List UInt8
  tag : List UInt8 → List UInt8 → List UInt8 → List UInt8 → List UInt8
  enc : List UInt8 → List UInt8 → List UInt8 → List UInt8
  sel : List UInt8 → List UInt8 → List UInt8 → List UInt8 → List UInt8
  opE : List UInt8 → List UInt8 → List UInt8 → List UInt8 → Int
  opB : List UInt8 → List UInt8 → List UInt8 → List UInt8 → List UInt8
  wrp : List UInt8 → UInt32 → UInt64 → List UInt8 → List UInt8
  uwE : List UInt8 → UInt32 → UInt64 → List UInt8 → Int
  uwK : List UInt8 → UInt32 → UInt64 → List UInt8 → List UInt8
/-- a number's bytes, the highest first -/
def putK (x : UInt64) : Nat → List UInt8
  | 0 => []
  | k + 1 => UInt8.ofNat (x.toNat / 2 ^ (8 * k)) :: putK x k
def bigP (xs : List UInt8) : Nat → UInt32
  | 0 => 0
  | i + 1 => if i < xs.length then bigP xs i <<< 8 ||| UInt32.ofNat (xs.getD i 0).toNat else bigP xs i <<< 8
def litP (xs : List UInt8) : Nat → UInt32
  | 0 => 0
  | i + 1 => if i < xs.length then litP xs i ||| UInt32.ofNat (xs.getD i 0).toNat <<< UInt32.ofNat (8 * i) else litP xs i
def four (xs : List UInt8) : List UInt8 := (xs ++ [0, 0, 0, 0]).take 4
def u_getOk : List UInt8 → Int → Bool := fun xs n => decide ((min (max n 0) 8).toNat ≤ xs.length)
def u_getV : List UInt8 → Int → UInt64 := fun xs n => if (min (max n 0) 8).toNat ≤ xs.length then (xs.take (min (max n 0) 8).toNat).foldl (fun n c => n <<< 8 ||| UInt64.ofNat c.toNat) 0 else 0
def u_getA : List UInt8 → Int → Nat := fun xs n => if (min (max n 0) 8).toNat ≤ xs.length then (min (max n 0) 8).toNat else 0
def u_getE : List UInt8 → Int → Int := fun xs n => if (min (max n 0) 8).toNat ≤ xs.length then 0 else 10
def u_gtN : List UInt8 → Nat := fun xs => (xs.getD 0 0).toNat * 256 + (xs.getD 1 0).toNat
def u_gtE : List UInt8 → Int → Int := fun xs m => if xs.length < 2 then 10 else if m < ((xs.getD 0 0).toNat * 256 + (xs.getD 1 0).toNat : Nat) then 11 else if xs.length < 2 + ((xs.getD 0 0).toNat * 256 + (xs.getD 1 0).toNat) then 10 else 0
def u_gtA : List UInt8 → Int → Nat := fun xs m => if xs.length < 2 ∨ m < ((xs.getD 0 0).toNat * 256 + (xs.getD 1 0).toNat : Nat) ∨ xs.length < 2 + ((xs.getD 0 0).toNat * 256 + (xs.getD 1 0).toNat) then 0 else 2 + ((xs.getD 0 0).toNat * 256 + (xs.getD 1 0).toNat)
def u_gtS : List UInt8 → Int → List UInt8 := fun xs m => if xs.length < 2 ∨ m < ((xs.getD 0 0).toNat * 256 + (xs.getD 1 0).toNat : Nat) ∨ xs.length < 2 + ((xs.getD 0 0).toNat * 256 + (xs.getD 1 0).toNat) then [] else (xs.drop 2).take ((xs.getD 0 0).toNat * 256 + (xs.getD 1 0).toNat)
def u_pI (m : Int) : Prop := -9223372036854775808 ≤ m ∧ m ≤ 9223372036854775807
def u_big : List UInt8 → UInt32 := fun xs => (UInt32.ofNat ((four xs).getD 0 0).toNat <<< 24 ||| UInt32.ofNat ((four xs).getD 1 0).toNat <<< 16 ||| UInt32.ofNat ((four xs).getD 2 0).toNat <<< 8 ||| UInt32.ofNat ((four xs).getD 3 0).toNat)
def u_little : List UInt8 → UInt32 := fun xs => (UInt32.ofNat ((four xs).getD 3 0).toNat <<< 24 ||| UInt32.ofNat ((four xs).getD 2 0).toNat <<< 16 ||| UInt32.ofNat ((four xs).getD 1 0).toNat <<< 8 ||| UInt32.ofNat ((four xs).getD 0 0).toNat)
def u_putBig : UInt32 → List UInt8 := fun x => [real.ofI8 (real.toI32 (real.shr32 x (real.toI64 (real.ofI64 (real.int 24))))), real.ofI8 (real.toI32 (real.shr32 x (real.toI64 (real.ofI64 (real.int 16))))), real.ofI8 (real.toI32 (real.shr32 x (real.toI64 (real.ofI64 (real.int 8))))), real.ofI8 (real.toI32 x)]
def u_putLittle : UInt32 → List UInt8 := fun x => [real.ofI8 (real.toI32 x), real.ofI8 (real.toI32 (real.shr32 x (real.toI64 (real.ofI64 (real.int 8))))), real.ofI8 (real.toI32 (real.shr32 x (real.toI64 (real.ofI64 (real.int 16))))), real.ofI8 (real.toI32 (real.shr32 x (real.toI64 (real.ofI64 (real.int 24)))))]
def u_text : List UInt8 → List UInt8 := fun s => putK (UInt64.ofNat (min s.length 65535)) 2 ++ s.take 65535
def u_rl (x : UInt32) (n : Int) : UInt32 := ⟨x.toBitVec.rotateLeft (n % 32).toNat⟩
def u_q (a b c d : UInt32) : UInt32 × UInt32 × UInt32 × UInt32 :=
  let a1 := a + b
  let d1 := u_rl (d ^^^ a1) 16
  let c1 := c + d1
  let b1 := u_rl (b ^^^ c1) 12
  let a2 := a1 + b1
  let d2 := u_rl (d1 ^^^ a2) 8
  let c2 := c1 + d2
  let b2 := u_rl (b1 ^^^ c2) 7
  (a2, b2, c2, d2)
def u_qr (ws : List UInt32) (a b c d : Nat) : List UInt32 :=
  let q := u_q (ws.getD a 0) (ws.getD b 0) (ws.getD c 0) (ws.getD d 0)
  (((ws.set a q.1).set b q.2.1).set c q.2.2.1).set d q.2.2.2
def u_is16 (ws : List UInt32) : Prop := ws.length = 16
def u_colP (ws : List UInt32) : Nat → List UInt32
  | 0 => ws
  | i + 1 => u_qr (u_colP ws i) i (i + 4) (i + 8) (i + 12)
def u_diagP (ws : List UInt32) : Nat → List UInt32
  | 0 => ws
  | i + 1 => u_qr (u_diagP ws i) i (4 + (i + 1) % 4) (8 + (i + 2) % 4) (12 + (i + 3) % 4)
/-- so many rounds -/
def u_rndP (ws : List UInt32) : Nat → List UInt32
  | 0 => ws
  | i + 1 => u_diagP (u_colP (u_rndP ws i) 4) 4
def u_isL (xs : List UInt8) (n : Nat) : Prop := xs.length = n
def u_kwP (k : List UInt8) : Nat → List UInt32
  | 0 => [0x61707865, 0x3320646e, 0x79622d32, 0x6b206574, 0, 0, 0, 0, 0, 0, 0, 0, 0, 0, 0, 0]
  | i + 1 => (u_kwP k i).set (4 + i) (u_little (k.drop (4 * i)))
def u_cw (k : List UInt8) (c : UInt32) : List UInt32 := (u_kwP k 8).set 12 c
def u_nwP (k n : List UInt8) (c : UInt32) : Nat → List UInt32
  | 0 => u_cw k c
  | i + 1 => (u_nwP k n c i).set (13 + i) (u_little (n.drop (4 * i)))
/-- a block's bytes, so many words' of them -/
def u_outP (was ws : List UInt32) : Nat → List UInt8
  | 0 => List.replicate 64 0
  | i + 1 => (u_outP was ws i).take (4 * i) ++ u_putLittle (ws.getD i 0 + was.getD i 0) ++ (u_outP was ws i).drop (4 * i + 4)
def u_block (k n : List UInt8) (c : UInt32) : List UInt8 := u_outP (u_nwP k n c 3) (u_rndP (u_nwP k n c 3) 10) 16
/-- the stream's bytes, so many -/
def u_ks (k n : List UInt8) (c : UInt32) (m : Nat) : List UInt8 := (List.range m).map fun j => (u_block k n (c + UInt32.ofNat (j / 64))).getD (j % 64) 0
def u_sx (k n : List UInt8) (c : UInt32) (xs : List UInt8) : List UInt8 := List.zipWith (· ^^^ ·) xs (u_ks k n c xs.length)
def u_cnt (c : UInt32) (i : Nat) : UInt32 := c + UInt32.ofNat i
def u_upto (i : Nat) : List UInt8 := (List.range i).map UInt8.ofNat ++ List.replicate (32 - i) 0
def u_bk (x : UInt32) (n : UInt64) : UInt32 := ⟨x.toBitVec.rotateRight n.toNat⟩
def u_cm (n : UInt8) : Nat := n.toNat % 4 + 1
def u_zeros (n : Nat) : List UInt8 := List.replicate n 0
def u_rowsP (ns : List UInt64) (s : List UInt8) : Nat → List UInt8
  | 0 => []
  | i + 1 => (u_rowsP ns s i ++ putK (ns.getD i 0) (i % 9)) ++ u_text s
/-- the document's block: which words, quarter by quarter -/
def u_rows (r : Nat) : List Int := [[0, 4, 8, 12], [1, 5, 9, 13], [2, 6, 10, 14], [3, 7, 11, 15], [0, 5, 10, 15], [1, 6, 11, 12], [2, 7, 8, 13], [3, 4, 9, 14]].getD r []
def u_r4P (ws : List UInt32) : Nat → List UInt32
  | 0 => ws
  | r + 1 => u_qr (u_r4P ws r) ((u_rows (r % 8)).getD 0 0).toNat ((u_rows (r % 8)).getD 1 0).toNat ((u_rows (r % 8)).getD 2 0).toNat ((u_rows (r % 8)).getD 3 0).toNat
def u_o4 (was ws : List UInt32) (i : Nat) : List UInt8 := (u_outP was ws 16).take i ++ List.replicate (64 - i) 0
/-! ### SHA-256 -/
def u_kc : List UInt32 := [0x428a2f98, 0x71374491, 0xb5c0fbcf, 0xe9b5dba5, 0x3956c25b, 0x59f111f1, 0x923f82a4, 0xab1c5ed5, 0xd807aa98, 0x12835b01, 0x243185be, 0x550c7dc3, 0x72be5d74, 0x80deb1fe, 0x9bdc06a7, 0xc19bf174, 0xe49b69c1, 0xefbe4786, 0x0fc19dc6, 0x240ca1cc, 0x2de92c6f, 0x4a7484aa, 0x5cb0a9dc, 0x76f988da, 0x983e5152, 0xa831c66d, 0xb00327c8, 0xbf597fc7, 0xc6e00bf3, 0xd5a79147, 0x06ca6351, 0x14292967, 0x27b70a85, 0x2e1b2138, 0x4d2c6dfc, 0x53380d13, 0x650a7354, 0x766a0abb, 0x81c2c92e, 0x92722c85, 0xa2bfe8a1, 0xa81a664b, 0xc24b8b70, 0xc76c51a3, 0xd192e819, 0xd6990624, 0xf40e3585, 0x106aa070, 0x19a4c116, 0x1e376c08, 0x2748774c, 0x34b0bcb5, 0x391c0cb3, 0x4ed8aa4a, 0x5b9cca4f, 0x682e6ff3, 0x748f82ee, 0x78a5636f, 0x84c87814, 0x8cc70208, 0x90befffa, 0xa4506ceb, 0xbef9a3f7, 0xc67178f2]
def u_rr (x : UInt32) (n : Int) : UInt32 := ⟨x.toBitVec.rotateLeft ((-n) % 32).toNat⟩
def u_sg0 (x : UInt32) : UInt32 := (u_rr x 7 ^^^ u_rr x 18) ^^^ real.shr32 x 3
def u_sg1 (x : UInt32) : UInt32 := (u_rr x 17 ^^^ u_rr x 19) ^^^ real.shr32 x 10
def u_sched (b : List UInt8) : Nat → List UInt32
  | 0 => List.replicate 64 0
  | i + 1 => (u_sched b i).set i (if i < 16 then u_big (b.drop (4 * i)) else
      ((u_sg1 ((u_sched b i).getD (i - 2) 0) + (u_sched b i).getD (i - 7) 0) + u_sg0 ((u_sched b i).getD (i - 15) 0)) + (u_sched b i).getD (i - 16) 0)
def u_rnd (v : List UInt32) (k w : UInt32) : List UInt32 :=
  let a := v.getD 0 0
  let e := v.getD 4 0
  let t1 := (((v.getD 7 0 + ((u_rr e 6 ^^^ u_rr e 11) ^^^ u_rr e 25)) + ((e &&& v.getD 5 0) ^^^ (~~~e &&& v.getD 6 0))) + k) + w
  let t2 := ((u_rr a 2 ^^^ u_rr a 13) ^^^ u_rr a 22) + (((a &&& v.getD 1 0) ^^^ (a &&& v.getD 2 0)) ^^^ (v.getD 1 0 &&& v.getD 2 0))
  [t1 + t2, a, v.getD 1 0, v.getD 2 0, v.getD 3 0 + t1, e, v.getD 5 0, v.getD 6 0]
def u_rnds (ws v : List UInt32) : Nat → List UInt32
  | 0 => v
  | i + 1 => u_rnd (u_rnds ws v i) (u_kc.getD i 0) (ws.getD i 0)
def u_add (v s : List UInt32) (i : Nat) : List UInt32 := (List.zipWith (· + ·) v s).take i ++ v.drop i
def u_next (s : List UInt32) (b : List UInt8) : List UInt32 := u_add (u_rnds (u_sched b 64) s 64) s 8
def u_blks (s : List UInt32) (b : List UInt8) : Nat → List UInt32
  | 0 => s
  | n + 1 => u_next (u_blks s b n) (b.drop (64 * n))
def u_first : List UInt32 := [0x6a09e667, 0xbb67ae85, 0x3c6ef372, 0xa54ff53a, 0x510e527f, 0x9b05688c, 0x1f83d9ab, 0x5be0cd19]
def u_nblk (b : List UInt8) : Nat := b.length / 64
def u_ws (s : List UInt32) (r b : List UInt8) : List UInt32 := u_blks s (r ++ b) (u_nblk (r ++ b))
def u_wr (r b : List UInt8) : List UInt8 := (r ++ b).drop (64 * u_nblk (r ++ b))
/-- so many noughts behind the one byte -/
def u_padZ (r : List UInt8) : Nat := (119 - r.length % 64) % 64
def u_padP (r : List UInt8) (j : Nat) : List UInt8 := (r ++ [128]) ++ List.replicate j 0
def u_pad (r : List UInt8) (n : Int) : List UInt8 := u_padP r (u_padZ r) ++ putK (real.mul64 (real.ofI64 n) (real.ofI64 (real.int 8))) 8
def u_outB (st : List UInt32) : Nat → List UInt8
  | 0 => List.replicate 32 0
  | i + 1 => (u_outB st i).take (4 * i) ++ u_putBig (st.getD i 0) ++ (u_outB st i).drop (4 * i + 4)
def u_outF (st : List UInt32) (i : Nat) : List UInt8 := (u_outB st 8).take i ++ List.replicate (32 - i) 0
def u_fin (s : List UInt32) (r : List UInt8) (n : Int) : List UInt8 := u_outB (u_blks s (u_pad r n) (u_nblk (u_pad r n))) 8
def u_sum (m : List UInt8) : List UInt8 := u_fin u_first m m.length
def u_hexd : List UInt8 := [48, 49, 50, 51, 52, 53, 54, 55, 56, 57, 97, 98, 99, 100, 101, 102]
def u_hexP (s : List UInt8) : Nat → List UInt8
  | 0 => []
  | i + 1 => u_hexP s i ++ [u_hexd.getD ((s.getD i 0).toNat / 16) 0, u_hexd.getD ((s.getD i 0).toNat % 16) 0]
def u_hex (s : List UInt8) : List UInt8 := if s = List.replicate 32 0 then List.replicate 64 48 else u_hexP s 32
def u_isW (w : List UInt32) (n : Nat) : Prop := w.length = n
/-- sums of sums -/
def u_chn (b : List UInt8) : Nat → List UInt8
  | 0 => u_sum b
  | j + 1 => u_sum (u_chn b j)
def u_mid (b : List UInt8) (m i : Nat) : List UInt8 := if m < i then u_chn b m else u_chn b 0
/-! ### Nodes -/
def pk (l : List D) (j : Nat) : List UInt8 := ((l.getD j D.no).fld 0).gs
def pv (l : List D) (j : Nat) : List UInt8 := ((l.getD j D.no).fld 1).gs
def u_isKey (s : List UInt8) : Bool := decide (1 ≤ s.length) && decide (s.length ≤ 60)
def u_okP (l : List D) (j : Nat) : Bool := (u_isKey (pk l j) && decide ((pv l j).length ≤ 150)) && (decide (j = 0) || real.ltS (pk l (j - 1)) (pk l j))
def u_okN (l : List D) : Nat → Bool
  | 0 => true
  | i + 1 => u_okN l i && u_okP l i
def u_nsz (l : List D) : Nat → Int
  | 0 => 3
  | i + 1 => min 100000 (u_nsz l i + 4 + min 100000 ((pk l i).length : Int) + min 100000 ((pv l i).length : Int))
def u_leafE (l : List D) : Int := if u_okN l l.length = false then 90 else if 480 < u_nsz l l.length then 11 else 0
def u_leafP (l : List D) : Nat → List UInt8
  | 0 => 1 :: putK (UInt64.ofNat l.length) 2
  | i + 1 => (u_leafP l i ++ u_text (pk l i)) ++ u_text (pv l i)
def u_leafB (l : List D) : List UInt8 := if u_leafE l = 0 then u_leafP l l.length else []
def u_okQ (ks : List (List UInt8)) (j : Nat) : Bool := u_isKey (ks.getD j []) && (decide (j = 0) || real.ltS (ks.getD (j - 1) []) (ks.getD j []))
def u_okK (ks : List (List UInt8)) : Nat → Bool
  | 0 => true
  | i + 1 => u_okK ks i && u_okQ ks i
def u_bsz (ks : List (List UInt8)) : Nat → Int
  | 0 => 7
  | i + 1 => min (u_bsz ks i + ((ks.getD i []).length : Int) + 2 + 4) 100000
def u_brE (ks : List (List UInt8)) (kids : List UInt32) : Int := if ks.length = 0 ∨ kids.length ≠ ks.length + 1 ∨ u_okK ks ks.length = false then 90 else if 480 < u_bsz ks ks.length then 11 else 0
def u_brP (ks : List (List UInt8)) : Nat → List UInt8
  | 0 => 2 :: putK (UInt64.ofNat ks.length) 2
  | i + 1 => u_brP ks i ++ u_text (ks.getD i [])
def u_brR (ks : List (List UInt8)) (kids : List UInt32) : Nat → List UInt8
  | 0 => u_brP ks ks.length
  | i + 1 => u_brR ks kids i ++ u_putBig (kids.getD i 0)
def u_brQ (ks : List (List UInt8)) (kids : List UInt32) (i : Nat) : List UInt8 := u_brR ks kids i ++ List.replicate (4 * (kids.length - i)) 0
def u_brB (ks : List (List UInt8)) (kids : List UInt32) : List UInt8 := if u_brE ks kids = 0 then u_brR ks kids kids.length else []
def u_kind (b : List UInt8) : Int := if b.length = 0 then 0 else if b.getD 0 0 = 1 then 1 else if b.getD 0 0 = 2 then 2 else 0
/-- what is behind so many bytes -/
def u_rst (x : List UInt8) (a : Nat) : List UInt8 := (x.drop a).take (x.length - a)
def u_bad (bad : Bool) (e : Int) : Bool := cond bad true (!(e == 0))
/-- a node's bytes read: what is left, whether it was bad, what was read -/
def u_hd (b : List UInt8) : List UInt8 × Bool := (u_rst (u_rst b 1) (u_getA (u_rst b 1) 2), u_bad false (u_getE (u_rst b 1) 2))
def u_nl (b : List UInt8) : Nat → List UInt8 × Bool × List D
  | 0 => ((u_hd b).1, (u_hd b).2, [])
  | i + 1 =>
    let s := u_nl b i
    let r1 := u_rst s.1 (u_gtA s.1 60)
    (u_rst r1 (u_gtA r1 150), u_bad (u_bad s.2.1 (u_gtE s.1 60)) (u_gtE r1 150), s.2.2 ++ [.t [.s (u_gtS s.1 60), .s (u_gtS r1 150)]])
def u_nk (b : List UInt8) : Nat → List UInt8 × Bool × List (List UInt8)
  | 0 => ((u_hd b).1, (u_hd b).2, [])
  | i + 1 =>
    let s := u_nk b i
    (u_rst s.1 (u_gtA s.1 60), u_bad s.2.1 (u_gtE s.1 60), s.2.2 ++ [u_gtS s.1 60])
def u_nq (b : List UInt8) (j : Nat) : Nat → List UInt8 × Bool × List UInt32
  | 0 => ((u_nk b j).1, (u_nk b j).2.1, [])
  | i + 1 =>
    let s := u_nq b j i
    (u_rst s.1 (u_getA s.1 4), u_bad s.2.1 (u_getE s.1 4), s.2.2 ++ [UInt32.ofNat (u_getV s.1 4).toNat])
def isPair (x : D) : Prop := ∃ k v, x = .t [.s k, .s v]
def goodL (l : List D) (b : List UInt8) : Prop := (∀ x ∈ l, isPair x) ∧ u_leafE l = 0 ∧ u_leafB l = b
def goodB (p : List (List UInt8) × List UInt32) (b : List UInt8) : Prop := u_brE p.1 p.2 = 0 ∧ u_brB p.1 p.2 = b
open Classical in
noncomputable def u_lf (b : List UInt8) : Option (List D) := if h : ∃ l, goodL l b then some h.choose else none
open Classical in
noncomputable def u_bf (b : List UInt8) : Option (List (List UInt8) × List UInt32) := if h : ∃ p, goodB p b then some h.choose else none
def pairEq (x y : D) : Bool := (x.fld 0).gs == (y.fld 0).gs && ((x.fld 1).gs == (y.fld 1).gs && true)
def u_prs (a b : List D) : Bool := decide (a.length = b.length) && (List.range a.length).all fun i => pairEq (a.getD i D.no) (b.getD i D.no)
def u_sam (a : List (List UInt8)) (x : List UInt32) (b : List (List UInt8)) (y : List UInt32) : Bool := decide (a = b) && decide (x = y)
def u_keysOf (l : List D) (i : Nat) : List (List UInt8) := (List.range i).map (pk l)
/-! ### Codes of messages -/
/-- a key filled up to a block -/
def u_fill (k : List UInt8) : List UInt8 := k.take 64 ++ List.replicate (64 - k.length) 0
def u_mpad (k : List UInt8) (c : UInt8) : List UInt8 := (u_fill k).map (· ^^^ c)
def u_mpadP (k : List UInt8) (c : UInt8) (i : Nat) : List UInt8 := ((u_fill k).take i).map (· ^^^ c) ++ (u_fill k).drop i
def u_mkey (k : List UInt8) : List UInt8 := if 64 < k.length then u_sum k else k
def u_mac (k m : List UInt8) : List UInt8 := u_sum (u_mpad (u_mkey k) 92 ++ u_sum (u_mpad (u_mkey k) 54 ++ m))
def u_mxL (k info : List UInt8) : Nat → List UInt8
  | 0 => []
  | i + 1 => u_mac k (u_mxL k info i ++ info ++ [UInt8.ofNat (i + 1)])
def u_mxO (k info : List UInt8) : Nat → List UInt8
  | 0 => []
  | i + 1 => u_mxO k info i ++ u_mxL k info (i + 1)
def u_mx (k info : List UInt8) (n : Int) : List UInt8 := (u_mxO k info 255).take (min (max n 0) 8160).toNat
def u_mdv (k label : List UInt8) (n : UInt32) : List UInt8 := u_mx k (label ++ putK (UInt64.ofNat n.toNat) 4) 32
/-! #### Bytes in pieces of 32 -/
def u_chB (b : List UInt8) (i : Nat) : List UInt8 := (b.drop (32 * i)).take 32 ++ List.replicate (32 - (b.length - 32 * i)) 0
def u_chL (b : List UInt8) (i : Nat) : Int := ((min 32 (b.length - 32 * i) : Nat) : Int)
def u_chN (b : List UInt8) : Nat := (b.length + 31) / 32
def u_chM (b : List UInt8) : Nat → MD
  | 0 => ⟨[], 0⟩
  | i + 1 => (u_chM b i).set (.i (i : Int)) (.t [.l8 (u_chB b i), .i (u_chL b i)])
/-- of so many pieces: lengths and bytes are alike -/
def u_meqP (a b : List UInt8) : Nat → Bool
  | 0 => decide (a.length = b.length)
  | i + 1 => u_meqP a b i && (decide (u_chL a i = u_chL b i) && decide (u_chB a i = u_chB b i))
/-! #### Keys of labels, in a row and in a map -/
def u_apK (k : List UInt8) (ls : List (List UInt8)) (ns : List UInt32) (j : Nat) : List UInt8 := u_mdv k (ls.getD j []) (ns.getD j 0)
def u_apL (k : List UInt8) (ls : List (List UInt8)) (ns : List UInt32) : Nat → List D
  | 0 => []
  | i + 1 => u_apL k ls ns i ++ [.l8 (u_apK k ls ns i)]
def u_apM (k : List UInt8) (ls : List (List UInt8)) (ns : List UInt32) : Nat → MD
  | 0 => ⟨[], 0⟩
  | i + 1 => (u_apM k ls ns i).set (.l8 (u_apK k ls ns i)) (.i ((i : Int) + 1))
/-! ### Sealed bytes -/
def u_nonce (p : UInt32) (g : UInt64) : List UInt8 := putK (UInt64.ofNat p.toNat) 4 ++ putK g 8
def u_tagM (n aad c : List UInt8) : List UInt8 := ((putK (UInt64.ofNat aad.length) 8 ++ aad) ++ n) ++ c
def u_tag (k n aad c : List UInt8) : List UInt8 := (u_mac (u_mdv k [109, 97, 99] 0) (u_tagM n aad c)).take 16
def u_enc (k n p : List UInt8) : List UInt8 := u_sx (u_mdv k [101, 110, 99] 0) n 1 p
def u_seal (k n aad p : List UInt8) : List UInt8 := u_enc k n p ++ u_tag k n aad (u_enc k n p)
def u_opE (k n aad b : List UInt8) : Int := if b.length < 16 then 10 else if b.drop (b.length - 16) = u_tag k n aad (b.take (b.length - 16)) then 0 else 50
def u_opB (k n aad b : List UInt8) : List UInt8 := if u_opE k n aad b = 0 then u_enc k n (b.take (b.length - 16)) else []
def u_wt : List UInt8 := [119, 114, 97, 112]
def u_wrp (k : List UInt8) (s : UInt32) (g : UInt64) (key : List UInt8) : List UInt8 := u_seal k (u_nonce s g) u_wt key
def u_uwE (k : List UInt8) (s : UInt32) (g : UInt64) (w : List UInt8) : Int := u_opE k (u_nonce s g) u_wt w
def u_uwK (k : List UInt8) (s : UInt32) (g : UInt64) (w : List UInt8) : List UInt8 := if u_uwE k s g w = 0 then u_opB k (u_nonce s g) u_wt w else List.replicate 32 0
/-! ### Images -/
def u_hits (a b : List UInt8) (i : Nat) : Bool := decide (i + b.length ≤ a.length) && decide ((a.drop i).take b.length = b)
def u_noh (a b : List UInt8) : Nat → Bool
  | 0 => true
  | i + 1 => u_noh a b i && !(u_hits a b i)
def u_findF (a b : List UInt8) : Nat → Nat → Int
  | 0, _ => -1
  | n + 1, i => if u_hits a b i = true then (i : Int) else u_findF a b n (i + 1)
def u_find (a b : List UInt8) : Int := u_findF a b (a.length + 1) 0
/-- none of the first i pieces of n bytes stands in a -/
def u_plN (a b : List UInt8) (n : Nat) : Nat → Bool
  | 0 => true
  | i + 1 => u_plN a b n i && decide (u_find a ((b.drop i).take n) < 0)
def u_plK (b : List UInt8) (least : Int) : Nat := (min (max least 1) (b.length : Int)).toNat
def u_plain (a b : List UInt8) (least : Int) : Bool := !decide (b.length = 0) && !(u_plN a b (u_plK b least) (b.length - u_plK b least + 1))
def u_cut48 (im : List UInt8) (i : Nat) : List UInt8 := (im.drop i).take 48
def u_wrI (im k : List UInt8) (s : UInt32) (i : Nat) : Nat → Bool
  | 0 => true
  | g + 1 => u_wrI im k s i g && !decide (u_uwE k s (UInt64.ofNat g) (u_cut48 im i) = 0)
def u_wrO (im k : List UInt8) (s : UInt32) (m : Nat) : Nat → Bool
  | 0 => true
  | i + 1 => u_wrO im k s m i && u_wrI im k s i (m + 1)
def u_wrF (im k : List UInt8) (s : UInt32) (m : Nat) : Option (List UInt8) := (List.range (im.length + 1 - 48)).findSome? fun i => (List.range (m + 1)).findSome? fun g => if u_uwE k s (UInt64.ofNat g) (u_cut48 im i) = 0 then some (u_uwK k s (UInt64.ofNat g) (u_cut48 im i)) else none
def u_wm (m : UInt64) : Nat := min m.toNat 20
def u_sec (a : List UInt8) (i : Nat) : List UInt8 := (a.drop (64 * i)).take 64 ++ List.replicate (64 - (a.length - 64 * i)) 0
def u_scn (a : List UInt8) (i : Nat) : Int := ((min 64 (a.length - 64 * i) : Nat) : Int)
def u_smL (a b : List UInt8) : Nat → List Int
  | 0 => []
  | i + 1 => if u_sec a i = u_sec b i ∧ u_scn a i = u_scn b i then u_smL a b i else u_smL a b i ++ [(i : Int)]
def u_smN (a b : List UInt8) : Nat := (max a.length b.length + 63) / 64
def u_ia (n i : Nat) : List UInt8 := (List.range i).map (fun j => UInt8.ofNat (j * 7)) ++ List.replicate (n - i) 0
def u_ib (a : List UInt8) (l : List UInt16) (c : UInt8) : Nat → List UInt8
  | 0 => a
  | i + 1 => (u_ib a l c i).set ((l.getD i 0).toNat % a.length) (a.getD ((l.getD i 0).toNat % a.length) 0 ^^^ c)
def u_ih (a : List UInt8) (l : List UInt16) : Nat → List D
  | 0 => List.replicate 10 (.b false)
  | i + 1 => (u_ih a l i).set ((l.getD i 0).toNat % a.length / 64) (.b true)
noncomputable def us : Us where
  rl := fun x n => ⟨x.toBitVec.rotateLeft (n % 32).toNat⟩
  rr := fun x n => ⟨x.toBitVec.rotateLeft ((-n) % 32).toNat⟩
  wid := fun n => min (max n 0) 8
  four := four
  big := u_big
  little := u_little
  putBig := u_putBig
  putK := putK
  put := fun x n => putK x (min (max n 0) 8).toNat
  pred := fun k => (k : Int) - 1
  putLittle := u_putLittle
  bigP := bigP
  litP := litP
  text := u_text
  gtN := u_gtN
  gtE := u_gtE
  gtA := u_gtA
  gtS := u_gtS
  pI := u_pI
  getOk := u_getOk
  qa := fun a b c d => (u_q a b c d).1
  qb := fun a b c d => (u_q a b c d).2.1
  qc := fun a b c d => (u_q a b c d).2.2.1
  qd := fun a b c d => (u_q a b c d).2.2.2
  qr := u_qr
  is16 := u_is16
  colP := u_colP
  diagP := u_diagP
  rndP := u_rndP
  isL := u_isL
  kwP := u_kwP
  cw := u_cw
  nwP := u_nwP
  outP := u_outP
  block := u_block
  sx := u_sx
  cnt := u_cnt
  upto := u_upto
  rowsP := u_rowsP
  cm := u_cm
  zeros := u_zeros
  bk := u_bk
  getV := u_getV
  getA := u_getA
  getE := u_getE
  xor := List.zipWith (· ^^^ ·)
  xorP := fun xs ys i => (List.zipWith (· ^^^ ·) xs ys).take i ++ List.replicate (min xs.length ys.length - i) 0
  mn := fun xs ys => min xs.length ys.length
  rows := u_rows
  r4P := u_r4P
  o4 := u_o4
  kc := u_kc
  sched := u_sched
  rnds := u_rnds
  add := u_add
  next := u_next
  blks := u_blks
  first := u_first
  ws := u_ws
  wr := u_wr
  padZ := u_padZ
  padP := u_padP
  pad := u_pad
  outB := u_outB
  outF := u_outF
  fin := u_fin
  sum := u_sum
  hexP := u_hexP
  hex := u_hex
  isW := u_isW
  nblk := u_nblk
  chn := u_chn
  mid := u_mid
  nsz := u_nsz
  isKey := u_isKey
  okP := u_okP
  okN := u_okN
  leafE := u_leafE
  leafP := u_leafP
  leafB := u_leafB
  okQ := u_okQ
  okK := u_okK
  bsz := u_bsz
  brE := u_brE
  brP := u_brP
  brR := u_brR
  brQ := u_brQ
  brB := u_brB
  kind := u_kind
  rlR := fun b i => (u_nl b i).1
  rlD := fun b i => (u_nl b i).2.1
  rlL := fun b i => (u_nl b i).2.2
  rkR := fun b i => (u_nk b i).1
  rkD := fun b i => (u_nk b i).2.1
  rkL := fun b i => (u_nk b i).2.2
  rqR := fun b j i => (u_nq b j i).1
  rqD := fun b j i => (u_nq b j i).2.1
  rqL := fun b j i => (u_nq b j i).2.2
  rlB := fun b => (u_lf b).getD []
  rlE := fun b => if (u_lf b).isSome then 0 else 90
  rbK := fun b => ((u_bf b).getD ([], [])).1
  rbQ := fun b => ((u_bf b).getD ([], [])).2
  rbE := fun b => if (u_bf b).isSome then 0 else 90
  prs := u_prs
  sam := u_sam
  keysOf := u_keysOf
  mpad := u_mpad
  mpadP := u_mpadP
  mac := u_mac
  mxL := u_mxL
  mxO := u_mxO
  mx := u_mx
  mdv := u_mdv
  chM := u_chM
  chN := u_chN
  chB := u_chB
  chL := u_chL
  meq := fun a b => decide (a = b)
  meqP := u_meqP
  apL := u_apL
  apM := u_apM
  find := u_find
  noh := u_noh
  plN := u_plN
  plK := u_plK
  plain := u_plain
  wrI := u_wrI
  wrO := u_wrO
  wrE := fun im k s m => (u_wrF im k s m).isSome
  wrK := fun im k s m => (u_wrF im k s m).getD (List.replicate 32 0)
  wm := u_wm
  cut48 := u_cut48
  sec := u_sec
  scn := u_scn
  smL := u_smL
  smN := u_smN
  ia := u_ia
  ib := u_ib
  ih := u_ih
  nonce := u_nonce
  tag := u_tag
  enc := u_enc
  sel := u_seal
  opE := u_opE
  opB := u_opB
  wrp := u_wrp
  uwE := u_uwE
  uwK := u_uwK
  gv := fun xs => xs.foldl (fun n c => n <<< 8 ||| UInt64.ofNat c.toNat) 0
end Go.Proofs.Ytmldccfchnlpgaa
set_option linter.unusedVariables false
set_option linter.unusedSimpArgs false
set_option maxRecDepth 100000
set_option maxHeartbeats 4000000
namespace Go.Proofs.Ytmldccfchnlpgaa
open Go Go.Vc
theorem mixed : Try.prog.follows .mixedOrders = true := by kernel_rfl
def X (fn : Func) (F : Fs) (sp : Specs) : Cx := ⟨fn.ntmps, tt F, sp, [], [], [], []⟩
def XM (fn : Func) (F : Fs) (sp : Specs) (mu : List Nat) : Cx := ⟨fn.ntmps, tt F, sp, [], [], [], mu⟩
theorem X_ok {fn : Func} {sp : Specs} (h : SpecsOK Try.prog sp) : XOK Try.prog (X fn real sp) := ⟨tt_ok, h, ks_nil⟩

def g_math_RotateLeft32 (U : Us) : Law
  | [.w32 x, .i n] => some (True, [.val (.w32 (U.rl x n))])
  | _ => none
def s_math_RotateLeft32 (F : Fs) (U : Us) : Vc.Spec := pureSpec F false [.keep, .keep] (g_math_RotateLeft32 U)
theorem r_math_RotateLeft32 : Ready Try.prog 120 := by unfold Ready; kernel_rfl
theorem shl32_eq (x : UInt32) (n : Nat) (h : n < 32) : real.shl32 x (n : Int) = ⟨x.toBitVec <<< n⟩ := by
  apply UInt32.toNat_inj.1
  show (UInt32.ofNat (x.toNat * 2 ^ (min (n : Int).toNat 32))).toNat = _
  simp [Nat.shiftLeft_eq, show min n 32 = n by omega]
theorem shr32_eq (x : UInt32) (n : Nat) (h : n ≤ 32) : real.shr32 x (n : Int) = ⟨x.toBitVec >>> n⟩ := by
  apply UInt32.toNat_inj.1
  show (UInt32.ofNat (x.toNat / 2 ^ (min (n : Int).toNat 32))).toNat = _
  have : x.toNat / 2 ^ n < 4294967296 := Nat.lt_of_le_of_lt (Nat.div_le_self _ _) x.toNat_lt
  simp [Nat.shiftRight_eq_div_pow, show min n 32 = n by omega]
  omega
theorem p42a (n : Int) : real.toI64 (real.and64 (real.ofI64 n) (real.ofI64 (real.int 31))) = ((n % 32).toNat : Int) := by
  show ((UInt64.ofNat (n % 2 ^ 64).toNat &&& UInt64.ofNat ((31 : Int) % 2 ^ 64).toNat).toNat : Int) = _
  have h1 : (31 : Nat) = 2 ^ 5 - 1 := rfl
  have h2 : ((31 : Int) % 2 ^ 64).toNat = 31 := by decide
  rw [h2]
  have h3 : (n % 2 ^ 64).toNat < 2 ^ 64 := by omega
  have h4 : (UInt64.ofNat (n % 2 ^ 64).toNat).toNat = (n % 2 ^ 64).toNat := UInt64.toNat_ofNat_of_lt' h3
  rw [UInt64.toNat_and, h4]
  have h5 : (UInt64.ofNat 31).toNat = 31 := rfl
  rw [h5, h1, Nat.and_two_pow_sub_one_eq_mod]
  omega
theorem p42b (n : Int) : real.toI64 (real.sub64 (real.ofI64 (real.int 32)) (real.and64 (real.ofI64 n) (real.ofI64 (real.int 31)))) = ((32 - (n % 32).toNat : Nat) : Int) := by
  have h := p42a n
  generalize real.and64 (real.ofI64 n) (real.ofI64 (real.int 31)) = y at h ⊢
  have h : (y.toNat : Int) = ((n % 32).toNat : Int) := h
  show ((UInt64.ofNat ((32 : Int) % 2 ^ 64).toNat - y).toNat : Int) = _
  have h2 : ((32 : Int) % 2 ^ 64).toNat = 32 := by decide
  rw [h2]
  have h3 : (UInt64.ofNat 32).toNat = 32 := rfl
  rw [UInt64.toNat_sub_of_le _ _ (by rw [UInt64.le_iff_toNat_le, h3]; omega), h3]
  omega
theorem c_math_RotateLeft32 (x : UInt32) (n : Int) : vc real (X Try.f120 real []) [] [] (Try.f120.body.getD .skip) ⟨zipSl 0 [.w32 x, .i n], [], 64⟩ (retOk real (tt real) false Try.f120.results.toList [.val (.w32 (us.rl x n))]) := by
  generalize hU : us = U
  generalize hF : real = F
  cbv
  subst hF hU
  have h1 := p42a n
  have h2 := p42b n
  have h3 := shl32_eq x (n % 32).toNat (by omega)
  have h4 := shr32_eq x (32 - (n % 32).toNat) (by omega)
  simp only [real] at h1 h2 h3 h4 ⊢
  rw [h1, h2, h3, h4]
  refine ⟨by omega, by omega, ?_, trivial⟩
  show (⟨_⟩ ||| ⟨_⟩ : UInt32) = ⟨x.toBitVec.rotateLeft (n % 32).toNat⟩
  rw [BitVec.rotateLeft_def]
  have : (n % 32).toNat % 32 = (n % 32).toNat := by omega
  rw [this]
  rfl
theorem k_math_RotateLeft32 : SpecOK Try.prog 120 (s_math_RotateLeft32 real us) := by
  refine pure_sound (x := X Try.f120 real []) (X_ok sp_nil) mixed Try.func120 rfl rfl (by kernel_rfl) ?_
  intro l c rs hg hc
  unfold g_math_RotateLeft32 at hg
  split at hg
  · cases hg; exact ⟨Nat.le_of_ble_eq_true rfl, [], [], c_math_RotateLeft32 _ _⟩
  · cases hg
def g_bits_Rotl (U : Us) : Law
  | [.w32 x, .i n] => some (True, [.val (.w32 (U.rl x n))])
  | _ => none
def s_bits_Rotl (F : Fs) (U : Us) : Vc.Spec := pureSpec F false [.keep, .keep] (g_bits_Rotl U)
theorem r_bits_Rotl : Ready Try.prog 89 := by unfold Ready; kernel_rfl
theorem ok_math_RotateLeft32 : SpecsOK Try.prog [(120, s_math_RotateLeft32 real us)] := sp_cons r_math_RotateLeft32 k_math_RotateLeft32 sp_nil
theorem c_bits_Rotl (x : UInt32) (n : Int) : vc real (X Try.f89 real [(120, s_math_RotateLeft32 real us)]) [] [] (Try.f89.body.getD .skip) ⟨zipSl 0 [.w32 x, .i n], [], 64⟩ (retOk real (tt real) false Try.f89.results.toList [.val (.w32 (us.rl x n))]) := by
  generalize hU : us = U
  generalize hF : real = F
  cbv
  subst hF hU
  simp only [real, us, Int.cast_ofNat_Int]
  refine ⟨by omega, ?_, trivial⟩
  have : n.tmod 32 % 32 = n % 32 := by have := Int.tmod_def n 32; omega
  rw [this]
theorem k_bits_Rotl : SpecOK Try.prog 89 (s_bits_Rotl real us) := by
  refine pure_sound (x := X Try.f89 real [(120, s_math_RotateLeft32 real us)]) (X_ok ok_math_RotateLeft32) mixed Try.func89 rfl rfl (by kernel_rfl) ?_
  intro l c rs hg hc
  unfold g_bits_Rotl at hg
  split at hg
  · cases hg; exact ⟨Nat.le_of_ble_eq_true rfl, [], [], c_bits_Rotl _ _⟩
  · cases hg
def g_bits_Rotr (U : Us) : Law
  | [.w32 x, .i n] => some (True, [.val (.w32 (U.rr x n))])
  | _ => none
def s_bits_Rotr (F : Fs) (U : Us) : Vc.Spec := pureSpec F false [.keep, .keep] (g_bits_Rotr U)
theorem r_bits_Rotr : Ready Try.prog 128 := by unfold Ready; kernel_rfl
theorem wrap_small {a : Int} (h1 : -9223372036854775808 ≤ a) (h2 : a ≤ 9223372036854775807) : IntKind.i64.wrap a = a := by
  simp [IntKind.wrap, IntKind.signed, IntKind.bits]
  omega
theorem c_bits_Rotr (x : UInt32) (n : Int) : vc real (X Try.f128 real [(120, s_math_RotateLeft32 real us)]) [] [] (Try.f128.body.getD .skip) ⟨zipSl 0 [.w32 x, .i n], [], 64⟩ (retOk real (tt real) false Try.f128.results.toList [.val (.w32 (us.rr x n))]) := by
  generalize hU : us = U
  generalize hF : real = F
  cbv
  subst hF hU
  simp only [real, us, Int.cast_ofNat_Int]
  refine ⟨by omega, ?_, trivial⟩
  have h := Int.tmod_def n 32
  have h1 : -32 < n.tmod 32 := Int.lt_tmod_of_pos _ (by decide)
  have h2 : n.tmod 32 < 32 := Int.tmod_lt_of_pos _ (by decide)
  rw [wrap_small (by omega) (by omega)]
  have : (0 - n.tmod 32) % 32 = (-n) % 32 := by omega
  rw [this]
theorem k_bits_Rotr : SpecOK Try.prog 128 (s_bits_Rotr real us) := by
  refine pure_sound (x := X Try.f128 real [(120, s_math_RotateLeft32 real us)]) (X_ok ok_math_RotateLeft32) mixed Try.func128 rfl rfl (by kernel_rfl) ?_
  intro l c rs hg hc
  unfold g_bits_Rotr at hg
  split at hg
  · cases hg; exact ⟨Nat.le_of_ble_eq_true rfl, [], [], c_bits_Rotr _ _⟩
  · cases hg
def g_bits_four (U : Us) : Law
  | [.rb 1 (.bt xs)] => some (True, [.val (.ag 4 (.bt (U.four xs)))])
  | _ => none
def s_bits_four (F : Fs) (U : Us) : Vc.Spec := pureSpec F false [.row .kB] (g_bits_four U)
theorem r_bits_four : Ready Try.prog 140 := by unfold Ready; kernel_rfl
theorem c_bits_four (xs : List UInt8) : vc real (X Try.f140 real []) [] [] (Try.f140.body.getD .skip) ⟨zipSl 0 [.rb 1 (.bt xs)], [], 64⟩ (retOk real (tt real) false Try.f140.results.toList [.val (.ag 4 (.bt (us.four xs)))]) := by
  generalize hU : us = U
  generalize hF : real = F
  cbv
  subst hF hU
  simp only [real, us, four]
  refine ⟨by omega, ?_, trivial⟩
  by_cases h : 4 ≤ xs.length
  · rw [Nat.min_eq_right h, List.take_append_of_le_length h]; simp [h]
  · rw [Nat.min_eq_left (by omega), List.take_append]
    simp [List.take_of_length_le (show xs.length ≤ 4 by omega)]
    have hk : xs.length = 0 ∨ xs.length = 1 ∨ xs.length = 2 ∨ xs.length = 3 := by omega
    rcases hk with hk | hk | hk | hk <;> rw [hk] <;> rfl
theorem k_bits_four : SpecOK Try.prog 140 (s_bits_four real us) := by
  refine pure_sound (x := X Try.f140 real []) (X_ok sp_nil) mixed Try.func140 rfl rfl (by kernel_rfl) ?_
  intro l c rs hg hc
  unfold g_bits_four at hg
  split at hg
  · cases hg; exact ⟨Nat.le_of_ble_eq_true rfl, [], [], c_bits_four _⟩
  · cases hg
theorem ok_bits_four : SpecsOK Try.prog [(140, s_bits_four real us)] := sp_cons r_bits_four k_bits_four sp_nil
def g_bits_Big (U : Us) : Law
  | [.rb 1 (.bt xs)] => some (True, [.val (.w32 (U.big xs))])
  | _ => none
def s_bits_Big (F : Fs) (U : Us) : Vc.Spec := pureSpec F false [.row .kB] (g_bits_Big U)
theorem r_bits_Big : Ready Try.prog 141 := by unfold Ready; kernel_rfl
theorem shl32_c (x : UInt32) (n : Nat) (h : n < 32) : UInt32.ofNat (x.toNat * 2 ^ n) = x <<< UInt32.ofNat n := by
  apply UInt32.toNat_inj.1
  simp [Nat.shiftLeft_eq, Nat.mod_eq_of_lt (show n < 4294967296 by omega), Nat.mod_eq_of_lt h]
theorem c_bits_Big (xs : List UInt8) : vc real (X Try.f141 real [(140, s_bits_four real us)]) [] [] (Try.f141.body.getD .skip) ⟨zipSl 0 [.rb 1 (.bt xs)], [], 64⟩ (retOk real (tt real) false Try.f141.results.toList [.val (.w32 (us.big xs))]) := by
  generalize hU : us = U
  generalize hF : real = F
  cbv
  subst hF hU
  simp only [real, us, u_big, u_little, Int.cast_ofNat_Int]
  refine ⟨by omega, by omega, by omega, by omega, by omega, by omega, by omega, by omega, by omega, by omega, by omega, ?_, trivial⟩
  have e (b : UInt8) : UInt32.ofNat ((b.toNat : Int) % 2 ^ 32).toNat = UInt32.ofNat b.toNat := by congr 1; have := b.toNat_lt; omega
  have h24 : (min (((UInt64.ofNat ((24 : Int) % 2 ^ 64).toNat).toNat : Int)).toNat 32) = 24 := by decide
  have h16 : (min (((UInt64.ofNat ((16 : Int) % 2 ^ 64).toNat).toNat : Int)).toNat 32) = 16 := by decide
  have h8 : (min (((UInt64.ofNat ((8 : Int) % 2 ^ 64).toNat).toNat : Int)).toNat 32) = 8 := by decide
  simp only [e, h24, h16, h8, shl32_c _ 24 (by omega), shl32_c _ 16 (by omega), shl32_c _ 8 (by omega)]
  rfl
theorem k_bits_Big : SpecOK Try.prog 141 (s_bits_Big real us) := by
  refine pure_sound (x := X Try.f141 real [(140, s_bits_four real us)]) (X_ok ok_bits_four) mixed Try.func141 rfl rfl (by kernel_rfl) ?_
  intro l c rs hg hc
  unfold g_bits_Big at hg
  split at hg
  · cases hg; exact ⟨Nat.le_of_ble_eq_true rfl, [], [], c_bits_Big _⟩
  · cases hg
def g_bits_Little (U : Us) : Law
  | [.rb 1 (.bt xs)] => some (True, [.val (.w32 (U.little xs))])
  | _ => none
def s_bits_Little (F : Fs) (U : Us) : Vc.Spec := pureSpec F false [.row .kB] (g_bits_Little U)
theorem r_bits_Little : Ready Try.prog 121 := by unfold Ready; kernel_rfl
theorem c_bits_Little (xs : List UInt8) : vc real (X Try.f121 real [(140, s_bits_four real us)]) [] [] (Try.f121.body.getD .skip) ⟨zipSl 0 [.rb 1 (.bt xs)], [], 64⟩ (retOk real (tt real) false Try.f121.results.toList [.val (.w32 (us.little xs))]) := by
  generalize hU : us = U
  generalize hF : real = F
  cbv
  subst hF hU
  simp only [real, us, u_big, u_little, Int.cast_ofNat_Int]
  refine ⟨by omega, by omega, by omega, by omega, by omega, by omega, by omega, by omega, by omega, by omega, by omega, ?_, trivial⟩
  have e (b : UInt8) : UInt32.ofNat ((b.toNat : Int) % 2 ^ 32).toNat = UInt32.ofNat b.toNat := by congr 1; have := b.toNat_lt; omega
  have h24 : (min (((UInt64.ofNat ((24 : Int) % 2 ^ 64).toNat).toNat : Int)).toNat 32) = 24 := by decide
  have h16 : (min (((UInt64.ofNat ((16 : Int) % 2 ^ 64).toNat).toNat : Int)).toNat 32) = 16 := by decide
  have h8 : (min (((UInt64.ofNat ((8 : Int) % 2 ^ 64).toNat).toNat : Int)).toNat 32) = 8 := by decide
  simp only [e, h24, h16, h8, shl32_c _ 24 (by omega), shl32_c _ 16 (by omega), shl32_c _ 8 (by omega)]
  rfl
theorem k_bits_Little : SpecOK Try.prog 121 (s_bits_Little real us) := by
  refine pure_sound (x := X Try.f121 real [(140, s_bits_four real us)]) (X_ok ok_bits_four) mixed Try.func121 rfl rfl (by kernel_rfl) ?_
  intro l c rs hg hc
  unfold g_bits_Little at hg
  split at hg
  · cases hg; exact ⟨Nat.le_of_ble_eq_true rfl, [], [], c_bits_Little _⟩
  · cases hg
def g_bits_width (U : Us) : Law
  | [.i n] => some (True, [.val (.i (U.wid n))])
  | _ => none
def s_bits_width (F : Fs) (U : Us) : Vc.Spec := pureSpec F false [.keep] (g_bits_width U)
theorem r_bits_width : Ready Try.prog 129 := by unfold Ready; kernel_rfl
theorem c_bits_width (n : Int) : vc real (X Try.f129 real []) [] [] (Try.f129.body.getD .skip) ⟨zipSl 0 [.i n], [], 64⟩ (retOk real (tt real) false Try.f129.results.toList [.val (.i (us.wid n))]) := by
  generalize hU : us = U
  generalize hF : real = F
  cbv
  subst hF hU
  simp only [real, us, Int.cast_ofNat_Int]
  refine ⟨?_, trivial⟩
  omega
theorem k_bits_width : SpecOK Try.prog 129 (s_bits_width real us) := by
  refine pure_sound (x := X Try.f129 real []) (X_ok sp_nil) mixed Try.func129 rfl rfl (by kernel_rfl) ?_
  intro l c rs hg hc
  unfold g_bits_width at hg
  split at hg
  · cases hg; exact ⟨Nat.le_of_ble_eq_true rfl, [], [], c_bits_width _⟩
  · cases hg
end Go.Proofs.Ytmldccfchnlpgaa
set_option linter.unusedVariables false
set_option linter.unusedSimpArgs false
set_option maxRecDepth 100000
set_option maxHeartbeats 4000000
namespace Go.Proofs.Ytmldccfchnlpgaa
open Go Go.Vc
/-- reading a number off a row of the caller's own, long enough -/
def g_bits_Get_o (F : Fs) (U : Us) : HLaw := fun l mm => match l, mm with
  | [.rw 0, .i n], [.row T e (.bt xs)] => match Nat.beq T 5, Nat.beq e 1 with
    | true, true => some (F.pLe (F.nat (U.wid n)) (F.lenB xs), [.val (.w64 (U.gv (F.cutB xs 0 (F.nat (U.wid n))))), .val (.sl 0 0 0 1 (F.nat (U.wid n)) (F.subn (F.lenB xs) (F.nat (U.wid n)))), .val (.i (F.int 0))], [none])
    | _, _ => none
  | _, _ => none
def X1 (fn : Func) (F : Fs) (sp : Specs) : Cx := ⟨fn.ntmps, tt F, sp, [], [], [0], []⟩
def an_bits_Get_o (F : Fs) (U : Us) (xs : List UInt8) (n : Int) : Anns := [(6, ⟨Nat, fun i => i ≤ F.nat (U.wid n), fun i => F.subn (F.nat (U.wid n)) i, fun i =>
  ⟨[(0, .rw 0), (1, .i n), (7, .i (U.wid n)), (8, .w64 (U.gv (F.cutB xs 0 i))), (20, .sl 0 0 0 1 0 (F.nat (U.wid n))), (21, .i (U.wid n)), (22, .i (F.int i))], [(0, 0, .row 5 1 (.bt xs))]⟩⟩)]
def s_bits_Get_o (F : Fs) (U : Us) : Vc.Spec := hSpec 1 (g_bits_Get_o F U)
def g_bits_PutBig (U : Us) : Law
  | [.w32 x] => some (True, [.val (.ag 4 (.bt (U.putBig x)))])
  | _ => none
def s_bits_PutBig (F : Fs) (U : Us) : Vc.Spec := pureSpec F false [.keep] (g_bits_PutBig U)
theorem r_bits_PutBig : Ready Try.prog 103 := by unfold Ready; kernel_rfl
theorem c_bits_PutBig (x : UInt32) : vc real (X Try.f103 real []) [] [] (Try.f103.body.getD .skip) ⟨zipSl 0 [.w32 x], [], 64⟩ (retOk real (tt real) false Try.f103.results.toList [.val (.ag 4 (.bt (us.putBig x)))]) := by
  generalize hU : us = U
  generalize hF : real = F
  cbv
  subst hF hU
  simp only [real, us, u_putBig, u_putLittle, Int.cast_ofNat_Int]
  refine ⟨by omega, by omega, by omega, trivial, trivial⟩
theorem k_bits_PutBig : SpecOK Try.prog 103 (s_bits_PutBig real us) := by
  refine pure_sound (x := X Try.f103 real []) (X_ok sp_nil) mixed Try.func103 rfl rfl (by kernel_rfl) ?_
  intro l c rs hg hc
  unfold g_bits_PutBig at hg
  split at hg
  · cases hg; exact ⟨Nat.le_of_ble_eq_true rfl, [], [], c_bits_PutBig _⟩
  · cases hg
end Go.Proofs.Ytmldccfchnlpgaa
set_option linter.unusedVariables false
set_option linter.unusedSimpArgs false
set_option maxRecDepth 100000
set_option maxHeartbeats 4000000
namespace Go.Proofs.Ytmldccfchnlpgaa
open Go Go.Vc
end Go.Proofs.Ytmldccfchnlpgaa
set_option linter.unusedVariables false
set_option linter.unusedSimpArgs false
set_option maxRecDepth 100000
set_option maxHeartbeats 4000000
namespace Go.Proofs.Ytmldccfchnlpgaa
open Go Go.Vc
theorem xorP_step (xs ys : List UInt8) (i : Nat) (h : i < min xs.length ys.length) : (us.xorP xs ys i).set i (xs.getD i 0 ^^^ ys.getD i 0) = us.xorP xs ys (i + 1) :=
  fill_step _ _ _ _ 0 _ (by simp) h (zipWith_getD _ _ _ _ _ _ _ (by omega) (by omega))
theorem r_bits_Xor : Ready Try.prog 95 := by unfold Ready; kernel_rfl
noncomputable def sp_bits_Xor (F : Fs) (U : Us) : Specs := []
theorem ok_bits_Xor : SpecsOK Try.prog (sp_bits_Xor real us) := sp_nil
noncomputable def an_bits_Xor (F : Fs) (U : Us) (xs ys : List UInt8) : Anns := [(3, ⟨Nat, fun i => i ≤ U.mn xs ys, fun i => F.subn (U.mn xs ys) i, fun i =>
  ⟨[(0, .rb 1 (.bt xs)), (1, .rb 1 (.bt ys)), (5, .rw 0), (14, .i (F.int (U.mn xs ys))), (15, .i (F.int i))], [(5, 0, .row 5 1 (.bt (U.xorP xs ys i)))]⟩⟩)]
noncomputable def g_bits_Xor (F : Fs) (U : Us) : Law
  | [.rb 1 (.bt xs), .rb 1 (.bt ys)] => some (F.pLe (F.lenB xs) 1000000 ∧ F.pLe (F.lenB ys) 1000000, [.row 5 1 (.bt (U.xor xs ys))])
  | _ => none
noncomputable def s_bits_Xor (F : Fs) (U : Us) : Vc.Spec := pureSpec F false [.row .kB, .row .kB] (g_bits_Xor F U)
noncomputable def x_bits_Xor (F : Fs) (U : Us) : Cx := ⟨Try.f95.ntmps, tt F, sp_bits_Xor F U, [], [(5, ([(8, [4, 5]), (9, [4, 5])], []))], [], []⟩
theorem c_bits_Xor (xs ys : List UInt8) (hc : real.pLe (real.lenB xs) 1000000 ∧ real.pLe (real.lenB ys) 1000000) : vc real (x_bits_Xor real us) (an_bits_Xor real us xs ys) [] (Try.f95.body.getD .skip) ⟨zipSl 0 [.rb 1 (.bt xs), .rb 1 (.bt ys)], [], 64⟩ (retOk real (tt real) false Try.f95.results.toList [.row 5 1 (.bt (us.xor xs ys))]) := by
  generalize hU : us = U
  generalize hF : real = F
  cbv
  refine ⟨⟨?_, ?_, ?_⟩, ⟨(0 : Nat), ?_⟩, fun (i : Nat) hi => ?_⟩
  · (subst hF hU; simp only [real, us, Nat.le_eq, Nat.succ_eq_add_one, Int.cast_ofNat_Int, decide_eq_false_iff_not, decide_eq_true_eq, Bool.not_eq_true, Bool.not_eq_false, decide_not, Nat.not_lt, Nat.not_le] at *; omega)
  · (subst hF hU; simp only [real, us, Nat.le_eq, Nat.succ_eq_add_one, Int.cast_ofNat_Int, decide_eq_false_iff_not, decide_eq_true_eq, Bool.not_eq_true, Bool.not_eq_false, decide_not, Nat.not_lt, Nat.not_le] at *; omega)
  · (subst hF hU; simp only [real, us, Nat.le_eq, Nat.succ_eq_add_one, Int.cast_ofNat_Int, decide_eq_false_iff_not, decide_eq_true_eq, Bool.not_eq_true, Bool.not_eq_false, decide_not, Nat.not_lt, Nat.not_le] at *; omega)
  · cbv
    subst hF hU
    simp only [real, us, Nat.le_eq, Nat.succ_eq_add_one, Int.cast_ofNat_Int, decide_eq_false_iff_not, decide_eq_true_eq, Bool.not_eq_true, Bool.not_eq_false, decide_not, Nat.not_lt, Nat.not_le] at *
    rw [min_if]
    exact ⟨Nat.zero_le _, ⟨by simp, trivial⟩, by simp, trivial⟩
  · replace hi : i ≤ U.mn xs ys := hi
    cbv
    refine ⟨?_, ?_⟩
    · by_cases hlt : i < U.mn xs ys
      · right
        have hn : U.mn xs ys = min xs.length ys.length := by subst hU; rfl
        have hl : (U.xorP xs ys i).length = min xs.length ys.length := by subst hU; exact fill_len _ _ _ _ (by simp) (by omega)
        have hs := xorP_step xs ys i (by omega)
        refine ⟨?_, ?_, ?_, ?_, ⟨(i + 1 : Nat), ?_⟩⟩
        · (subst hF hU; simp only [real, us, Nat.le_eq, Nat.succ_eq_add_one, Int.cast_ofNat_Int, decide_eq_false_iff_not, decide_eq_true_eq, Bool.not_eq_true, Bool.not_eq_false, decide_not, Nat.not_lt, Nat.not_le] at *; omega)
        · (subst hF hU; simp only [real, us, Nat.le_eq, Nat.succ_eq_add_one, Int.cast_ofNat_Int, decide_eq_false_iff_not, decide_eq_true_eq, Bool.not_eq_true, Bool.not_eq_false, decide_not, Nat.not_lt, Nat.not_le] at *; omega)
        · (subst hF hU; simp only [real, us, Nat.le_eq, Nat.succ_eq_add_one, Int.cast_ofNat_Int, decide_eq_false_iff_not, decide_eq_true_eq, Bool.not_eq_true, Bool.not_eq_false, decide_not, Nat.not_lt, Nat.not_le] at *; omega)
        · (subst hF hU; simp only [real, us, Nat.le_eq, Nat.succ_eq_add_one, Int.cast_ofNat_Int, decide_eq_false_iff_not, decide_eq_true_eq, Bool.not_eq_true, Bool.not_eq_false, decide_not, Nat.not_lt, Nat.not_le] at *; omega)
        · cbv
          subst hF hU
          simp only [real, us, Nat.le_eq, Nat.succ_eq_add_one, Int.cast_ofNat_Int, decide_eq_false_iff_not, decide_eq_true_eq, Bool.not_eq_true, Bool.not_eq_false, decide_not, Nat.not_lt, Nat.not_le] at *
          refine ⟨by omega, by omega, ⟨wrap_sm (by omega) (by omega), trivial⟩, ?_, trivial⟩
          exact hs
      · left
        (subst hF hU; simp only [real, us, Nat.le_eq, Nat.succ_eq_add_one, Int.cast_ofNat_Int, decide_eq_false_iff_not, decide_eq_true_eq, Bool.not_eq_true, Bool.not_eq_false, decide_not, Nat.not_lt, Nat.not_le] at *; omega)
    · by_cases hlt : i < U.mn xs ys
      · left
        (subst hF hU; simp only [real, us, Nat.le_eq, Nat.succ_eq_add_one, Int.cast_ofNat_Int, decide_eq_false_iff_not, decide_eq_true_eq, Bool.not_eq_true, Bool.not_eq_false, decide_not, Nat.not_lt, Nat.not_le] at *; omega)
      · right
        have hi' : i = U.mn xs ys := Nat.le_antisymm hi (Nat.le_of_not_lt hlt)
        clear hi hlt
        subst hF hU
        subst hi'
        simp only [real, us, Nat.le_eq, Nat.succ_eq_add_one, Int.cast_ofNat_Int, decide_eq_false_iff_not, decide_eq_true_eq, Bool.not_eq_true, Bool.not_eq_false, decide_not, Nat.not_lt, Nat.not_le] at *
        exact ⟨by simp [List.take_of_length_le], trivial⟩
theorem k_bits_Xor : SpecOK Try.prog 95 (s_bits_Xor real us) := by
  refine pure_sound (x := x_bits_Xor real us) ⟨tt_ok, ok_bits_Xor, Go.Vc.ks_nil⟩ mixed Try.func95 rfl rfl (by kernel_rfl) ?_
  intro l c rs hg hc
  unfold g_bits_Xor at hg
  split at hg
  · cases hg; exact ⟨Nat.le_of_ble_eq_true rfl, an_bits_Xor real us _ _, [], c_bits_Xor _ _ hc⟩
  · cases hg

end Go.Proofs.Ytmldccfchnlpgaa
set_option linter.unusedVariables false
set_option linter.unusedSimpArgs false
set_option maxRecDepth 100000
set_option maxHeartbeats 4000000
namespace Go.Proofs.Ytmldccfchnlpgaa
open Go Go.Vc
theorem putK_len (x : UInt64) : ∀ k, (putK x k).length = k
  | 0 => rfl
  | k + 1 => by simp [putK, putK_len x k]
theorem byte_eq (x : UInt64) (k : Nat) (h : k < 8) : UInt8.ofNat (((UInt64.ofNat (x.toNat / 2 ^ (min ((8 * k : Nat) : Int).toNat 64))).toNat : Int) % 2 ^ 8).toNat = UInt8.ofNat (x.toNat / 2 ^ (8 * k)) := by
  have h1 : min ((8 * k : Nat) : Int).toNat 64 = 8 * k := by omega
  rw [h1]
  generalize hq : x.toNat / 2 ^ (8 * k) = q
  have h2 : q < 18446744073709551616 := by rw [← hq]; exact Nat.lt_of_le_of_lt (Nat.div_le_self _ _) x.toNat_lt
  rw [UInt64.toNat_ofNat_of_lt' h2]
  apply UInt8.toNat_inj.1
  simp
  omega
theorem byte_eqI (x : UInt64) (k : Nat) (e : Int) (he : e = ((8 * k : Nat) : Int)) (h : k < 8) : UInt8.ofNat (((UInt64.ofNat (x.toNat / 2 ^ (min e.toNat 64))).toNat : Int) % 2 ^ 8).toNat = UInt8.ofNat (x.toNat / 2 ^ (8 * k)) := by
  subst he; exact byte_eq x k h
noncomputable def sp_bits_Put_n (F : Fs) (U : Us) : Specs := [(129, s_bits_width F U)]
theorem ok_bits_Put_n : SpecsOK Try.prog (sp_bits_Put_n real us) := sp_cons r_bits_width k_bits_width sp_nil
noncomputable def an_bits_Put_n (F : Fs) (U : Us) (x : UInt64) (n : Int) : Anns := [(2, ⟨Nat × List UInt8, fun s => s.1 ≤ 8 ∧ F.appB s.2 (U.putK x s.1) = U.put x n, fun s => s.1, fun s =>
  ⟨[(0, .rw 5), (1, .w64 x), (7, .i (U.pred s.1))], [(0, 5, .row 5 1 (.bt s.2))]⟩⟩)]
noncomputable def g_bits_Put_n (F : Fs) (U : Us) : Law
  | [.nl, .w64 x, .i n] => some (True, [.row 5 1 (.bt (U.put x n))])
  | _ => none
noncomputable def s_bits_Put_n (F : Fs) (U : Us) : Vc.Spec := pureSpec F false [.keep, .keep, .keep] (g_bits_Put_n F U)
noncomputable def x_bits_Put_n (F : Fs) (U : Us) : Cx := ⟨Try.f106.ntmps, tt F, sp_bits_Put_n F U, [], [], [], []⟩
theorem c_bits_Put_n (x : UInt64) (n : Int) : vc real (x_bits_Put_n real us) (an_bits_Put_n real us x n) [] (Try.f106.body.getD .skip) ⟨zipSl 0 [.nl, .w64 x, .i n], [], 64⟩ (retOk real (tt real) false Try.f106.results.toList [.row 5 1 (.bt (us.put x n))]) := by
  generalize hU : us = U
  generalize hF : real = F
  cbv
  refine ⟨⟨((F.nat (U.wid n), []) : Nat × List UInt8), ?_⟩, fun (s : Nat × List UInt8) hs => ?_⟩
  · cbv
    subst hF hU
    simp only [real, us, Nat.le_eq, Nat.succ_eq_add_one, Int.cast_ofNat_Int, decide_eq_false_iff_not, decide_eq_true_eq, Bool.not_eq_true, Bool.not_eq_false, decide_not, Nat.not_lt, Nat.not_le]
    refine ⟨⟨by omega, by simp⟩, ⟨?_, trivial⟩, trivial⟩
    rw [wrap_sm (by omega) (by omega)]
    omega
  · replace hs : s.1 ≤ 8 ∧ F.appB s.2 (U.putK x s.1) = U.put x n := hs
    obtain ⟨k, zs⟩ := s
    obtain ⟨h8, hz⟩ := hs
    simp only at h8 hz
    have hl : zs.length + k ≤ 8 := by
      have := congrArg List.length hz
      subst hU hF
      simp only [real, us, List.length_append, putK_len] at this
      omega
    cbv
    rcases k with _ | k
    · refine ⟨.inl ?_, .inr ⟨?_, trivial⟩⟩
      · subst hF hU; simp only [real, us, Nat.le_eq, Nat.succ_eq_add_one, Int.cast_ofNat_Int, decide_eq_false_iff_not, decide_eq_true_eq, Bool.not_eq_true, Bool.not_eq_false, decide_not, Nat.not_lt, Nat.not_le]; omega
      · subst hU; subst hF; simpa [real, us, putK] using hz
    · have hw : IntKind.i64.wrap (8 * (((k + 1 : Nat) : Int) - 1)) = ((8 * k : Nat) : Int) := by rw [wrap_sm (by omega) (by omega)]; omega
      obtain ⟨y, hy⟩ : ∃ y, y = UInt8.ofNat (x.toNat / 2 ^ (8 * k)) := ⟨_, rfl⟩
      refine ⟨.inr ⟨?_, ?_, ⟨((k, F.appB zs [y]) : Nat × List UInt8), ?_⟩⟩, .inl ?_⟩
      · subst hF hU; simp only [real, us, Nat.le_eq, Nat.succ_eq_add_one, Int.cast_ofNat_Int, decide_eq_false_iff_not, decide_eq_true_eq, Bool.not_eq_true, Bool.not_eq_false, decide_not, Nat.not_lt, Nat.not_le]; omega
      · subst hF; simp only [real, List.length_append, List.length_cons, List.length_nil]; omega
      · cbv; subst hF hU; simp only [real, us, Nat.le_eq, Nat.succ_eq_add_one, Int.cast_ofNat_Int, decide_eq_false_iff_not, decide_eq_true_eq, Bool.not_eq_true, Bool.not_eq_false, decide_not, Nat.not_lt, Nat.not_le]; simp only [real, us, putK] at hz; refine ⟨⟨by omega, ?_⟩, by omega, ⟨by rw [wrap_sm (by omega) (by omega)]; omega, trivial⟩, ?_, trivial⟩
        · rw [← hz, hy, List.append_assoc]; rfl
        · exact congrArg (fun b => zs ++ [b]) ((byte_eqI x k _ hw (by omega)).trans hy.symm)
      · subst hF hU; simp only [real, us, Nat.le_eq, Nat.succ_eq_add_one, Int.cast_ofNat_Int, decide_eq_false_iff_not, decide_eq_true_eq, Bool.not_eq_true, Bool.not_eq_false, decide_not, Nat.not_lt, Nat.not_le]; omega
theorem k_bits_Put_n : SpecOK Try.prog 106 (s_bits_Put_n real us) := by
  refine pure_sound (x := x_bits_Put_n real us) ⟨tt_ok, ok_bits_Put_n, Go.Vc.ks_nil⟩ mixed Try.func106 rfl rfl (by kernel_rfl) ?_
  intro l c rs hg hc
  unfold g_bits_Put_n at hg
  split at hg
  · cases hg; exact ⟨Nat.le_of_ble_eq_true rfl, an_bits_Put_n real us _ _, [], c_bits_Put_n _ _⟩
  · cases hg

noncomputable def sp_bits_Put_r (F : Fs) (U : Us) : Specs := [(129, s_bits_width F U)]
theorem ok_bits_Put_r : SpecsOK Try.prog (sp_bits_Put_r real us) := sp_cons r_bits_width k_bits_width sp_nil
noncomputable def an_bits_Put_r (F : Fs) (U : Us) (xs : List UInt8) (x : UInt64) (n : Int) : Anns := [(2, ⟨Nat × List UInt8, fun s => s.1 ≤ 8 ∧ F.appB s.2 (U.putK x s.1) = U.put x n, fun s => s.1, fun s =>
  ⟨[(0, .rw 5), (1, .w64 x), (7, .i (U.pred s.1))], [(0, 5, .row 5 1 (.bt (F.appB xs s.2)))]⟩⟩)]
noncomputable def g_bits_Put_r (F : Fs) (U : Us) : HLaw := fun l mm => match l, mm with
  | [.rw 0, .w64 x, .i n], [.row T0 e0 (.bt xs)] => match Nat.beq T0 5, Nat.beq e0 1 with
    | true, true => some (F.pLe (F.lenB xs) 1000000, [.row 5 1 (.bt (F.appB xs (U.put x n)))], [some .dead])
    | _, _ => none
  | _, _ => none
noncomputable def s_bits_Put_r (F : Fs) (U : Us) : Vc.Spec := hSpec 1 (g_bits_Put_r F U)
noncomputable def x_bits_Put_r (F : Fs) (U : Us) : Cx := ⟨Try.f106.ntmps, tt F, sp_bits_Put_r F U, [], [], [0], []⟩
theorem c_bits_Put_r (xs : List UInt8) (x : UInt64) (n : Int) (hc : real.pLe (real.lenB xs) 1000000) : vc real (x_bits_Put_r real us) (an_bits_Put_r real us xs x n) [] (Try.f106.body.getD .skip) ⟨zipSl 0 [.rw 0, .w64 x, .i n], zipMe 0 [.row 5 1 (.bt xs)], 64⟩ (retHOk real (tt real) Try.f106.results.toList [.row 5 1 (.bt xs)] [.row 5 1 (.bt (real.appB xs (us.put x n)))] [some .dead]) := by
  generalize hU : us = U
  generalize hF : real = F
  cbv
  refine ⟨⟨((F.nat (U.wid n), []) : Nat × List UInt8), ?_⟩, fun (s : Nat × List UInt8) hs => ?_⟩
  · cbv
    subst hF hU
    simp only [real, us, Nat.le_eq, Nat.succ_eq_add_one, Int.cast_ofNat_Int, decide_eq_false_iff_not, decide_eq_true_eq, Bool.not_eq_true, Bool.not_eq_false, decide_not, Nat.not_lt, Nat.not_le]
    refine ⟨⟨by omega, by simp⟩, ⟨?_, trivial⟩, by simp, trivial⟩
    rw [wrap_sm (by omega) (by omega)]
    omega
  · replace hs : s.1 ≤ 8 ∧ F.appB s.2 (U.putK x s.1) = U.put x n := hs
    obtain ⟨k, zs⟩ := s
    obtain ⟨h8, hz⟩ := hs
    simp only at h8 hz
    have hl : zs.length + k ≤ 8 := by
      have := congrArg List.length hz
      subst hU hF
      simp only [real, us, List.length_append, putK_len] at this
      omega
    cbv
    rcases k with _ | k
    · refine ⟨.inl ?_, .inr ⟨?_, trivial⟩⟩
      · subst hF hU; simp only [real, us, Nat.le_eq, Nat.succ_eq_add_one, Int.cast_ofNat_Int, decide_eq_false_iff_not, decide_eq_true_eq, Bool.not_eq_true, Bool.not_eq_false, decide_not, Nat.not_lt, Nat.not_le]; omega
      · subst hU; subst hF; simpa [real, us, putK] using hz
    · have hw : IntKind.i64.wrap (8 * (((k + 1 : Nat) : Int) - 1)) = ((8 * k : Nat) : Int) := by rw [wrap_sm (by omega) (by omega)]; omega
      obtain ⟨y, hy⟩ : ∃ y, y = UInt8.ofNat (x.toNat / 2 ^ (8 * k)) := ⟨_, rfl⟩
      refine ⟨.inr ⟨?_, ?_, ⟨((k, F.appB zs [y]) : Nat × List UInt8), ?_⟩⟩, .inl ?_⟩
      · subst hF hU; simp only [real, us, Nat.le_eq, Nat.succ_eq_add_one, Int.cast_ofNat_Int, decide_eq_false_iff_not, decide_eq_true_eq, Bool.not_eq_true, Bool.not_eq_false, decide_not, Nat.not_lt, Nat.not_le]; omega
      · subst hF; simp only [real, List.length_append, List.length_cons, List.length_nil]; have hx : xs.length ≤ 1000000 := hc; omega
      · cbv; subst hF hU; simp only [real, us, Nat.le_eq, Nat.succ_eq_add_one, Int.cast_ofNat_Int, decide_eq_false_iff_not, decide_eq_true_eq, Bool.not_eq_true, Bool.not_eq_false, decide_not, Nat.not_lt, Nat.not_le]; simp only [real, us, putK] at hz; refine ⟨⟨by omega, ?_⟩, by omega, ⟨by rw [wrap_sm (by omega) (by omega)]; omega, trivial⟩, ?_, trivial⟩
        · rw [← hz, hy, List.append_assoc]; rfl
        · rw [List.append_assoc]; exact congrArg (fun b => xs ++ (zs ++ [b])) ((byte_eqI x k _ hw (by omega)).trans hy.symm)
      · subst hF hU; simp only [real, us, Nat.le_eq, Nat.succ_eq_add_one, Int.cast_ofNat_Int, decide_eq_false_iff_not, decide_eq_true_eq, Bool.not_eq_true, Bool.not_eq_false, decide_not, Nat.not_lt, Nat.not_le]; omega
theorem k_bits_Put_r : SpecOK Try.prog 106 (s_bits_Put_r real us) := by
  refine h_sound (x := x_bits_Put_r real us) ⟨tt_ok, ok_bits_Put_r, Go.Vc.ks_nil⟩ mixed Try.func106 rfl rfl (by kernel_rfl) (by decide) (fun j hj => by simp [x_bits_Put_r]; omega) ?_
  intro l mm c rs ch hg hl hc
  unfold g_bits_Put_r at hg
  split at hg
  · split at hg
    · rename_i h0 h1
      have z0 := beq_nat h0
      have z1 := beq_nat h1
      subst z0
      subst z1
      cases hg
      exact ⟨Nat.le_of_ble_eq_true rfl, an_bits_Put_r real us _ _ _, [], c_bits_Put_r _ _ _ hc⟩
    · cases hg
  · cases hg

noncomputable def s_bits_Put (F : Fs) (U : Us) : Vc.Spec := pick4 (s_bits_Put_n F U) noSpec (s_bits_Put_r F U) noSpec
theorem r_bits_Put : Ready Try.prog 106 := by unfold Ready; kernel_rfl
theorem k_bits_Put : SpecOK Try.prog 106 (s_bits_Put real us) := pick4_ok k_bits_Put_n no_ok k_bits_Put_r no_ok
theorem mul8u (k : Nat) (h : k < 8) : real.toI64 (real.mul64 (real.ofI64 (real.int 8)) (real.ofI64 (us.pred (k + 1)))) = ((8 * k : Nat) : Int) := by
  have : ∀ k : Fin 8, real.toI64 (real.mul64 (real.ofI64 (real.int 8)) (real.ofI64 (us.pred (k.val + 1)))) = ((8 * k.val : Nat) : Int) := by decide
  exact this ⟨k, h⟩
noncomputable def sp_ref1_Put_n (F : Fs) (U : Us) : Specs := []
theorem ok_ref1_Put_n : SpecsOK Try.prog (sp_ref1_Put_n real us) := sp_nil
noncomputable def an_ref1_Put_n (F : Fs) (U : Us) (x : UInt64) (n : Int) : Anns := [(3, ⟨Nat × List UInt8, fun s => s.1 ≤ 8 ∧ F.appB s.2 (U.putK x s.1) = U.put x n, fun s => s.1, fun s =>
  ⟨[(0, .rw 5), (1, .w64 x), (8, .i (U.pred s.1))], [(0, 5, .row 5 1 (.bt s.2))]⟩⟩)]
noncomputable def g_ref1_Put_n (F : Fs) (U : Us) : Law
  | [.nl, .w64 x, .i n] => some (True, [.row 5 1 (.bt (U.put x n))])
  | _ => none
noncomputable def s_ref1_Put_n (F : Fs) (U : Us) : Vc.Spec := pureSpec F false [.keep, .keep, .keep] (g_ref1_Put_n F U)
noncomputable def x_ref1_Put_n (F : Fs) (U : Us) : Cx := ⟨Try.f97.ntmps, tt F, sp_ref1_Put_n F U, [], [], [], []⟩
theorem c_ref1_Put_n (x : UInt64) (n : Int) : vc real (x_ref1_Put_n real us) (an_ref1_Put_n real us x n) [] (Try.f97.body.getD .skip) ⟨zipSl 0 [.nl, .w64 x, .i n], [], 64⟩ (retOk real (tt real) false Try.f97.results.toList [.row 5 1 (.bt (us.put x n))]) := by
  generalize hU : us = U
  generalize hF : real = F
  cbv
  refine ⟨⟨((F.nat (F.maxi (F.int 0) (F.mini n (F.int 8))), []) : Nat × List UInt8), ?_⟩, fun (s : Nat × List UInt8) hs => ?_⟩
  · cbv
    subst hF hU
    simp only [real, us, Nat.le_eq, Nat.succ_eq_add_one, Int.cast_ofNat_Int, decide_eq_false_iff_not, decide_eq_true_eq, Bool.not_eq_true, Bool.not_eq_false, decide_not, Nat.not_lt, Nat.not_le]
    refine ⟨⟨by omega, by simp only [List.nil_append]; congr 1; omega⟩, ⟨?_, trivial⟩, trivial⟩
    rw [wrap_sm (by omega) (by omega)]
    omega
  · replace hs : s.1 ≤ 8 ∧ F.appB s.2 (U.putK x s.1) = U.put x n := hs
    obtain ⟨k, zs⟩ := s
    obtain ⟨h8, hz⟩ := hs
    simp only at h8 hz
    have hl : zs.length + k ≤ 8 := by
      have := congrArg List.length hz
      subst hU hF
      simp only [real, us, List.length_append, putK_len] at this
      omega
    cbv
    rcases k with _ | k
    · refine ⟨.inl ?_, .inr ⟨?_, trivial⟩⟩
      · subst hF hU; simp only [real, us, Nat.le_eq, Nat.succ_eq_add_one, Int.cast_ofNat_Int, decide_eq_false_iff_not, decide_eq_true_eq, Bool.not_eq_true, Bool.not_eq_false, decide_not, Nat.not_lt, Nat.not_le]; omega
      · subst hU; subst hF; simpa [real, us, putK] using hz
    · have hw := mul8u k (by omega)
      simp only [real, us, Int.cast_ofNat_Int] at hw
      obtain ⟨y, hy⟩ : ∃ y, y = UInt8.ofNat (x.toNat / 2 ^ (8 * k)) := ⟨_, rfl⟩
      refine ⟨.inr ⟨?_, ?_, ⟨((k, F.appB zs [y]) : Nat × List UInt8), ?_⟩⟩, .inl ?_⟩
      · subst hF hU; simp only [real, us, Nat.le_eq, Nat.succ_eq_add_one, Int.cast_ofNat_Int, decide_eq_false_iff_not, decide_eq_true_eq, Bool.not_eq_true, Bool.not_eq_false, decide_not, Nat.not_lt, Nat.not_le]; omega
      · subst hF; simp only [real, List.length_append, List.length_cons, List.length_nil]; omega
      · cbv; subst hF hU; simp only [real, us, Nat.le_eq, Nat.succ_eq_add_one, Int.cast_ofNat_Int, decide_eq_false_iff_not, decide_eq_true_eq, Bool.not_eq_true, Bool.not_eq_false, decide_not, Nat.not_lt, Nat.not_le]; simp only [real, us, putK] at hz; refine ⟨⟨by omega, ?_⟩, by omega, ⟨by rw [wrap_sm (by omega) (by omega)]; omega, trivial⟩, ?_, trivial⟩
        · rw [← hz, hy, List.append_assoc]; rfl
        · exact congrArg (fun b => zs ++ [b]) ((byte_eqI x k _ hw (by omega)).trans hy.symm)
      · subst hF hU; simp only [real, us, Nat.le_eq, Nat.succ_eq_add_one, Int.cast_ofNat_Int, decide_eq_false_iff_not, decide_eq_true_eq, Bool.not_eq_true, Bool.not_eq_false, decide_not, Nat.not_lt, Nat.not_le]; omega
theorem k_ref1_Put_n : SpecOK Try.prog 97 (s_ref1_Put_n real us) := by
  refine pure_sound (x := x_ref1_Put_n real us) ⟨tt_ok, ok_ref1_Put_n, Go.Vc.ks_nil⟩ mixed Try.func97 rfl rfl (by kernel_rfl) ?_
  intro l c rs hg hc
  unfold g_ref1_Put_n at hg
  split at hg
  · cases hg; exact ⟨Nat.le_of_ble_eq_true rfl, an_ref1_Put_n real us _ _, [], c_ref1_Put_n _ _⟩
  · cases hg

noncomputable def sp_ref1_Put_r (F : Fs) (U : Us) : Specs := []
theorem ok_ref1_Put_r : SpecsOK Try.prog (sp_ref1_Put_r real us) := sp_nil
noncomputable def an_ref1_Put_r (F : Fs) (U : Us) (xs : List UInt8) (x : UInt64) (n : Int) : Anns := [(3, ⟨Nat × List UInt8, fun s => s.1 ≤ 8 ∧ F.appB s.2 (U.putK x s.1) = U.put x n, fun s => s.1, fun s =>
  ⟨[(0, .rw 5), (1, .w64 x), (8, .i (U.pred s.1))], [(0, 5, .row 5 1 (.bt (F.appB xs s.2)))]⟩⟩)]
noncomputable def g_ref1_Put_r (F : Fs) (U : Us) : HLaw := fun l mm => match l, mm with
  | [.rw 0, .w64 x, .i n], [.row T0 e0 (.bt xs)] => match Nat.beq T0 5, Nat.beq e0 1 with
    | true, true => some (F.pLe (F.lenB xs) 1000000, [.row 5 1 (.bt (F.appB xs (U.put x n)))], [some .dead])
    | _, _ => none
  | _, _ => none
noncomputable def s_ref1_Put_r (F : Fs) (U : Us) : Vc.Spec := hSpec 1 (g_ref1_Put_r F U)
noncomputable def x_ref1_Put_r (F : Fs) (U : Us) : Cx := ⟨Try.f97.ntmps, tt F, sp_ref1_Put_r F U, [], [], [0], []⟩
theorem c_ref1_Put_r (xs : List UInt8) (x : UInt64) (n : Int) (hc : real.pLe (real.lenB xs) 1000000) : vc real (x_ref1_Put_r real us) (an_ref1_Put_r real us xs x n) [] (Try.f97.body.getD .skip) ⟨zipSl 0 [.rw 0, .w64 x, .i n], zipMe 0 [.row 5 1 (.bt xs)], 64⟩ (retHOk real (tt real) Try.f97.results.toList [.row 5 1 (.bt xs)] [.row 5 1 (.bt (real.appB xs (us.put x n)))] [some .dead]) := by
  generalize hU : us = U
  generalize hF : real = F
  cbv
  refine ⟨⟨((F.nat (F.maxi (F.int 0) (F.mini n (F.int 8))), []) : Nat × List UInt8), ?_⟩, fun (s : Nat × List UInt8) hs => ?_⟩
  · cbv
    subst hF hU
    simp only [real, us, Nat.le_eq, Nat.succ_eq_add_one, Int.cast_ofNat_Int, decide_eq_false_iff_not, decide_eq_true_eq, Bool.not_eq_true, Bool.not_eq_false, decide_not, Nat.not_lt, Nat.not_le]
    refine ⟨⟨by omega, by simp only [List.nil_append]; congr 1; omega⟩, ⟨?_, trivial⟩, by simp, trivial⟩
    rw [wrap_sm (by omega) (by omega)]
    omega
  · replace hs : s.1 ≤ 8 ∧ F.appB s.2 (U.putK x s.1) = U.put x n := hs
    obtain ⟨k, zs⟩ := s
    obtain ⟨h8, hz⟩ := hs
    simp only at h8 hz
    have hl : zs.length + k ≤ 8 := by
      have := congrArg List.length hz
      subst hU hF
      simp only [real, us, List.length_append, putK_len] at this
      omega
    cbv
    rcases k with _ | k
    · refine ⟨.inl ?_, .inr ⟨?_, trivial⟩⟩
      · subst hF hU; simp only [real, us, Nat.le_eq, Nat.succ_eq_add_one, Int.cast_ofNat_Int, decide_eq_false_iff_not, decide_eq_true_eq, Bool.not_eq_true, Bool.not_eq_false, decide_not, Nat.not_lt, Nat.not_le]; omega
      · subst hU; subst hF; simpa [real, us, putK] using hz
    · have hw := mul8u k (by omega)
      simp only [real, us, Int.cast_ofNat_Int] at hw
      obtain ⟨y, hy⟩ : ∃ y, y = UInt8.ofNat (x.toNat / 2 ^ (8 * k)) := ⟨_, rfl⟩
      refine ⟨.inr ⟨?_, ?_, ⟨((k, F.appB zs [y]) : Nat × List UInt8), ?_⟩⟩, .inl ?_⟩
      · subst hF hU; simp only [real, us, Nat.le_eq, Nat.succ_eq_add_one, Int.cast_ofNat_Int, decide_eq_false_iff_not, decide_eq_true_eq, Bool.not_eq_true, Bool.not_eq_false, decide_not, Nat.not_lt, Nat.not_le]; omega
      · subst hF; simp only [real, List.length_append, List.length_cons, List.length_nil]; have hx : xs.length ≤ 1000000 := hc; omega
      · cbv; subst hF hU; simp only [real, us, Nat.le_eq, Nat.succ_eq_add_one, Int.cast_ofNat_Int, decide_eq_false_iff_not, decide_eq_true_eq, Bool.not_eq_true, Bool.not_eq_false, decide_not, Nat.not_lt, Nat.not_le]; simp only [real, us, putK] at hz; refine ⟨⟨by omega, ?_⟩, by omega, ⟨by rw [wrap_sm (by omega) (by omega)]; omega, trivial⟩, ?_, trivial⟩
        · rw [← hz, hy, List.append_assoc]; rfl
        · rw [List.append_assoc]; exact congrArg (fun b => xs ++ (zs ++ [b])) ((byte_eqI x k _ hw (by omega)).trans hy.symm)
      · subst hF hU; simp only [real, us, Nat.le_eq, Nat.succ_eq_add_one, Int.cast_ofNat_Int, decide_eq_false_iff_not, decide_eq_true_eq, Bool.not_eq_true, Bool.not_eq_false, decide_not, Nat.not_lt, Nat.not_le]; omega
theorem k_ref1_Put_r : SpecOK Try.prog 97 (s_ref1_Put_r real us) := by
  refine h_sound (x := x_ref1_Put_r real us) ⟨tt_ok, ok_ref1_Put_r, Go.Vc.ks_nil⟩ mixed Try.func97 rfl rfl (by kernel_rfl) (by decide) (fun j hj => by simp [x_ref1_Put_r]; omega) ?_
  intro l mm c rs ch hg hl hc
  unfold g_ref1_Put_r at hg
  split at hg
  · split at hg
    · rename_i h0 h1
      have z0 := beq_nat h0
      have z1 := beq_nat h1
      subst z0
      subst z1
      cases hg
      exact ⟨Nat.le_of_ble_eq_true rfl, an_ref1_Put_r real us _ _ _, [], c_ref1_Put_r _ _ _ hc⟩
    · cases hg
  · cases hg

noncomputable def s_ref1_Put (F : Fs) (U : Us) : Vc.Spec := pick4 (s_ref1_Put_n F U) noSpec (s_ref1_Put_r F U) noSpec
theorem r_ref1_Put : Ready Try.prog 97 := by unfold Ready; kernel_rfl
theorem k_ref1_Put : SpecOK Try.prog 97 (s_ref1_Put real us) := pick4_ok k_ref1_Put_n no_ok k_ref1_Put_r no_ok
end Go.Proofs.Ytmldccfchnlpgaa
set_option linter.unusedVariables false
set_option linter.unusedSimpArgs false
set_option maxRecDepth 100000
set_option maxHeartbeats 4000000
namespace Go.Proofs.Ytmldccfchnlpgaa
open Go Go.Vc
theorem r_bits_PutLittle : Ready Try.prog 93 := by unfold Ready; kernel_rfl
noncomputable def sp_bits_PutLittle (F : Fs) (U : Us) : Specs := []
theorem ok_bits_PutLittle : SpecsOK Try.prog (sp_bits_PutLittle real us) := sp_nil
noncomputable def g_bits_PutLittle (F : Fs) (U : Us) : Law
  | [.w32 x] => some (True, [.val (.ag 4 (.bt (U.putLittle x)))])
  | _ => none
noncomputable def s_bits_PutLittle (F : Fs) (U : Us) : Vc.Spec := pureSpec F false [.keep] (g_bits_PutLittle F U)
noncomputable def x_bits_PutLittle (F : Fs) (U : Us) : Cx := ⟨Try.f93.ntmps, tt F, sp_bits_PutLittle F U, [], [], [], []⟩
theorem c_bits_PutLittle (x : UInt32) : vc real (x_bits_PutLittle real us) [] [] (Try.f93.body.getD .skip) ⟨zipSl 0 [.w32 x], [], 64⟩ (retOk real (tt real) false Try.f93.results.toList [.val (.ag 4 (.bt (us.putLittle x)))]) := by
  generalize hU : us = U
  generalize hF : real = F
  cbv
  subst hF hU
  simp only [real, us, u_putBig, u_putLittle, Int.cast_ofNat_Int]
  refine ⟨by omega, by omega, by omega, trivial, trivial⟩
theorem k_bits_PutLittle : SpecOK Try.prog 93 (s_bits_PutLittle real us) := by
  refine pure_sound (x := x_bits_PutLittle real us) ⟨tt_ok, ok_bits_PutLittle, Go.Vc.ks_nil⟩ mixed Try.func93 rfl rfl (by kernel_rfl) ?_
  intro l c rs hg hc
  unfold g_bits_PutLittle at hg
  split at hg
  · cases hg; exact ⟨Nat.le_of_ble_eq_true rfl, [], [], c_bits_PutLittle _⟩
  · cases hg

noncomputable def sp_bits_Text_n (F : Fs) (U : Us) : Specs := [(106, s_bits_Put F U)]
noncomputable def g_bits_Text_n (F : Fs) (U : Us) : Law
  | [.nl, .s s] => some (F.pLe (F.lenB s) 1000000, [.row 5 1 (.bt (U.text s))])
  | _ => none
noncomputable def s_bits_Text_n (F : Fs) (U : Us) : Vc.Spec := pureSpec F false [.keep, .keep] (g_bits_Text_n F U)
noncomputable def x_bits_Text_n (F : Fs) (U : Us) : Cx := ⟨Try.f107.ntmps, tt F, sp_bits_Text_n F U, [], [], [], []⟩
noncomputable def sp_bits_Text_r (F : Fs) (U : Us) : Specs := [(106, s_bits_Put F U)]
noncomputable def g_bits_Text_r (F : Fs) (U : Us) : HLaw := fun l mm => match l, mm with
  | [.rw 0, .s s], [.row T0 e0 (.bt xs)] => match Nat.beq T0 5, Nat.beq e0 1 with
    | true, true => some (F.pLe (F.lenB s) 1000000 ∧ F.pLe (F.lenB xs) 900000, [.row 5 1 (.bt (F.appB xs (U.text s)))], [some .dead])
    | _, _ => none
  | _, _ => none
noncomputable def s_bits_Text_r (F : Fs) (U : Us) : Vc.Spec := hSpec 1 (g_bits_Text_r F U)
noncomputable def x_bits_Text_r (F : Fs) (U : Us) : Cx := ⟨Try.f107.ntmps, tt F, sp_bits_Text_r F U, [], [], [0], []⟩
noncomputable def s_bits_Text (F : Fs) (U : Us) : Vc.Spec := pick4 (s_bits_Text_n F U) noSpec (s_bits_Text_r F U) noSpec
noncomputable def sp_ref1_Text_r (F : Fs) (U : Us) : Specs := [(97, s_ref1_Put F U)]
noncomputable def g_ref1_Text_r (F : Fs) (U : Us) : HLaw := fun l mm => match l, mm with
  | [.rw 0, .s s], [.row T0 e0 (.bt xs)] => match Nat.beq T0 5, Nat.beq e0 1 with
    | true, true => some (F.pLe (F.lenB s) 1000000 ∧ F.pLe (F.lenB xs) 900000, [.row 5 1 (.bt (F.appB xs (U.text s)))], [some .dead])
    | _, _ => none
  | _, _ => none
noncomputable def s_ref1_Text_r (F : Fs) (U : Us) : Vc.Spec := hSpec 1 (g_ref1_Text_r F U)
noncomputable def x_ref1_Text_r (F : Fs) (U : Us) : Cx := ⟨Try.f134.ntmps, tt F, sp_ref1_Text_r F U, [], [], [0], []⟩
noncomputable def s_ref1_Text (F : Fs) (U : Us) : Vc.Spec := pick4 noSpec noSpec (s_ref1_Text_r F U) noSpec
theorem r_ref1_Rotl : Ready Try.prog 90 := by unfold Ready; kernel_rfl
noncomputable def sp_ref1_Rotl (F : Fs) (U : Us) : Specs := []
theorem ok_ref1_Rotl : SpecsOK Try.prog (sp_ref1_Rotl real us) := sp_nil
noncomputable def g_ref1_Rotl (F : Fs) (U : Us) : Law
  | [.w32 x, .i n] => some (True, [.val (.w32 (U.rl x n))])
  | _ => none
noncomputable def s_ref1_Rotl (F : Fs) (U : Us) : Vc.Spec := pureSpec F false [.keep, .keep] (g_ref1_Rotl F U)
noncomputable def x_ref1_Rotl (F : Fs) (U : Us) : Cx := ⟨Try.f90.ntmps, tt F, sp_ref1_Rotl F U, [], [], [], []⟩
theorem c_ref1_Rotl (x : UInt32) (n : Int) : vc real (x_ref1_Rotl real us) [] [] (Try.f90.body.getD .skip) ⟨zipSl 0 [.w32 x, .i n], [], 64⟩ (retOk real (tt real) false Try.f90.results.toList [.val (.w32 (us.rl x n))]) := by
  generalize hU : us = U
  generalize hF : real = F
  cbv
  subst hF hU
  have h0 : IntKind.i64.wrap ((BitVec.ofInt 64 n &&& BitVec.ofInt 64 31).toNat : Int) = ((n % 32).toNat : Int) := by
    have e : (BitVec.ofInt 64 n &&& BitVec.ofInt 64 31).toNat = (n % 32).toNat := by
      rw [BitVec.toNat_and, show (BitVec.ofInt 64 31).toNat = 2 ^ 5 - 1 from rfl, Nat.and_two_pow_sub_one_eq_mod, BitVec.toNat_ofInt]
      omega
    rw [e, wrap_sm (by omega) (by omega)]
  have h1 : real.toI64 (real.ofI64 (real.bits BinOp.and n (real.int 31))) = ((n % 32).toNat : Int) := by
    show ((UInt64.ofNat ((IntKind.i64.wrap ((BitVec.ofInt 64 n &&& BitVec.ofInt 64 31).toNat : Int)) % 2 ^ 64).toNat).toNat : Int) = _
    rw [h0, UInt64.toNat_ofNat_of_lt' (by simp [UInt64.size]; omega)]
    omega
  have h2 : real.toI64 (real.sub64 (real.ofI64 (real.int 32)) (real.ofI64 (real.bits BinOp.and n (real.int 31)))) = ((32 - (n % 32).toNat : Nat) : Int) := by
    generalize real.ofI64 (real.bits BinOp.and n (real.int 31)) = y at h1 ⊢
    have h1 : (y.toNat : Int) = ((n % 32).toNat : Int) := h1
    show ((UInt64.ofNat ((32 : Int) % 2 ^ 64).toNat - y).toNat : Int) = _
    have h2 : ((32 : Int) % 2 ^ 64).toNat = 32 := by decide
    rw [h2]
    have h3 : (UInt64.ofNat 32).toNat = 32 := rfl
    rw [UInt64.toNat_sub_of_le _ _ (by rw [UInt64.le_iff_toNat_le, h3]; omega), h3]
    omega
  have h3 := shl32_eq x (n % 32).toNat (by omega)
  have h4 := shr32_eq x (32 - (n % 32).toNat) (by omega)
  refine ⟨?_, ?_, ?_, trivial⟩
  · show (0 : Int) ≤ real.toI64 (real.ofI64 (real.bits BinOp.and n (real.int 31)))
    rw [h1]; omega
  · show (0 : Int) ≤ real.toI64 (real.sub64 (real.ofI64 (real.int 32)) (real.ofI64 (real.bits BinOp.and n (real.int 31))))
    rw [h2]; omega
  · show real.shl32 x (real.toI64 (real.ofI64 (real.bits BinOp.and n (real.int 31)))) ||| real.shr32 x (real.toI64 (real.sub64 (real.ofI64 (real.int 32)) (real.ofI64 (real.bits BinOp.and n (real.int 31))))) = us.rl x n
    rw [h1, h2, h3, h4]
    show (⟨_⟩ ||| ⟨_⟩ : UInt32) = ⟨x.toBitVec.rotateLeft (n % 32).toNat⟩
    rw [BitVec.rotateLeft_def]
    have : (n % 32).toNat % 32 = (n % 32).toNat := by omega
    rw [this]
    rfl
theorem k_ref1_Rotl : SpecOK Try.prog 90 (s_ref1_Rotl real us) := by
  refine pure_sound (x := x_ref1_Rotl real us) ⟨tt_ok, ok_ref1_Rotl, Go.Vc.ks_nil⟩ mixed Try.func90 rfl rfl (by kernel_rfl) ?_
  intro l c rs hg hc
  unfold g_ref1_Rotl at hg
  split at hg
  · cases hg; exact ⟨Nat.le_of_ble_eq_true rfl, [], [], c_ref1_Rotl _ _⟩
  · cases hg

end Go.Proofs.Ytmldccfchnlpgaa
set_option linter.unusedVariables false
set_option linter.unusedSimpArgs false
set_option maxRecDepth 100000
set_option maxHeartbeats 4000000
namespace Go.Proofs.Ytmldccfchnlpgaa
open Go Go.Vc
theorem nat8 (b : UInt8) : UInt32.ofNat (((b.toNat : Nat) : Int) % 2 ^ 32).toNat = UInt32.ofNat b.toNat := by
  congr 1; have := b.toNat_lt; omega
theorem sh8 (x : UInt32) : UInt32.ofNat (x.toNat * 2 ^ min (((UInt64.ofNat ((8 : Int) % 2 ^ 64).toNat).toNat : Int)).toNat 32) = x <<< 8 := by
  have h8 : (min (((UInt64.ofNat ((8 : Int) % 2 ^ 64).toNat).toNat : Int)).toNat 32) = 8 := by decide
  rw [h8, shl32_c x 8 (by omega)]; rfl
theorem bigP_in (xs : List UInt8) (i : Nat) (h : i < xs.length) : real.or32 (real.shl32 (bigP xs i) (real.toI64 (real.ofI64 (real.int 8)))) (real.ofI32 (real.toI8 (real.getB xs (real.nat (real.int i))))) = bigP xs (i + 1) := by
  rw [bigP, if_pos h]
  show UInt32.ofNat _ ||| UInt32.ofNat _ = _
  congr 1
  · exact sh8 _
  · exact nat8 _
theorem bigP_out (xs : List UInt8) (i : Nat) (h : ¬ i < xs.length) : real.shl32 (bigP xs i) (real.toI64 (real.ofI64 (real.int 8))) = bigP xs (i + 1) := by
  rw [bigP, if_neg h]
  exact sh8 _
theorem or_sh8 (x y : UInt32) : (x ||| y) <<< 8 = x <<< 8 ||| y <<< 8 := by
  apply UInt32.eq_of_toBitVec_eq; simp [BitVec.shiftLeft_or_distrib]
theorem sh8_8 (x : UInt32) : (x <<< 8) <<< 8 = x <<< 16 := by
  apply UInt32.eq_of_toBitVec_eq; simp [← BitVec.shiftLeft_add]
theorem sh16_8 (x : UInt32) : (x <<< 16) <<< 8 = x <<< 24 := by
  apply UInt32.eq_of_toBitVec_eq; simp [← BitVec.shiftLeft_add]
theorem bigP_get (xs : List UInt8) (i : Nat) (h : i < 4) : bigP xs (i + 1) = bigP xs i <<< 8 ||| UInt32.ofNat ((four xs).getD i 0).toNat := by
  rw [bigP]
  have hf : (four xs).getD i 0 = if i < xs.length then xs.getD i 0 else 0 := by
    simp only [four, List.getD_eq_getElem?_getD, List.getElem?_take, if_pos h]
    split
    · rename_i h2; rw [List.getElem?_append_left h2]
    · rename_i h2
      rw [List.getElem?_append_right (by omega)]
      have : i - xs.length = 0 ∨ i - xs.length = 1 ∨ i - xs.length = 2 ∨ i - xs.length = 3 := by omega
      rcases this with e | e | e | e <;> rw [e] <;> rfl
  rw [hf]
  split
  · rfl
  · simp
theorem bigP4 (xs : List UInt8) : bigP xs 4 = us.big xs := by
  rw [bigP_get xs 3 (by omega), bigP_get xs 2 (by omega), bigP_get xs 1 (by omega), bigP_get xs 0 (by omega)]
  simp only [bigP, us, u_big, or_sh8, sh8_8, sh16_8]
  simp
theorem r_ref1_Big : Ready Try.prog 124 := by unfold Ready; kernel_rfl
noncomputable def sp_ref1_Big (F : Fs) (U : Us) : Specs := []
theorem ok_ref1_Big : SpecsOK Try.prog (sp_ref1_Big real us) := sp_nil
noncomputable def an_ref1_Big (F : Fs) (U : Us) (xs : List UInt8) : Anns := [(3, ⟨Nat, fun i => i ≤ 4, fun i => F.subn 4 i, fun i => ⟨[(0, .rb 1 (.bt xs)), (3, .w32 (U.bigP xs i)), (4, .i (F.int i))], []⟩⟩)]
noncomputable def g_ref1_Big (F : Fs) (U : Us) : Law
  | [.rb 1 (.bt xs)] => some (F.pLe (F.lenB xs) 1000000, [.val (.w32 (U.big xs))])
  | _ => none
noncomputable def s_ref1_Big (F : Fs) (U : Us) : Vc.Spec := pureSpec F false [.row .kB] (g_ref1_Big F U)
noncomputable def x_ref1_Big (F : Fs) (U : Us) : Cx := ⟨Try.f124.ntmps, tt F, sp_ref1_Big F U, [], [], [], []⟩
theorem c_ref1_Big (xs : List UInt8) (hc : real.pLe (real.lenB xs) 1000000) : vc real (x_ref1_Big real us) (an_ref1_Big real us xs) [] (Try.f124.body.getD .skip) ⟨zipSl 0 [.rb 1 (.bt xs)], [], 64⟩ (retOk real (tt real) false Try.f124.results.toList [.val (.w32 (us.big xs))]) := by
  generalize hU : us = U
  generalize hF : real = F
  have hx : xs.length ≤ 1000000 := hc
  cbv
  refine ⟨⟨(0 : Nat), ?_⟩, fun (i : Nat) hi => ?_⟩
  · cbv; subst hF hU; simp only [real, us, Nat.le_eq, Nat.succ_eq_add_one, Int.cast_ofNat_Int, decide_eq_false_iff_not, decide_eq_true_eq, Bool.not_eq_true, Bool.not_eq_false, decide_not, Nat.not_lt, Nat.not_le]; exact ⟨⟨rfl, trivial⟩, trivial⟩
  · replace hi : i ≤ 4 := hi
    cbv
    repeat' first | apply And.intro | refine Classical.or_iff_not_imp_left.2 (fun _ => ?_) | exact trivial
    all_goals try (subst hF hU; simp only [real, us, Nat.le_eq, Int.cast_ofNat_Int, decide_eq_false_iff_not, decide_eq_true_eq, Bool.not_eq_true', Bool.not_eq_false', beq_eq_false_iff_ne, beq_iff_eq, ne_eq, Decidable.not_not, List.length_take, List.length_drop, List.length_append, List.length_replicate, List.length_set, List.length_cons, List.length_nil] at *; omega)
    · refine ⟨(i + 1 : Nat), ?_⟩
      cbv; subst hF hU; simp only [real, us, Nat.le_eq, Int.cast_ofNat_Int, decide_eq_false_iff_not, decide_eq_true_eq] at *
      exact ⟨by omega, by omega, ⟨bigP_in xs i (by omega), wrap_sm (by omega) (by omega), trivial⟩, trivial⟩
    · refine ⟨(i + 1 : Nat), ?_⟩
      cbv; subst hF hU; simp only [real, us, Nat.le_eq, Int.cast_ofNat_Int, decide_eq_false_iff_not, decide_eq_true_eq] at *
      exact ⟨by omega, by omega, ⟨bigP_out xs i (by omega), wrap_sm (by omega) (by omega), trivial⟩, trivial⟩
    · subst hF hU; simp only [real, us, Nat.le_eq, Int.cast_ofNat_Int, decide_eq_false_iff_not, decide_eq_true_eq] at *
      have : i = 4 := by omega
      subst this
      exact bigP4 xs
theorem k_ref1_Big : SpecOK Try.prog 124 (s_ref1_Big real us) := by
  refine pure_sound (x := x_ref1_Big real us) ⟨tt_ok, ok_ref1_Big, Go.Vc.ks_nil⟩ mixed Try.func124 rfl rfl (by kernel_rfl) ?_
  intro l c rs hg hc
  unfold g_ref1_Big at hg
  split at hg
  · cases hg; exact ⟨Nat.le_of_ble_eq_true rfl, an_ref1_Big real us _, [], c_ref1_Big _ hc⟩
  · cases hg

theorem lit_sh (i : Nat) (h : i < 4) (y : UInt32) : real.shl32 y (real.toI64 (real.mul64 (real.ofI64 (real.int 8)) (real.ofI64 (real.int i)))) = y <<< UInt32.ofNat (8 * i) := by
  have : ∀ i : Fin 4, (real.toI64 (real.mul64 (real.ofI64 (real.int 8)) (real.ofI64 (real.int i.val)))).toNat = 8 * i.val := by decide
  show UInt32.ofNat (y.toNat * 2 ^ min (real.toI64 (real.mul64 (real.ofI64 (real.int 8)) (real.ofI64 (real.int i)))).toNat 32) = _
  rw [this ⟨i, h⟩, Nat.min_eq_left (show 8 * i ≤ 32 by omega), shl32_c y (8 * i) (by omega)]
theorem litP_in (xs : List UInt8) (i : Nat) (h4 : i < 4) (h : i < xs.length) : real.or32 (litP xs i) (real.shl32 (real.ofI32 (real.toI8 (real.getB xs (real.nat (real.int i))))) (real.toI64 (real.mul64 (real.ofI64 (real.int 8)) (real.ofI64 (real.int i))))) = litP xs (i + 1) := by
  rw [litP, if_pos h, lit_sh i h4]
  show _ ||| _ = _
  congr 1
  congr 1
  exact nat8 _
theorem litP_get (xs : List UInt8) (i : Nat) (h : i < 4) : litP xs (i + 1) = litP xs i ||| UInt32.ofNat ((four xs).getD i 0).toNat <<< UInt32.ofNat (8 * i) := by
  rw [litP]
  have hf : (four xs).getD i 0 = if i < xs.length then xs.getD i 0 else 0 := by
    simp only [four, List.getD_eq_getElem?_getD, List.getElem?_take, if_pos h]
    split
    · rename_i h2; rw [List.getElem?_append_left h2]
    · rename_i h2
      rw [List.getElem?_append_right (by omega)]
      have : i - xs.length = 0 ∨ i - xs.length = 1 ∨ i - xs.length = 2 ∨ i - xs.length = 3 := by omega
      rcases this with e | e | e | e <;> rw [e] <;> rfl
  rw [hf]
  split
  · rfl
  · simp
theorem litP4 (xs : List UInt8) : litP xs 4 = us.little xs := by
  rw [litP_get xs 3 (by omega), litP_get xs 2 (by omega), litP_get xs 1 (by omega), litP_get xs 0 (by omega)]
  simp only [litP, us, u_little]
  have e : ∀ a b c d : UInt32, (0 : UInt32) ||| a <<< UInt32.ofNat (8 * 0) ||| b <<< UInt32.ofNat (8 * 1) ||| c <<< UInt32.ofNat (8 * 2) ||| d <<< UInt32.ofNat (8 * 3) = d <<< 24 ||| c <<< 16 ||| b <<< 8 ||| a := by
    intro a b c d
    have z : a <<< UInt32.ofNat (8 * 0) = a := by
      apply UInt32.toNat_inj.1
      show (a.toBitVec <<< (0 : Nat)).toNat = a.toBitVec.toNat
      simp
    rw [z, UInt32.zero_or]
    show a ||| b <<< (8 : UInt32) ||| c <<< (16 : UInt32) ||| d <<< (24 : UInt32) = _
    generalize b <<< (8 : UInt32) = b'
    generalize c <<< (16 : UInt32) = c'
    generalize d <<< (24 : UInt32) = d'
    ac_rfl
  exact e _ _ _ _
theorem litP_same (xs : List UInt8) (i : Nat) (h : xs.length ≤ i) : litP xs (i + 1) = litP xs i := by
  rw [litP, if_neg (by omega)]
theorem litP_end (xs : List UInt8) (i : Nat) (h : i ≤ 4) (h2 : i = 4 ∨ xs.length ≤ i) : litP xs i = us.little xs := by
  rw [← litP4]
  rcases h2 with e | e
  · rw [e]
  · have hk : i = 4 ∨ i = 3 ∨ i = 2 ∨ i = 1 ∨ i = 0 := by omega
    rcases hk with e2 | e2 | e2 | e2 | e2 <;> subst e2
    · rfl
    · rw [litP_same xs 3 e]
    · rw [litP_same xs 3 (by omega), litP_same xs 2 e]
    · rw [litP_same xs 3 (by omega), litP_same xs 2 (by omega), litP_same xs 1 e]
    · rw [litP_same xs 3 (by omega), litP_same xs 2 (by omega), litP_same xs 1 (by omega), litP_same xs 0 e]
theorem r_ref1_Little : Ready Try.prog 94 := by unfold Ready; kernel_rfl
noncomputable def sp_ref1_Little (F : Fs) (U : Us) : Specs := []
theorem ok_ref1_Little : SpecsOK Try.prog (sp_ref1_Little real us) := sp_nil
noncomputable def an_ref1_Little (F : Fs) (U : Us) (xs : List UInt8) : Anns := [(3, ⟨Nat, fun i => i ≤ 4, fun i => F.subn 4 i, fun i => ⟨[(0, .rb 1 (.bt xs)), (3, .w32 (U.litP xs i)), (4, .i (F.int i))], []⟩⟩)]
noncomputable def g_ref1_Little (F : Fs) (U : Us) : Law
  | [.rb 1 (.bt xs)] => some (F.pLe (F.lenB xs) 1000000, [.val (.w32 (U.little xs))])
  | _ => none
noncomputable def s_ref1_Little (F : Fs) (U : Us) : Vc.Spec := pureSpec F false [.row .kB] (g_ref1_Little F U)
noncomputable def x_ref1_Little (F : Fs) (U : Us) : Cx := ⟨Try.f94.ntmps, tt F, sp_ref1_Little F U, [], [], [], []⟩
theorem c_ref1_Little (xs : List UInt8) (hc : real.pLe (real.lenB xs) 1000000) : vc real (x_ref1_Little real us) (an_ref1_Little real us xs) [] (Try.f94.body.getD .skip) ⟨zipSl 0 [.rb 1 (.bt xs)], [], 64⟩ (retOk real (tt real) false Try.f94.results.toList [.val (.w32 (us.little xs))]) := by
  generalize hU : us = U
  generalize hF : real = F
  have hx : xs.length ≤ 1000000 := hc
  cbv
  refine ⟨⟨(0 : Nat), ?_⟩, fun (i : Nat) hi => ?_⟩
  · cbv; subst hF hU; simp only [real, us, Nat.le_eq, Nat.succ_eq_add_one, Int.cast_ofNat_Int, decide_eq_false_iff_not, decide_eq_true_eq, Bool.not_eq_true, Bool.not_eq_false, decide_not, Nat.not_lt, Nat.not_le]; exact ⟨⟨rfl, trivial⟩, trivial⟩
  · replace hi : i ≤ 4 := hi
    cbv
    repeat' first | apply And.intro | refine Classical.or_iff_not_imp_left.2 (fun _ => ?_) | exact trivial
    all_goals try (subst hF hU; simp only [real, us, Nat.le_eq, Int.cast_ofNat_Int, decide_eq_false_iff_not, decide_eq_true_eq, Bool.not_eq_true', Bool.not_eq_false', beq_eq_false_iff_ne, beq_iff_eq, ne_eq, Decidable.not_not, List.length_take, List.length_drop, List.length_append, List.length_replicate, List.length_set, List.length_cons, List.length_nil] at *; omega)
    · refine ⟨(i + 1 : Nat), ?_⟩
      cbv; subst hF hU; simp only [real, us, Nat.le_eq, Int.cast_ofNat_Int, decide_eq_false_iff_not, decide_eq_true_eq] at *
      exact ⟨by omega, by omega, ⟨litP_in xs i (by omega) (by omega), wrap_sm (by omega) (by omega), trivial⟩, trivial⟩
    · subst hF hU; simp only [real, us, Nat.le_eq, Int.cast_ofNat_Int, decide_eq_false_iff_not, decide_eq_true_eq] at *
      exact litP_end xs i (by omega) (.inr (by omega))
    · subst hF hU; simp only [real, us, Nat.le_eq, Int.cast_ofNat_Int, decide_eq_false_iff_not, decide_eq_true_eq] at *
      exact litP_end xs i (by omega) (.inl (by omega))
theorem k_ref1_Little : SpecOK Try.prog 94 (s_ref1_Little real us) := by
  refine pure_sound (x := x_ref1_Little real us) ⟨tt_ok, ok_ref1_Little, Go.Vc.ks_nil⟩ mixed Try.func94 rfl rfl (by kernel_rfl) ?_
  intro l c rs hg hc
  unfold g_ref1_Little at hg
  split at hg
  · cases hg; exact ⟨Nat.le_of_ble_eq_true rfl, an_ref1_Little real us _, [], c_ref1_Little _ hc⟩
  · cases hg

end Go.Proofs.Ytmldccfchnlpgaa
set_option linter.unusedVariables false
set_option linter.unusedSimpArgs false
set_option maxRecDepth 100000
set_option maxHeartbeats 4000000
namespace Go.Proofs.Ytmldccfchnlpgaa
open Go Go.Vc
noncomputable def sp_bits_Get_b (F : Fs) (U : Us) : Specs := [(129, s_bits_width F U)]
noncomputable def an_bits_Get_b (F : Fs) (U : Us) (xs : List UInt8) (n : Int) : Anns := [(6, ⟨Nat, fun i => i ≤ F.nat (U.wid n), fun i => F.subn (F.nat (U.wid n)) i, fun i =>
  ⟨[(0, .rb 1 (.bt xs)), (1, .i n), (7, .i (U.wid n)), (8, .w64 (U.gv (F.cutB xs 0 i))), (20, .rb 1 (.bt (F.cutB xs 0 (F.nat (U.wid n))))), (21, .i (U.wid n)), (22, .i (F.int i))], []⟩⟩)]
noncomputable def g_bits_Get_b (F : Fs) (U : Us) : Law
  | [.rb 1 (.bt xs), .i n] => some (F.pLe (F.lenB xs) 1000000, [.val (.w64 (U.getV xs n)), .val (.rb 1 (.bt (F.cutB xs (U.getA xs n) (F.subn (F.lenB xs) (U.getA xs n))))), .val (.i (U.getE xs n))])
  | _ => none
noncomputable def s_bits_Get_b (F : Fs) (U : Us) : Vc.Spec := pureSpec F true [.keep, .keep] (g_bits_Get_b F U)
noncomputable def x_bits_Get_b (F : Fs) (U : Us) : Cx := ⟨Try.f131.ntmps, tt F, sp_bits_Get_b F U, [], [], [], []⟩
end Go.Proofs.Ytmldccfchnlpgaa
set_option linter.unusedVariables false
set_option linter.unusedSimpArgs false
set_option maxRecDepth 100000
set_option maxHeartbeats 4000000
namespace Go.Proofs.Ytmldccfchnlpgaa
open Go Go.Vc
noncomputable def sp_ref1_Get_b (F : Fs) (U : Us) : Specs := []
noncomputable def an_ref1_Get_b (F : Fs) (U : Us) (xs : List UInt8) (n : Int) : Anns := [(6, ⟨Nat, fun i => i ≤ F.nat (U.wid n), fun i => F.subn (F.nat (U.wid n)) i, fun i =>
  ⟨[(0, .rb 1 (.bt xs)), (7, .i (U.wid n)), (8, .w64 (U.gv (F.cutB xs 0 i))), (9, .i (F.int i))], []⟩⟩)]
noncomputable def g_ref1_Get_b (F : Fs) (U : Us) : Law
  | [.rb 1 (.bt xs), .i n] => some (F.pLe (F.lenB xs) 1000000, [.val (.w64 (U.getV xs n)), .val (.rb 1 (.bt (F.cutB xs (U.getA xs n) (F.subn (F.lenB xs) (U.getA xs n))))), .val (.b (U.getOk xs n))])
  | _ => none
noncomputable def s_ref1_Get_b (F : Fs) (U : Us) : Vc.Spec := pureSpec F true [.keep, .keep] (g_ref1_Get_b F U)
noncomputable def x_ref1_Get_b (F : Fs) (U : Us) : Cx := ⟨Try.f111.ntmps, tt F, sp_ref1_Get_b F U, [], [], [], []⟩
theorem xor_app (xs ys : List UInt8) (i : Nat) (h1 : i < xs.length) (h2 : i < ys.length) : ((List.zipWith (fun a b => a ^^^ b) xs ys).drop 0).take i ++ [xs.getD i 0 ^^^ ys.getD i 0] = ((List.zipWith (fun a b => a ^^^ b) xs ys).drop 0).take (i + 1) := by
  rw [List.drop_zero, take_succ_getD _ i 0 (by rw [List.length_zipWith]; omega)]
  congr 2
  exact (zipWith_getD _ _ _ i 0 0 0 h1 h2).symm
theorem r_ref1_Xor : Ready Try.prog 96 := by unfold Ready; kernel_rfl
noncomputable def sp_ref1_Xor (F : Fs) (U : Us) : Specs := []
theorem ok_ref1_Xor : SpecsOK Try.prog (sp_ref1_Xor real us) := sp_nil
noncomputable def an_ref1_Xor (F : Fs) (U : Us) (xs ys : List UInt8) : Anns := [(3, ⟨Nat, fun i => i ≤ U.mn xs ys, fun i => F.subn (U.mn xs ys) i, fun i =>
  ⟨[(0, .rb 1 (.bt xs)), (1, .rb 1 (.bt ys)), (5, .rw 0), (6, .i (F.int i))], [(5, 0, .row 5 1 (.bt (F.cutB (U.xor xs ys) 0 i)))]⟩⟩)]
noncomputable def g_ref1_Xor (F : Fs) (U : Us) : Law
  | [.rb 1 (.bt xs), .rb 1 (.bt ys)] => some (F.pLe (F.lenB xs) 1000000 ∧ F.pLe (F.lenB ys) 1000000, [.row 5 1 (.bt (U.xor xs ys))])
  | _ => none
noncomputable def s_ref1_Xor (F : Fs) (U : Us) : Vc.Spec := pureSpec F false [.row .kB, .row .kB] (g_ref1_Xor F U)
noncomputable def x_ref1_Xor (F : Fs) (U : Us) : Cx := ⟨Try.f96.ntmps, tt F, sp_ref1_Xor F U, [], [(5, ([(7, [3, 4]), (8, [3, 4])], []))], [], []⟩
theorem c_ref1_Xor (xs ys : List UInt8) (hc : real.pLe (real.lenB xs) 1000000 ∧ real.pLe (real.lenB ys) 1000000) : vc real (x_ref1_Xor real us) (an_ref1_Xor real us xs ys) [] (Try.f96.body.getD .skip) ⟨zipSl 0 [.rb 1 (.bt xs), .rb 1 (.bt ys)], [], 64⟩ (retOk real (tt real) false Try.f96.results.toList [.row 5 1 (.bt (us.xor xs ys))]) := by
  generalize hU : us = U
  generalize hF : real = F
  have h1 : xs.length ≤ 1000000 := hc.1
  have h2 : ys.length ≤ 1000000 := hc.2
  cbv
  refine ⟨⟨(0 : Nat), ?_⟩, ?_⟩
  · cbv; subst hF hU; simp only [real, us, Nat.le_eq, Int.cast_ofNat_Int, decide_eq_false_iff_not, decide_eq_true_eq] at *
    exact ⟨by omega, ⟨by simp, trivial⟩⟩
  · intro (i : Nat) hi
    replace hi : i ≤ U.mn xs ys := hi
    cbv
    repeat' first | apply And.intro | refine Classical.or_iff_not_imp_left.2 (fun _ => ?_) | exact trivial
    all_goals try (subst hF hU; simp only [real, us, Nat.le_eq, Int.cast_ofNat_Int, decide_eq_false_iff_not, decide_eq_true_eq, Bool.not_eq_true', Bool.not_eq_false', beq_eq_false_iff_ne, beq_iff_eq, ne_eq, Decidable.not_not, List.length_take, List.length_drop, List.length_append, List.length_replicate, List.length_set, List.length_cons, List.length_nil] at *; omega)
    · refine ⟨(i + 1 : Nat), ?_⟩
      cbv; subst hF hU; simp only [real, us, Nat.le_eq, Int.cast_ofNat_Int, decide_eq_false_iff_not, decide_eq_true_eq] at *
      exact ⟨by omega, by omega, ⟨wrap_sm (by omega) (by omega), trivial⟩, xor_app xs ys i (by omega) (by omega), trivial⟩
    · subst hF hU; simp only [real, us, Nat.le_eq, Int.cast_ofNat_Int, decide_eq_false_iff_not, decide_eq_true_eq] at *
      rw [List.drop_zero, List.take_of_length_le (by rw [List.length_zipWith]; omega)]
    · subst hF hU; simp only [real, us, Nat.le_eq, Int.cast_ofNat_Int, decide_eq_false_iff_not, decide_eq_true_eq] at *
      rw [List.drop_zero, List.take_of_length_le (by rw [List.length_zipWith]; omega)]
theorem k_ref1_Xor : SpecOK Try.prog 96 (s_ref1_Xor real us) := by
  refine pure_sound (x := x_ref1_Xor real us) ⟨tt_ok, ok_ref1_Xor, Go.Vc.ks_nil⟩ mixed Try.func96 rfl rfl (by kernel_rfl) ?_
  intro l c rs hg hc
  unfold g_ref1_Xor at hg
  split at hg
  · cases hg; exact ⟨Nat.le_of_ble_eq_true rfl, an_ref1_Xor real us _ _, [], c_ref1_Xor _ _ hc⟩
  · cases hg

end Go.Proofs.Ytmldccfchnlpgaa
set_option linter.unusedVariables false
set_option linter.unusedSimpArgs false
set_option maxRecDepth 100000
set_option maxHeartbeats 4000000
namespace Go.Proofs.Ytmldccfchnlpgaa
open Go Go.Vc
noncomputable def sp_bits_GetText_b (F : Fs) (U : Us) : Specs := [(131, s_bits_Get_b F U)]
noncomputable def g_bits_GetText_b (F : Fs) (U : Us) : Law
  | [.rb 1 (.bt xs), .i m] => some (F.pLe (F.lenB xs) 1000000, [.val (.s (U.gtS xs m)), .val (.rb 1 (.bt (F.cutB xs (U.gtA xs m) (F.subn (F.lenB xs) (U.gtA xs m))))), .val (.i (U.gtE xs m))])
  | _ => none
noncomputable def s_bits_GetText_b (F : Fs) (U : Us) : Vc.Spec := pureSpec F true [.keep, .keep] (g_bits_GetText_b F U)
noncomputable def x_bits_GetText_b (F : Fs) (U : Us) : Cx := ⟨Try.f130.ntmps, tt F, sp_bits_GetText_b F U, [], [(8, ([(6, [2, 3])], []))], [], []⟩
end Go.Proofs.Ytmldccfchnlpgaa
set_option linter.unusedVariables false
set_option linter.unusedSimpArgs false
set_option maxRecDepth 100000
set_option maxHeartbeats 4000000
namespace Go.Proofs.Ytmldccfchnlpgaa
open Go Go.Vc
noncomputable def sp_ref1_GetText_b (F : Fs) (U : Us) : Specs := [(111, s_ref1_Get_b F U)]
noncomputable def g_ref1_GetText_b (F : Fs) (U : Us) : Law
  | [.rb 1 (.bt xs), .i m] => some (F.pLe (F.lenB xs) 1000000 ∧ U.pI m, [.val (.s (U.gtS xs m)), .val (.rb 1 (.bt (F.cutB xs (U.gtA xs m) (F.subn (F.lenB xs) (U.gtA xs m))))), .val (.i (U.gtE xs m))])
  | _ => none
noncomputable def s_ref1_GetText_b (F : Fs) (U : Us) : Vc.Spec := pureSpec F true [.keep, .keep] (g_ref1_GetText_b F U)
noncomputable def x_ref1_GetText_b (F : Fs) (U : Us) : Cx := ⟨Try.f112.ntmps, tt F, sp_ref1_GetText_b F U, [], [(8, ([(6, [2, 3])], []))], [], []⟩
end Go.Proofs.Ytmldccfchnlpgaa
set_option linter.unusedVariables false
set_option linter.unusedSimpArgs false
set_option maxRecDepth 100000
set_option maxHeartbeats 4000000
namespace Go.Proofs.Ytmldccfchnlpgaa
open Go Go.Vc
noncomputable def sp_bits_Get_s (F : Fs) (U : Us) : Specs := [(129, s_bits_width F U)]
noncomputable def an_bits_Get_s (F : Fs) (U : Us) (xs : List UInt8) (n : Int) (a c : Nat) : Anns := [(6, ⟨Nat, fun i => i ≤ F.nat (U.wid n), fun i => F.subn (F.nat (U.wid n)) i, fun i =>
  ⟨[(0, .sl 0 0 0 1 a c), (1, .i n), (7, .i (U.wid n)), (8, .w64 (U.gv (F.cutB (F.cutB xs a c) 0 i))), (20, .sl 0 0 0 1 a (F.nat (U.wid n))), (21, .i (U.wid n)), (22, .i (F.int i))], [(0, 0, .row 5 1 (.bt xs))]⟩⟩)]
noncomputable def g_bits_Get_s (F : Fs) (U : Us) : HLaw := fun l mm => match l, mm with
  | [.sl 0 0 0 1 a c, .i n], [.row T0 e0 (.bt xs)] => match Nat.beq T0 5, Nat.beq e0 1 with
    | true, true => some (F.pLe (F.addn a c) (F.lenB xs) ∧ F.pLe (F.lenB xs) 1000000, [.val (.w64 (U.getV (F.cutB xs a c) n)), .val (.sl 0 0 0 1 (F.addn a (U.getA (F.cutB xs a c) n)) (F.subn c (U.getA (F.cutB xs a c) n))), .val (.i (U.getE (F.cutB xs a c) n))], [none])
    | _, _ => none
  | _, _ => none
noncomputable def s_bits_Get_s (F : Fs) (U : Us) : Vc.Spec := hSpec 1 (g_bits_Get_s F U)
noncomputable def x_bits_Get_s (F : Fs) (U : Us) : Cx := ⟨Try.f131.ntmps, tt F, sp_bits_Get_s F U, [], [], [0], []⟩
noncomputable def sp_bits_GetText_s (F : Fs) (U : Us) : Specs := [(131, s_bits_Get_s F U)]
noncomputable def g_bits_GetText_s (F : Fs) (U : Us) : HLaw := fun l mm => match l, mm with
  | [.sl 0 0 0 1 a c, .i m], [.row T0 e0 (.bt xs)] => match Nat.beq T0 5, Nat.beq e0 1 with
    | true, true => some (F.pLe (F.addn a c) (F.lenB xs) ∧ F.pLe (F.lenB xs) 1000000, [.val (.s (U.gtS (F.cutB xs a c) m)), .val (.sl 0 0 0 1 (F.addn a (U.gtA (F.cutB xs a c) m)) (F.subn c (U.gtA (F.cutB xs a c) m))), .val (.i (U.gtE (F.cutB xs a c) m))], [none])
    | _, _ => none
  | _, _ => none
noncomputable def s_bits_GetText_s (F : Fs) (U : Us) : Vc.Spec := hSpec 1 (g_bits_GetText_s F U)
noncomputable def x_bits_GetText_s (F : Fs) (U : Us) : Cx := ⟨Try.f130.ntmps, tt F, sp_bits_GetText_s F U, [], [(8, ([(6, [2, 3])], []))], [0], []⟩
noncomputable def s_bits_Get (F : Fs) (U : Us) : Vc.Spec := pick4 noSpec (s_bits_Get_b F U) (asSl F (s_bits_Get_s F U)) (s_bits_Get_s F U)
noncomputable def s_bits_GetText (F : Fs) (U : Us) : Vc.Spec := pick4 noSpec (s_bits_GetText_b F U) (asSl F (s_bits_GetText_s F U)) (s_bits_GetText_s F U)
noncomputable def s_ref1_Get (F : Fs) (U : Us) : Vc.Spec := pick4 noSpec (s_ref1_Get_b F U) noSpec noSpec
noncomputable def s_ref1_GetText (F : Fs) (U : Us) : Vc.Spec := pick4 noSpec (s_ref1_GetText_b F U) noSpec noSpec
end Go.Proofs.Ytmldccfchnlpgaa
set_option linter.unusedVariables false
set_option linter.unusedSimpArgs false
set_option maxRecDepth 100000
set_option maxHeartbeats 4000000
namespace Go.Proofs.Ytmldccfchnlpgaa
open Go Go.Vc
end Go.Proofs.Ytmldccfchnlpgaa
