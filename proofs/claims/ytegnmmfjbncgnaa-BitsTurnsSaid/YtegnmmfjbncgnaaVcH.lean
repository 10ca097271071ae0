/- A part of the proof of given statements: a verified condition generator for the model, and contracts of the program's functions. No condition. -/
import Derived.Test.YtegnmmfjbncgnaaVcCtr3
set_option linter.unusedVariables false
set_option linter.unusedSimpArgs false
namespace Go.Vc
open Go Go.RowKit

/-! ## Contracts of functions that are handed what the caller owns -/
mutual
/-- under other names; none: a name that is not known -/
def rnAV (f : Nat → Option Nat) : AV → Option AV
  | .i x => some (.i x)
  | .w8 x => some (.w8 x)
  | .w16 x => some (.w16 x)
  | .w32 x => some (.w32 x)
  | .w64 x => some (.w64 x)
  | .b x => some (.b x)
  | .kb x => some (.kb x)
  | .s x => some (.s x)
  | .ag n c => match rnAC f c with
    | some d => some (.ag n d)
    | none => none
  | .nl => some .nl
  | .pn => some .pn
  | .rb e c => match AC.nk true c with
    | true => some (.rb e c)
    | false => none
  | .pr a => match AV.nk true a with
    | true => some (.pr a)
    | false => none
  | .rw k => match f k with
    | some j => some (.rw j)
    | none => none
  | .p k g o => match f k with
    | some j => some (.p j g o)
    | none => none
  | .sl k g o e a n => match f k with
    | some j => some (.sl j g o e a n)
    | none => none
  | _ => none
def rnAC (f : Nat → Option Nat) : AC → Option AC
  | .bt x => some (.bt x)
  | .wh x => some (.wh x)
  | .wd x => some (.wd x)
  | .ww x => some (.ww x)
  | .is x => some (.is x)
  | .ss x => some (.ss x)
  | .vs l => match rnAL f l with
    | some l' => some (.vs l')
    | none => none
  | .fn _ _ _ => none
def rnAL (f : Nat → Option Nat) : List AV → Option (List AV)
  | [] => some []
  | a :: l => match rnAV f a, rnAL f l with
    | some b, some l' => some (b :: l')
    | _, _ => none
end
def rnSegs (f : Nat → Option Nat) : List Seg → Option (List Seg)
  | [] => some []
  | (n, c) :: l => match rnAC f c, rnSegs f l with
    | some d, some l' => some ((n, d) :: l')
    | _, _ => none
def rnAB (f : Nat → Option Nat) : AB → Option AB
  | .dead => none
  | .bk T s => match rnSegs f s with
    | some s' => some (.bk T s')
    | none => none
  | .row T e c => match rnAC f c with
    | some d => some (.row T e d)
    | none => none
def rnABs (f : Nat → Option Nat) : List AB → Option (List AB)
  | [] => some []
  | a :: l => match rnAB f a, rnABs f l with
    | some b, some l' => some (b :: l')
    | _, _ => none
def rnPRs (f : Nat → Option Nat) : List PR → Option (List PR)
  | [] => some []
  | .val a :: l => match rnAV f a, rnPRs f l with
    | some b, some l' => some (.val b :: l')
    | _, _ => none
  | .row T e c :: l => match AC.nk true c, rnPRs f l with
    | true, some l' => some (.row T e c :: l')
    | _, _ => none

def sameAll (r : Ren) (f : Nat → Option Nat) : Prop := ∀ k j, f k = some j → rlook r j = some (some k)
theorem sameK_of {r : Ren} {k j : Nat} (h : rlook r j = some (some k)) : sameK r k j := by
  unfold sameK; rw [h]; simp
mutual
theorem nk_le {sh : Bool} (r : Ren) : ∀ (a : AV), a.nk sh = true → avLe r a a
  | .i _, _ => by simp [avLe]
  | .w8 _, _ => by simp [avLe]
  | .w16 _, _ => by simp [avLe]
  | .w32 _, _ => by simp [avLe]
  | .w64 _, _ => by simp [avLe]
  | .b _, _ => by simp [avLe]
  | .kb _, _ => by simp [avLe]
  | .s _, _ => by simp [avLe]
  | .ag n c, h => by simp only [AV.nk] at h; simp only [avLe]; exact ⟨by simp, nkc_le r c h⟩
  | .nl, _ => by simp [avLe]
  | .pn, _ => by simp [avLe]
  | .rb e c, h => by
    have hsh : sh = true := by cases hq : sh <;> simp [AV.nk, hq] at h ⊢
    have h' : c.nk sh = true := by simpa only [AV.nk, hsh] using h
    simp only [avLe]; exact ⟨by simp, nkc_le r c h'⟩
  | .pr a, h => by
    have hsh : sh = true := by cases hq : sh <;> simp [AV.nk, hq] at h ⊢
    have h' : a.nk sh = true := by simpa only [AV.nk, hsh] using h
    simp only [avLe]; exact nk_le r a h'
  | .u, h => by simp [AV.nk] at h
  | .tup _, h => by simp [AV.nk] at h
  | .p _ _ _, h => by simp [AV.nk] at h
  | .pe _ _ _ _ _, h => by simp [AV.nk] at h
  | .sl _ _ _ _ _ _, h => by simp [AV.nk] at h
  | .rw _, h => by simp [AV.nk] at h
theorem nkc_le {sh : Bool} (r : Ren) : ∀ (c : AC), c.nk sh = true → acLe r c c
  | .bt _, _ => by simp [acLe]
  | .wh _, _ => by simp [acLe]
  | .wd _, _ => by simp [acLe]
  | .ww _, _ => by simp [acLe]
  | .is _, _ => by simp [acLe]
  | .ss _, _ => by simp [acLe]
  | .vs l, h => by simp only [AC.nk] at h; simp only [acLe]; exact nkl_le r l h
  | .fn _ _ _, h => by simp [AC.nk] at h
theorem nkl_le {sh : Bool} (r : Ren) : ∀ (l : List AV), AL.nk sh l = true → alLe r l l
  | [], _ => by simp [alLe]
  | a :: l, h => by
    simp only [AL.nk] at h
    split at h
    · simp only [alLe]; exact ⟨nk_le r a (by assumption), nkl_le r l h⟩
    · cases h
end
mutual
theorem rn_le {r : Ren} {f : Nat → Option Nat} (hf : sameAll r f) : ∀ (a b : AV), rnAV f a = some b → avLe r a b ∧ b ≠ .u
  | .i _, b, h => by simp only [rnAV, Option.some.injEq] at h; subst h; simp [avLe]
  | .w8 _, b, h => by simp only [rnAV, Option.some.injEq] at h; subst h; simp [avLe]
  | .w16 _, b, h => by simp only [rnAV, Option.some.injEq] at h; subst h; simp [avLe]
  | .w32 _, b, h => by simp only [rnAV, Option.some.injEq] at h; subst h; simp [avLe]
  | .w64 _, b, h => by simp only [rnAV, Option.some.injEq] at h; subst h; simp [avLe]
  | .b _, b, h => by simp only [rnAV, Option.some.injEq] at h; subst h; simp [avLe]
  | .kb _, b, h => by simp only [rnAV, Option.some.injEq] at h; subst h; simp [avLe]
  | .s _, b, h => by simp only [rnAV, Option.some.injEq] at h; subst h; simp [avLe]
  | .ag n c, b, h => by
    simp only [rnAV] at h
    split at h
    · rename_i d hd
      cases h
      exact ⟨by simp only [avLe]; exact ⟨by simp, rnc_le hf c d hd⟩, by simp⟩
    · cases h
  | .nl, b, h => by simp only [rnAV, Option.some.injEq] at h; subst h; simp [avLe]
  | .pn, b, h => by simp only [rnAV, Option.some.injEq] at h; subst h; simp [avLe]
  | .rb e c, b, h => by
    simp only [rnAV] at h
    split at h
    · rename_i hn
      cases h
      exact ⟨by simp only [avLe]; exact ⟨by simp, nkc_le r c hn⟩, by simp⟩
    · cases h
  | .pr a, b, h => by
    simp only [rnAV] at h
    split at h
    · rename_i hn
      cases h
      exact ⟨by simp only [avLe]; exact nk_le r a hn, by simp⟩
    · cases h
  | .rw k, b, h => by
    simp only [rnAV] at h
    split at h
    · rename_i j hj
      cases h
      exact ⟨by simp only [avLe]; exact sameK_of (hf k j hj), by simp⟩
    · cases h
  | .p k g o, b, h => by
    simp only [rnAV] at h
    split at h
    · rename_i j hj
      cases h
      exact ⟨by simp only [avLe]; exact ⟨sameK_of (hf k j hj), by simp, by simp⟩, by simp⟩
    · cases h
  | .sl k g o e a n, b, h => by
    simp only [rnAV] at h
    split at h
    · rename_i j hj
      cases h
      exact ⟨by simp only [avLe]; exact ⟨sameK_of (hf k j hj), by simp, by simp, by simp, trivial, trivial⟩, by simp⟩
    · cases h
  | .u, b, h => by simp [rnAV] at h
  | .tup _, b, h => by simp [rnAV] at h
  | .pe _ _ _ _ _, b, h => by simp [rnAV] at h
theorem rnc_le {r : Ren} {f : Nat → Option Nat} (hf : sameAll r f) : ∀ (a b : AC), rnAC f a = some b → acLe r a b
  | .bt _, b, h => by simp only [rnAC, Option.some.injEq] at h; subst h; simp [acLe]
  | .wh _, b, h => by simp only [rnAC, Option.some.injEq] at h; subst h; simp [acLe]
  | .wd _, b, h => by simp only [rnAC, Option.some.injEq] at h; subst h; simp [acLe]
  | .ww _, b, h => by simp only [rnAC, Option.some.injEq] at h; subst h; simp [acLe]
  | .is _, b, h => by simp only [rnAC, Option.some.injEq] at h; subst h; simp [acLe]
  | .ss _, b, h => by simp only [rnAC, Option.some.injEq] at h; subst h; simp [acLe]
  | .vs l, b, h => by
    simp only [rnAC] at h
    split at h
    · rename_i l' hl
      cases h
      simp only [acLe]; exact rnl_le hf l l' hl
    · cases h
  | .fn _ _ _, b, h => by simp [rnAC] at h
theorem rnl_le {r : Ren} {f : Nat → Option Nat} (hf : sameAll r f) : ∀ (a b : List AV), rnAL f a = some b → alLe r a b
  | [], b, h => by simp only [rnAL, Option.some.injEq] at h; subst h; simp [alLe]
  | a :: l, b, h => by
    simp only [rnAL] at h
    split at h
    · rename_i a' l' h1 h2
      cases h
      simp only [alLe]; exact ⟨(rn_le hf a a' h1).1, rnl_le hf l l' h2⟩
    · cases h
end
theorem rns_le {r : Ren} {f : Nat → Option Nat} (hf : sameAll r f) : ∀ (a b : List Seg), rnSegs f a = some b → segsLe r a b
  | [], b, h => by simp only [rnSegs, Option.some.injEq] at h; subst h; simp [segsLe]
  | (n, c) :: l, b, h => by
    simp only [rnSegs] at h
    split at h
    · rename_i a' l' h1 h2
      cases h
      simp only [segsLe]; exact ⟨by simp, rnc_le hf c a' h1, rns_le hf l l' h2⟩
    · cases h
theorem rnb_le {r : Ren} {f : Nat → Option Nat} (hf : sameAll r f) (a b : AB) (h : rnAB f a = some b) : abLe r a b ∧ a.live = true ∧ b.live = true := by
  cases a with
  | dead => simp [rnAB] at h
  | bk T s =>
    simp only [rnAB] at h
    split at h
    · rename_i s' hs
      cases h
      exact ⟨by simp only [abLe]; exact ⟨by simp, rns_le hf s s' hs⟩, rfl, rfl⟩
    · cases h
  | row T e c =>
    simp only [rnAB] at h
    split at h
    · rename_i d hd
      cases h
      exact ⟨by simp only [abLe]; exact ⟨by simp, by simp, rnc_le hf c d hd⟩, rfl, rfl⟩
    · cases h

def sameBack (r : Ren) (f : Nat → Option Nat) : Prop := ∀ k j, f k = some j → rlook r k = some (some j)
mutual
theorem rn_ge {r : Ren} {f : Nat → Option Nat} (hf : sameBack r f) : ∀ (a b : AV), rnAV f a = some b → avLe r b a ∧ a ≠ .u
  | .i _, b, h => by simp only [rnAV, Option.some.injEq] at h; subst h; simp [avLe]
  | .w8 _, b, h => by simp only [rnAV, Option.some.injEq] at h; subst h; simp [avLe]
  | .w16 _, b, h => by simp only [rnAV, Option.some.injEq] at h; subst h; simp [avLe]
  | .w32 _, b, h => by simp only [rnAV, Option.some.injEq] at h; subst h; simp [avLe]
  | .w64 _, b, h => by simp only [rnAV, Option.some.injEq] at h; subst h; simp [avLe]
  | .b _, b, h => by simp only [rnAV, Option.some.injEq] at h; subst h; simp [avLe]
  | .kb _, b, h => by simp only [rnAV, Option.some.injEq] at h; subst h; simp [avLe]
  | .s _, b, h => by simp only [rnAV, Option.some.injEq] at h; subst h; simp [avLe]
  | .ag n c, b, h => by
    simp only [rnAV] at h
    split at h
    · rename_i d hd
      cases h
      exact ⟨by simp only [avLe]; exact ⟨by simp, rnc_ge hf c d hd⟩, by simp⟩
    · cases h
  | .nl, b, h => by simp only [rnAV, Option.some.injEq] at h; subst h; simp [avLe]
  | .pn, b, h => by simp only [rnAV, Option.some.injEq] at h; subst h; simp [avLe]
  | .rb e c, b, h => by
    simp only [rnAV] at h
    split at h
    · rename_i hn
      cases h
      exact ⟨by simp only [avLe]; exact ⟨by simp, nkc_le r c hn⟩, by simp⟩
    · cases h
  | .pr a, b, h => by
    simp only [rnAV] at h
    split at h
    · rename_i hn
      cases h
      exact ⟨by simp only [avLe]; exact nk_le r a hn, by simp⟩
    · cases h
  | .rw k, b, h => by
    simp only [rnAV] at h
    split at h
    · rename_i j hj
      cases h
      exact ⟨by simp only [avLe]; exact sameK_of (hf k j hj), by simp⟩
    · cases h
  | .p k g o, b, h => by
    simp only [rnAV] at h
    split at h
    · rename_i j hj
      cases h
      exact ⟨by simp only [avLe]; exact ⟨sameK_of (hf k j hj), by simp, by simp⟩, by simp⟩
    · cases h
  | .sl k g o e a n, b, h => by
    simp only [rnAV] at h
    split at h
    · rename_i j hj
      cases h
      exact ⟨by simp only [avLe]; exact ⟨sameK_of (hf k j hj), by simp, by simp, by simp, trivial, trivial⟩, by simp⟩
    · cases h
  | .u, b, h => by simp [rnAV] at h
  | .tup _, b, h => by simp [rnAV] at h
  | .pe _ _ _ _ _, b, h => by simp [rnAV] at h
theorem rnc_ge {r : Ren} {f : Nat → Option Nat} (hf : sameBack r f) : ∀ (a b : AC), rnAC f a = some b → acLe r b a
  | .bt _, b, h => by simp only [rnAC, Option.some.injEq] at h; subst h; simp [acLe]
  | .wh _, b, h => by simp only [rnAC, Option.some.injEq] at h; subst h; simp [acLe]
  | .wd _, b, h => by simp only [rnAC, Option.some.injEq] at h; subst h; simp [acLe]
  | .ww _, b, h => by simp only [rnAC, Option.some.injEq] at h; subst h; simp [acLe]
  | .is _, b, h => by simp only [rnAC, Option.some.injEq] at h; subst h; simp [acLe]
  | .ss _, b, h => by simp only [rnAC, Option.some.injEq] at h; subst h; simp [acLe]
  | .vs l, b, h => by
    simp only [rnAC] at h
    split at h
    · rename_i l' hl
      cases h
      simp only [acLe]; exact rnl_ge hf l l' hl
    · cases h
  | .fn _ _ _, b, h => by simp [rnAC] at h
theorem rnl_ge {r : Ren} {f : Nat → Option Nat} (hf : sameBack r f) : ∀ (a b : List AV), rnAL f a = some b → alLe r b a
  | [], b, h => by simp only [rnAL, Option.some.injEq] at h; subst h; simp [alLe]
  | a :: l, b, h => by
    simp only [rnAL] at h
    split at h
    · rename_i a' l' h1 h2
      cases h
      simp only [alLe]; exact ⟨(rn_ge hf a a' h1).1, rnl_ge hf l l' h2⟩
    · cases h
end
theorem rns_ge {r : Ren} {f : Nat → Option Nat} (hf : sameBack r f) : ∀ (a b : List Seg), rnSegs f a = some b → segsLe r b a
  | [], b, h => by simp only [rnSegs, Option.some.injEq] at h; subst h; simp [segsLe]
  | (n, c) :: l, b, h => by
    simp only [rnSegs] at h
    split at h
    · rename_i a' l' h1 h2
      cases h
      simp only [segsLe]; exact ⟨by simp, rnc_ge hf c a' h1, rns_ge hf l l' h2⟩
    · cases h
theorem rnb_ge {r : Ren} {f : Nat → Option Nat} (hf : sameBack r f) (a b : AB) (h : rnAB f a = some b) : abLe r b a ∧ a.live = true ∧ b.live = true := by
  cases a with
  | dead => simp [rnAB] at h
  | bk T s =>
    simp only [rnAB] at h
    split at h
    · rename_i s' hs
      cases h
      exact ⟨by simp only [abLe]; exact ⟨by simp, rns_ge hf s s' hs⟩, rfl, rfl⟩
    · cases h
  | row T e c =>
    simp only [rnAB] at h
    split at h
    · rename_i d hd
      cases h
      exact ⟨by simp only [abLe]; exact ⟨by simp, by simp, rnc_ge hf c d hd⟩, rfl, rfl⟩
    · cases h

/-! ## Names met -/
def addK (k : Nat) (ks : List Nat) : List Nat := match lmem k ks with
  | true => ks
  | false => ks ++ [k]
mutual
def keysV : AV → List Nat → List Nat
  | .rw k, ks => addK k ks
  | .p k _ _, ks => addK k ks
  | .sl k _ _ _ _ _, ks => addK k ks
  | .ag _ c, ks => keysC c ks
  | _, ks => ks
def keysC : AC → List Nat → List Nat
  | .vs l, ks => keysL l ks
  | _, ks => ks
def keysL : List AV → List Nat → List Nat
  | [], ks => ks
  | a :: l, ks => keysL l (keysV a ks)
end
def keysS : List Seg → List Nat → List Nat
  | [], ks => ks
  | (_, c) :: l, ks => keysS l (keysC c ks)
def keysB : AB → List Nat → List Nat
  | .bk _ s, ks => keysS s ks
  | .row _ _ c, ks => keysC c ks
  | .dead, ks => ks
/-- what is to be looked up, what has been -/
def gather : Nat → List Nat → Nat → List AB → (List Nat → List AB → Look) → Look
  | 0, _, _, _, _ => .no
  | fuel + 1, ks, i, abs, K => match nth ks i with
    | none => K ks abs
    | some k => .look k fun ab => gather fuel (keysB ab ks) (Nat.succ i) (abs ++ [ab]) K
def idxOf (k : Nat) : Nat → List Nat → Option Nat
  | _, [] => none
  | i, j :: r => match Nat.beq k j with
    | true => some i
    | false => idxOf k (Nat.succ i) r
theorem addK_nodup {k : Nat} {ks : List Nat} (h : ks.Nodup) : (addK k ks).Nodup ∧ ks <+: addK k ks := by
  unfold addK
  split
  · exact ⟨h, List.prefix_refl _⟩
  · rename_i hm
    refine ⟨?_, List.prefix_append _ _⟩
    rw [List.nodup_append]
    refine ⟨h, by simp, fun a ha b hb => ?_⟩
    simp at hb; subst hb
    intro e; subst e; exact lmem_spec hm ha
mutual
theorem keysV_nodup : ∀ (a : AV) (ks : List Nat), ks.Nodup → (keysV a ks).Nodup ∧ ks <+: keysV a ks
  | .rw k, ks, h => by simp only [keysV]; exact addK_nodup h
  | .p k _ _, ks, h => by simp only [keysV]; exact addK_nodup h
  | .sl k _ _ _ _ _, ks, h => by simp only [keysV]; exact addK_nodup h
  | .ag _ c, ks, h => by simp only [keysV]; exact keysC_nodup c ks h
  | .i _, ks, h => by simp only [keysV]; exact ⟨h, List.prefix_refl _⟩
  | .w8 _, ks, h => by simp only [keysV]; exact ⟨h, List.prefix_refl _⟩
  | .w16 _, ks, h => by simp only [keysV]; exact ⟨h, List.prefix_refl _⟩
  | .w32 _, ks, h => by simp only [keysV]; exact ⟨h, List.prefix_refl _⟩
  | .w64 _, ks, h => by simp only [keysV]; exact ⟨h, List.prefix_refl _⟩
  | .b _, ks, h => by simp only [keysV]; exact ⟨h, List.prefix_refl _⟩
  | .kb _, ks, h => by simp only [keysV]; exact ⟨h, List.prefix_refl _⟩
  | .s _, ks, h => by simp only [keysV]; exact ⟨h, List.prefix_refl _⟩
  | .u, ks, h => by simp only [keysV]; exact ⟨h, List.prefix_refl _⟩
  | .tup _, ks, h => by simp only [keysV]; exact ⟨h, List.prefix_refl _⟩
  | .pe _ _ _ _ _, ks, h => by simp only [keysV]; exact ⟨h, List.prefix_refl _⟩
  | .pr _, ks, h => by simp only [keysV]; exact ⟨h, List.prefix_refl _⟩
  | .rb _ _, ks, h => by simp only [keysV]; exact ⟨h, List.prefix_refl _⟩
  | .nl, ks, h => by simp only [keysV]; exact ⟨h, List.prefix_refl _⟩
  | .pn, ks, h => by simp only [keysV]; exact ⟨h, List.prefix_refl _⟩
theorem keysC_nodup : ∀ (a : AC) (ks : List Nat), ks.Nodup → (keysC a ks).Nodup ∧ ks <+: keysC a ks
  | .vs l, ks, h => by simp only [keysC]; exact keysL_nodup l ks h
  | .bt _, ks, h => by simp only [keysC]; exact ⟨h, List.prefix_refl _⟩
  | .wh _, ks, h => by simp only [keysC]; exact ⟨h, List.prefix_refl _⟩
  | .wd _, ks, h => by simp only [keysC]; exact ⟨h, List.prefix_refl _⟩
  | .ww _, ks, h => by simp only [keysC]; exact ⟨h, List.prefix_refl _⟩
  | .is _, ks, h => by simp only [keysC]; exact ⟨h, List.prefix_refl _⟩
  | .ss _, ks, h => by simp only [keysC]; exact ⟨h, List.prefix_refl _⟩
  | .fn _ _ _, ks, h => by simp only [keysC]; exact ⟨h, List.prefix_refl _⟩
theorem keysL_nodup : ∀ (a : List AV) (ks : List Nat), ks.Nodup → (keysL a ks).Nodup ∧ ks <+: keysL a ks
  | [], ks, h => by simp only [keysL]; exact ⟨h, List.prefix_refl _⟩
  | a :: l, ks, h => by
    simp only [keysL]
    obtain ⟨h1, h2⟩ := keysV_nodup a ks h
    obtain ⟨h3, h4⟩ := keysL_nodup l _ h1
    exact ⟨h3, h2.trans h4⟩
end
theorem keysS_nodup : ∀ (a : List Seg) (ks : List Nat), ks.Nodup → (keysS a ks).Nodup ∧ ks <+: keysS a ks
  | [], ks, h => ⟨h, List.prefix_refl _⟩
  | (n, c) :: l, ks, h => by
    simp only [keysS]
    obtain ⟨h1, h2⟩ := keysC_nodup c ks h
    obtain ⟨h3, h4⟩ := keysS_nodup l _ h1
    exact ⟨h3, h2.trans h4⟩
theorem keysB_nodup (a : AB) (ks : List Nat) (h : ks.Nodup) : (keysB a ks).Nodup ∧ ks <+: keysB a ks := by
  cases a with
  | dead => exact ⟨h, List.prefix_refl _⟩
  | bk T s => exact keysS_nodup s ks h
  | row T e c => exact keysC_nodup c ks h
theorem gather_sound {me : Mem} {K : List Nat → List AB → Look} {e : Eff} : ∀ (fuel : Nat) (ks : List Nat) (i : Nat) (abs : List AB), ks.Nodup → abs.length = i → (∀ (j : Nat) (ab : AB), abs[j]? = some ab → ∃ k : Nat, ks[j]? = some k ∧ mlook me k = some ab) → i ≤ ks.length →
    (gather fuel ks i abs K).run me = some e → ∃ ks' abs', ks'.Nodup ∧ abs'.length = ks'.length ∧ (∀ (j : Nat) (ab : AB), abs'[j]? = some ab → ∃ k : Nat, ks'[j]? = some k ∧ mlook me k = some ab) ∧ (K ks' abs').run me = some e
  | 0, ks, i, abs, hn, hl, ha, hi, h => by simp [gather, Look.run] at h
  | fuel + 1, ks, i, abs, hn, hl, ha, hi, h => by
    simp only [gather] at h
    split at h
    · rename_i hk
      rw [nth_get] at hk
      have : ks.length ≤ i := by simpa using hk
      exact ⟨ks, abs, hn, by omega, ha, h⟩
    · rename_i k hk
      rw [nth_get] at hk
      obtain ⟨ab, hab, h⟩ := Look.run_look h
      obtain ⟨h1, h2⟩ := keysB_nodup ab ks hn
      have hik := (List.getElem?_eq_some_iff.1 hk).1
      obtain ⟨t, ht⟩ := h2
      refine gather_sound fuel (keysB ab ks) (i + 1) (abs ++ [ab]) h1 (by simp [hl]) (fun j ab' hj => ?_) (by rw [← ht]; simp; omega) h
      by_cases e : j < abs.length
      · rw [List.getElem?_append_left e] at hj
        obtain ⟨k', h3, h4⟩ := ha j ab' hj
        exact ⟨k', by rw [← ht, List.getElem?_append_left (List.getElem?_eq_some_iff.1 h3).1]; exact h3, h4⟩
      · have e1 : j = i := by
          have := (List.getElem?_eq_some_iff.1 hj).1
          simp at this; omega
        subst e1
        rw [List.getElem?_append_right (by omega)] at hj
        simp [hl] at hj
        subst hj
        exact ⟨k, by rw [← ht, List.getElem?_append_left hik]; exact hk, hab⟩
end Go.Vc
