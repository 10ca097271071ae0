/- A part of the proof of given statements: a verified condition generator for the model, and contracts of the program's functions. No condition. -/
import Derived.Test.YtegnmmfjbncgnaaVcH
set_option linter.unusedVariables false
set_option linter.unusedSimpArgs false
namespace Go.Vc
open Go Go.RowKit
def zipMe : Nat → List AB → Mem
  | _, [] => []
  | i, a :: r => (i, a) :: zipMe (Nat.succ i) r
def ridOf : Nat → List AB → Ren
  | _, [] => []
  | i, _ :: r => (i, some i) :: ridOf (Nat.succ i) r
def upto : Nat → List AB → List Nat
  | _, [] => []
  | i, _ :: r => i :: upto (Nat.succ i) r
abbrev HLaw := List AV → List AB → Option (Prop × List PR × List (Option AB))
def rnOpts (f : Nat → Option Nat) : List (Option AB) → Option (List (Option AB))
  | [] => some []
  | none :: l => match rnOpts f l with
    | some l' => some (none :: l')
    | none => none
  | some a :: l => match rnAB f a, rnOpts f l with
    | some b, some l' => some (some b :: l')
    | _, _ => none
/-- what has turned, under the caller's names -/
def chg : List Nat → List (Option AB) → Mem
  | k :: ks, some a :: r => (k, a) :: chg ks r
  | _ :: ks, none :: r => chg ks r
  | _, _ => []
def sameLen : List Nat → List AB → List (Option AB) → Bool
  | [], [], [] => true
  | _ :: a, _ :: b, _ :: c => sameLen a b c
  | _, _, _ => false
def mapp : Mem → Mem → Mem
  | [], b => b
  | p :: r, b => p :: mapp r b
def few : Nat → List Nat → Bool
  | _, [] => true
  | 0, _ :: _ => false
  | n + 1, _ :: r => few n r
def isLen : Nat → List Nat → Bool
  | 0, [] => true
  | n + 1, _ :: r => isLen n r
  | _, _ => false
def hSpec (n : Nat) (g : HLaw) : Spec := fun args kb =>
  gather 40 (keysL args []) 0 [] fun ks abs =>
    match rnAL (fun k => idxOf k 0 ks) args, rnABs (fun k => idxOf k 0 ks) abs with
    | some l, some mm => match g l mm with
      | some (c, rs, ch) => match rnPRs (nth ks) rs, rnOpts (nth ks) ch with
        | some rs', some ch' => match Nat.ble (nRows rs') 8, isLen n ks, sameLen ks mm ch' with
          | true, true, true => .ret ⟨c, tupAV (outs kb rs'), mapp (newRows kb rs') (chg ks ch')⟩
          | _, _, _ => .no
        | _, _ => .no
      | none => .no
    | _, _ => .no
def retMH (rid : Ren) (s : AS) : List AV → List PR → List Nat → Prop
  | [], [], _ => True
  | a :: r, .val b :: ps, us => avLe rid a b ∧ retMH rid s r ps us
  | a :: r, .row T e c :: ps, us => match c.nk true with
    | true => match a with
      | .rw k => match lmem k us with
        | true => False
        | false => match mlook s.me k with
          | some (.row T' e' c') => (Nat.beq T' T = true ∧ Nat.beq e' e = true ∧ acLe rid c' c) ∧ retMH rid s r ps (k :: us)
          | _ => False
      | .nl => acNil c ∧ retMH rid s r ps us
      | _ => False
    | false => False
  | _, _, _ => False
def memM (rid : Ren) (s : AS) : Nat → List AB → List (Option AB) → Prop
  | _, [], [] => True
  | i, a :: r, o :: q => (match mlook s.me i with
    | some b => match o with
      | none => abLe rid b a
      | some a' => abLe rid b a'
    | none => False) ∧ memM rid s (Nat.succ i) r q
  | _, _, _ => False
def retHOk (F : Fs) (tt : TT) (fr : List ResultVar) (mm : List AB) (rs : List PR) (ch : List (Option AB)) : VX → AS → Prop :=
  endK F tt fr fun l s => retMH (ridOf 0 mm) s l rs (upto 0 mm) ∧ memM (ridOf 0 mm) s 0 mm ch

/-! ## Lists -/
theorem zipMe_look : ∀ (l : List AB) (i t : Nat), mlook (zipMe i l) t = if i ≤ t then l[t - i]? else none
  | [], i, t => by simp [zipMe, mlook]
  | a :: r, i, t => by
    simp only [zipMe]
    rw [mlook_cons, zipMe_look r (i + 1) t]
    by_cases e : i = t
    · subst e; simp
    · rw [if_neg e]
      by_cases h : i + 1 ≤ t
      · rw [if_pos h, if_pos (by omega), show t - i = (t - (i + 1)) + 1 by omega]; simp
      · rw [if_neg h, if_neg (by omega)]
theorem rlook_cons (k : Nat) (a : Option Nat) (r : Ren) (t : Nat) : rlook ((k, a) :: r) t = if k = t then some a else rlook r t := by
  simp only [rlook]
  by_cases h : k = t
  · subst h; simp
  · rw [if_neg h]
    split
    · rename_i e; exact absurd (beq_nat e) h
    · rfl
theorem ridOf_look : ∀ (l : List AB) (i t : Nat), rlook (ridOf i l) t = if i ≤ t ∧ t < i + l.length then some (some t) else none
  | [], i, t => by simp [ridOf, rlook]
  | a :: r, i, t => by
    simp only [ridOf]
    rw [rlook_cons, ridOf_look r (i + 1) t]
    by_cases e : i = t
    · subst e; simp
    · rw [if_neg e]
      by_cases h : i + 1 ≤ t ∧ t < i + 1 + r.length
      · rw [if_pos h, if_pos (by simp; omega)]
      · rw [if_neg h, if_neg (by simp; omega)]
theorem upto_mem : ∀ (l : List AB) (i t : Nat), t ∈ upto i l ↔ i ≤ t ∧ t < i + l.length
  | [], i, t => by simp [upto]
  | a :: r, i, t => by
    simp only [upto, List.mem_cons, upto_mem r (i + 1) t, List.length_cons]
    omega
/-- local names for the caller's -/
def ren1 : Nat → List Nat → Ren
  | _, [] => []
  | i, k :: r => (i, some k) :: ren1 (i + 1) r
theorem ren1_look : ∀ (l : List Nat) (i t : Nat), rlook (ren1 i l) t = if i ≤ t then (l[t - i]?).map some else none
  | [], i, t => by simp [ren1, rlook]
  | a :: r, i, t => by
    simp only [ren1]
    rw [rlook_cons, ren1_look r (i + 1) t]
    by_cases e : i = t
    · subst e; simp
    · rw [if_neg e]
      by_cases h : i + 1 ≤ t
      · rw [if_pos h, if_pos (by omega), show t - i = (t - (i + 1)) + 1 by omega]; simp
      · rw [if_neg h, if_neg (by omega)]
/-- and back -/
def ren2 : Nat → List Nat → Ren
  | _, [] => []
  | i, k :: r => (k, some i) :: ren2 (i + 1) r
theorem ren2_look : ∀ (l : List Nat) (i t : Nat), rlook (ren2 i l) t = (idxOf t i l).map some
  | [], i, t => by simp [ren2, rlook, idxOf]
  | a :: r, i, t => by
    simp only [ren2]
    rw [rlook_cons, ren2_look r (i + 1) t]
    simp only [idxOf]
    by_cases e : a = t
    · subst e; simp
    · rw [if_neg e]
      split
      · rename_i h; exact absurd (beq_nat h).symm e
      · rfl
theorem idxOf_get : ∀ (l : List Nat) (i t j : Nat), idxOf t i l = some j → i ≤ j ∧ l[j - i]? = some t
  | [], i, t, j, h => by simp [idxOf] at h
  | a :: r, i, t, j, h => by
    simp only [idxOf] at h
    split at h
    · rename_i e
      have := beq_nat e; subst this
      cases h
      simp
    · obtain ⟨h1, h2⟩ := idxOf_get r (i + 1) t j h
      refine ⟨by omega, ?_⟩
      rw [show j - i = (j - (i + 1)) + 1 by omega]; simpa using h2
theorem idxOf_of : ∀ (l : List Nat) (i t j : Nat), l.Nodup → l[j]? = some t → idxOf t i l = some (i + j)
  | [], i, t, j, _, h => by simp at h
  | a :: r, i, t, j, hn, h => by
    simp only [idxOf]
    cases j with
    | zero => simp only [List.getElem?_cons_zero, Option.some.injEq] at h; subst h; simp
    | succ j =>
      simp only [List.getElem?_cons_succ] at h
      have hne : t ≠ a := fun e => by subst e; exact (List.nodup_cons.1 hn).1 (List.mem_of_getElem? h)
      split
      · rename_i e; exact absurd (beq_nat e) hne
      · rw [idxOf_of r (i + 1) t j (List.nodup_cons.1 hn).2 h]; congr 1; omega
theorem same1 (ks : List Nat) : sameAll (ren1 0 ks) (fun k => idxOf k 0 ks) := by
  intro k j h
  rw [ren1_look]
  have := (idxOf_get ks 0 k j h).2
  simp only [Nat.sub_zero] at this
  simp [this]
theorem same2 {ks : List Nat} (hn : ks.Nodup) : sameAll (ren2 0 ks) (nth ks) := by
  intro k j h
  rw [nth_get] at h
  rw [ren2_look, idxOf_of ks 0 j k hn h]
  simp
theorem rnABs_get {f : Nat → Option Nat} : ∀ {a b : List AB}, rnABs f a = some b → a.length = b.length ∧ ∀ (j : Nat) y, b[j]? = some y → ∃ x, a[j]? = some x ∧ rnAB f x = some y
  | [], b, h => by simp only [rnABs, Option.some.injEq] at h; subst h; simp
  | x :: a, b, h => by
    simp only [rnABs] at h
    split at h
    · rename_i y b' h1 h2
      cases h
      obtain ⟨h3, h4⟩ := rnABs_get h2
      refine ⟨by simp [h3], fun j z hz => ?_⟩
      cases j with
      | zero => simp only [List.getElem?_cons_zero, Option.some.injEq] at hz; subst hz; exact ⟨x, rfl, h1⟩
      | succ j => exact h4 j z (by simpa using hz)
    · cases h
theorem isLen_spec : ∀ {n : Nat} {l : List Nat}, isLen n l = true → l.length = n
  | 0, [], _ => rfl
  | 0, _ :: _, h => by simp [isLen] at h
  | n + 1, [], h => by simp [isLen] at h
  | n + 1, _ :: r, h => by simp [isLen_spec (n := n) (l := r) (by simpa [isLen] using h)]
theorem sameLen_spec : ∀ {a : List Nat} {b : List AB} {c : List (Option AB)}, sameLen a b c = true → b.length = a.length ∧ c.length = a.length
  | [], [], [], _ => ⟨rfl, rfl⟩
  | _ :: a, _ :: b, _ :: c, h => by
    obtain ⟨h1, h2⟩ := sameLen_spec (a := a) (b := b) (c := c) (by simpa [sameLen] using h)
    simp [h1, h2]
  | [], _ :: _, _, h => by simp [sameLen] at h
  | [], [], _ :: _, h => by simp [sameLen] at h
  | _ :: _, [], _, h => by simp [sameLen] at h
  | _ :: _, _ :: _, [], h => by simp [sameLen] at h
theorem rnOpts_get {f : Nat → Option Nat} : ∀ {a b : List (Option AB)}, rnOpts f a = some b → a.length = b.length ∧ ∀ (j : Nat), (b[j]? = some none → a[j]? = some none) ∧ ∀ y, b[j]? = some (some y) → ∃ x, a[j]? = some (some x) ∧ rnAB f x = some y
  | [], b, h => by simp only [rnOpts, Option.some.injEq] at h; subst h; simp
  | none :: a, b, h => by
    simp only [rnOpts] at h
    split at h
    · rename_i b' h2
      cases h
      obtain ⟨h3, h4⟩ := rnOpts_get h2
      refine ⟨by simp [h3], fun j => ?_⟩
      cases j with
      | zero => simp
      | succ j => simpa using h4 j
    · cases h
  | some x :: a, b, h => by
    simp only [rnOpts] at h
    split at h
    · rename_i y b' h1 h2
      cases h
      obtain ⟨h3, h4⟩ := rnOpts_get h2
      refine ⟨by simp [h3], fun j => ?_⟩
      cases j with
      | zero => simp only [List.getElem?_cons_zero, Option.some.injEq, reduceCtorEq, false_implies, true_and]; intro z hz; exact ⟨x, rfl, by rw [h1]; exact congrArg _ hz⟩
      | succ j => simpa using h4 j
    · cases h
theorem mlook_mapp : ∀ (p q : Mem) (k : Nat), mlook (mapp p q) k = match mlook p k with
    | some ab => some ab
    | none => mlook q k
  | [], q, k => rfl
  | (t, a) :: r, q, k => by
    simp only [mapp]
    rw [mlook_cons, mlook_cons]
    split
    · rfl
    · exact mlook_mapp r q k
theorem chg_look : ∀ (ks : List Nat) (ch : List (Option AB)) (k : Nat), ks.Nodup → ch.length = ks.length → mlook (chg ks ch) k = match idxOf k 0 ks with
    | some j => match ch[j]? with
      | some (some a) => some a
      | _ => none
    | none => none := by
  have key : ∀ (ks : List Nat) (ch : List (Option AB)) (k i : Nat), ks.Nodup → ch.length = ks.length → mlook (chg ks ch) k = match idxOf k i ks with
    | some j => match ch[j - i]? with
      | some (some a) => some a
      | _ => none
    | none => none := by
    intro ks
    induction ks with
    | nil => intro ch k i _ h; cases ch <;> simp [chg, mlook, idxOf]
    | cons t r ih =>
      intro ch k i hn hl
      cases ch with
      | nil => simp at hl
      | cons o q =>
        have hl : q.length = r.length := by simpa using hl
        have hi := ih q k (i + 1) (List.nodup_cons.1 hn).2 hl
        by_cases e : k = t
        · subst e
          have hno : mlook (chg r q) k = none := by
            rw [hi]
            cases hq : idxOf k (i + 1) r with
            | none => rfl
            | some j => exact absurd (List.mem_of_getElem? (idxOf_get r (i + 1) k j hq).2) (List.nodup_cons.1 hn).1
          simp only [idxOf, Nat.beq_refl, Nat.sub_self]
          cases o with
          | none => simpa [chg] using hno
          | some a => simp [chg, mlook_cons]
        · have hidx : idxOf k i (t :: r) = idxOf k (i + 1) r := by
            simp only [idxOf]
            split
            · rename_i h; exact absurd (beq_nat h) e
            · rfl
          rw [hidx]
          have hm : mlook (chg (t :: r) (o :: q)) k = mlook (chg r q) k := by
            cases o with
            | none => rfl
            | some a => simp only [chg]; rw [mlook_cons, if_neg (fun h => e h.symm)]
          rw [hm, hi]
          cases hq : idxOf k (i + 1) r with
          | none => rfl
          | some j =>
            have := (idxOf_get r (i + 1) k j hq).1
            simp only
            rw [show j - i = (j - (i + 1)) + 1 by omega]; simp
  intro ks ch k hn hl
  rw [key ks ch k 0 hn hl]
  cases idxOf k 0 ks <;> simp
theorem memM_get {rid : Ren} {s : AS} : ∀ {i : Nat} {mm : List AB} {ch : List (Option AB)}, memM rid s i mm ch → ∀ (j : Nat) a, mm[j]? = some a → ∃ b, mlook s.me (i + j) = some b ∧ (ch[j]? = some none → abLe rid b a) ∧ ∀ a', ch[j]? = some (some a') → abLe rid b a'
  | i, [], ch, h, j, a, ha => by simp at ha
  | i, x :: mm, [], h, j, a, ha => by simp [memM] at h
  | i, x :: mm, o :: q, h, j, a, ha => by
    simp only [memM] at h
    cases j with
    | zero =>
      simp only [List.getElem?_cons_zero, Option.some.injEq] at ha
      subst ha
      have h1 := h.1
      split at h1
      · rename_i b hb
        refine ⟨b, hb, ?_⟩
        split at h1
        · simpa using h1
        · simp only [List.getElem?_cons_zero, Option.some.injEq, reduceCtorEq, false_implies, true_and]; intro a' ha'; subst ha'; exact h1
      · exact h1.elim
    | succ j =>
      obtain ⟨b, h1, h2⟩ := memM_get h.2 j a (by simpa using ha)
      exact ⟨b, by rw [← h1]; congr 1; omega, by simpa using h2⟩
end Go.Vc
