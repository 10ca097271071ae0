/- A part of the proof of given statements: a verified condition generator for the model, and contracts of the program's functions. No condition. -/
import Derived.Test.YtegnmmfjbncgnaaVcCtr
set_option linter.unusedVariables false
set_option linter.unusedSimpArgs false
namespace Go.Vc
open Go Go.RowKit
section
variable {P : Program} {sh : Bool} {m : Hd} {w : World} {me : Mem} {kb : Nat}
/-- the new arrays: the callee's name, the value, what lies there -/
abbrev NewRow := Option Nat × Value × AB
structure NewOk (m1 mc : Hd) (w1 : World) (sh : Bool) (s : AS) (us : List Nat) (r : NewRow) : Prop where
  row : ∃ T e c n cs, r.2.2 = .row T e c ∧ c.nk sh = true ∧ OwnRow w1 T e r.2.1 n cs ∧ RC mc w1 c cs
  key : (r.1 = none ∧ r.2.1 = .slice none 0 0) ∨ ∃ u ab, r.1 = some u ∧ u ∉ us ∧ m1 u = some r.2.1 ∧ mlook s.me u = some ab ∧ ab.live = true
/-- results against what the contract says -/
inductive RetR (m1 mc : Hd) (w1 : World) (sh : Bool) (N : AV → Bool) (s : AS) : List PR → List Value → List NewRow → List Nat → Prop
  | nil (us : List Nat) : RetR m1 mc w1 sh N s [] [] [] us
  | val (b : AV) (v : Value) (ps : List PR) (vs : List Value) (rs : List NewRow) (us : List Nat) : N b = true → RV mc w1 b v → RetR m1 mc w1 sh N s ps vs rs us → RetR m1 mc w1 sh N s (.val b :: ps) (v :: vs) rs us
  | row (T e : Nat) (c : AC) (r : NewRow) (ps : List PR) (vs : List Value) (rs : List NewRow) (us us' : List Nat) : r.2.2 = .row T e c → NewOk m1 mc w1 sh s us r →
      (∀ u, r.1 = some u → u ∈ us') → (∀ u, u ∈ us → u ∈ us') → RetR m1 mc w1 sh N s ps vs rs us' → RetR m1 mc w1 sh N s (.row T e c :: ps) (r.2.1 :: vs) (r :: rs) us
theorem lmem_spec {k : Nat} : ∀ {l : List Nat}, lmem k l = false → k ∉ l
  | [], h => by simp
  | j :: r, h => by
    simp only [lmem] at h
    split at h
    · cases h
    · rename_i hb
      intro hm
      rcases List.mem_cons.1 hm with e | e
      · subst e; simp at hb
      · exact lmem_spec h e
theorem retM_sound {m1 : Hd} {w1 : World} {s : AS} (hm : MemR m1 w1 s.me) : ∀ (l : List AV) (ps : List PR) (us : List Nat) (vs : List Value), retM sh s l ps us → RVs m1 w1 l vs → ∃ rs, RetR m1 (hren m1 []) w1 sh (AV.nk sh) s ps vs rs us
  | [], [], us, vs, h, hv => by simp only [RVs] at hv; subst hv; exact ⟨[], .nil us⟩
  | a :: r, .val b :: ps, us, vs, h, hv => by
    simp only [RVs] at hv
    obtain ⟨v, q, rfl, h1, h2⟩ := hv
    simp only [retM] at h
    split at h
    · rename_i hn
      obtain ⟨rs, hr⟩ := retM_sound hm r ps us q h.2 h2
      exact ⟨rs, .val b v ps q rs us hn (RV_le a b v h.1 (fun e => by subst e; simp [AV.nk] at hn) h1) hr⟩
    · exact h.elim
  | a :: r, .row T e c :: ps, us, vs, h, hv => by
    simp only [RVs] at hv
    obtain ⟨v, q, rfl, h1, h2⟩ := hv
    simp only [retM] at h
    split at h
    · rename_i hn
      split at h
      · rename_i k
        split at h
        · exact h.elim
        · rename_i hus
          split at h
          · rename_i T' e' c' hl
            obtain ⟨⟨e1, e2, h3⟩, h4⟩ := h
            have e1 := beq_nat e1; have e2 := beq_nat e2; subst e1; subst e2
            obtain ⟨rs, hr⟩ := retM_sound hm r ps (k :: us) q h4 h2
            obtain ⟨v', n, cs, g1, g2, g3⟩ := hm.at_ k _ hl
            simp only [RV, CR] at h1
            obtain ⟨v'', g4, g5, _⟩ := h1
            simp only [List.cons.injEq, and_true] at g5
            subst g5
            rw [g1] at g4; cases g4
            exact ⟨_, .row _ _ c (some k, v, .row T' e' c) ps q rs us (k :: us) rfl ⟨⟨T', e', c, n, cs, rfl, hn, g2, RC_le c' c cs h3 g3⟩, .inr ⟨k, _, rfl, lmem_spec hus, g1, hl, rfl⟩⟩
              (fun u hu => by cases hu; simp) (fun u hu => by simp [hu]) hr⟩
          · exact h.elim
      · obtain ⟨h3, h4⟩ := h
        obtain ⟨rs, hr⟩ := retM_sound hm r ps us q h4 h2
        simp only [RV, CR, List.cons.injEq, and_true] at h1
        subst h1
        exact ⟨_, .row T e c (none, .slice none 0 0, .row T e c) ps q rs us us rfl ⟨⟨T, e, c, 0, [], rfl, hn, ⟨by simp, .inl ⟨rfl, rfl⟩⟩, acNil_RC h3⟩, .inl ⟨rfl, rfl⟩⟩
          (fun u hu => by cases hu) (fun u hu => hu) hr⟩
      · exact h.elim
    · exact h.elim
  | [], _ :: _, us, vs, h, hv => by simp [retM] at h
  | _ :: _, [], us, vs, h, hv => by simp [retM] at h

theorem RetR.len {m1 mc : Hd} {N : AV → Bool} {w1 : World} {s : AS} {ps : List PR} {vs : List Value} {rs : List NewRow} {us : List Nat} (h : RetR m1 mc w1 sh N s ps vs rs us) : rs.length = nRows ps := by
  induction h with
  | nil => rfl
  | val _ _ _ _ _ _ _ _ _ ih => simpa [nRows] using ih
  | row _ _ _ _ _ _ _ _ _ _ _ _ _ _ ih => simp [nRows, ih]
theorem RetR.all {m1 mc : Hd} {N : AV → Bool} {w1 : World} {s : AS} {ps : List PR} {vs : List Value} {rs : List NewRow} {us : List Nat} (h : RetR m1 mc w1 sh N s ps vs rs us) :
    (∀ r ∈ rs, NewOk m1 mc w1 sh s us r) ∧ rs.Pairwise fun a b => ∀ u, a.1 = some u → b.1 ≠ some u := by
  induction h with
  | nil => simp
  | val _ _ _ _ _ _ _ _ _ ih => exact ih
  | row T e c r ps vs rs us us' h1 h2 h3 h4 _ ih =>
    refine ⟨fun q hq => ?_, List.pairwise_cons.2 ⟨fun q hq u hu hu' => ?_, ih.2⟩⟩
    · rcases List.mem_cons.1 hq with rfl | hq
      · exact h2
      · obtain ⟨g1, g2⟩ := ih.1 q hq
        exact ⟨g1, g2.imp id fun ⟨u, ab, k1, k2, k3⟩ => ⟨u, ab, k1, fun hm => k2 (h4 u hm), k3⟩⟩
    · rcases (ih.1 q hq).key with ⟨g1, _⟩ | ⟨u', ab, k1, k2, k3⟩
      · rw [g1] at hu'; cases hu'
      · rw [k1] at hu'; cases hu'
        exact k2 (h3 u hu)

/-- the caller's names behind the call -/
def mNew (m : Hd) (kb : Nat) (rs : List NewRow) : Hd := ⟨fun t => if kb ≤ t ∧ t < kb + rs.length then (rs[t - kb]?).map (·.2.1) else m t, m.ok⟩
theorem mNew_in {rs : List NewRow} {i : Nat} {r : NewRow} (h : rs[i]? = some r) : (mNew m kb rs) (kb + i) = some r.2.1 := by
  have hi := (List.getElem?_eq_some_iff.1 h).1
  show (if kb ≤ kb + i ∧ kb + i < kb + rs.length then _ else _) = _
  rw [if_pos ⟨by omega, by omega⟩]
  simp [h]
theorem mNew_cases {rs : List NewRow} {t : Nat} {v : Value} (h : (mNew m kb rs) t = some v) : (∃ i r, t = kb + i ∧ rs[i]? = some r ∧ v = r.2.1) ∨ (¬ (kb ≤ t ∧ t < kb + rs.length) ∧ m t = some v) := by
  have h' : (if kb ≤ t ∧ t < kb + rs.length then (rs[t - kb]?).map (·.2.1) else m t) = some v := h
  split at h'
  · rename_i hi
    cases hr : rs[t - kb]? with
    | none => rw [hr] at h'; cases h'
    | some r => rw [hr] at h'; cases h'; exact .inl ⟨t - kb, r, by omega, hr, rfl⟩
  · rename_i hi
    exact .inr ⟨hi, h'⟩
theorem mlook_new : ∀ (ps : List PR) (vs : List Value) (rs : List NewRow) (us : List Nat) (m1 mc : Hd) (N : AV → Bool) (w1 : World) (s : AS) (kb t : Nat), RetR m1 mc w1 sh N s ps vs rs us →
    mlook (mputs (newRows kb ps) me) t = if kb ≤ t ∧ t < kb + rs.length then (rs[t - kb]?).map (·.2.2) else mlook me t := by
  intro ps vs rs us m1 mc N w1 s kb t h
  induction h generalizing kb with
  | nil => simp [newRows, mputs]; omega
  | val _ _ _ _ _ _ _ _ _ ih => exact ih kb
  | row T e c r ps vs rs us us' h1 h2 h3 h4 _ ih =>
    simp only [newRows, mputs]
    rw [mlook_cons]
    by_cases e1 : kb = t
    · subst e1
      simp [h1]
    · rw [if_neg e1, ih (kb + 1)]
      by_cases e2 : kb + 1 ≤ t ∧ t < kb + 1 + rs.length
      · rw [if_pos e2, if_pos (by simp; omega)]
        have e3 : t - kb = (t - (kb + 1)) + 1 := by omega
        rw [e3]; simp
      · rw [if_neg e2, if_neg (by simp; omega)]
theorem outs_sound {m1 mc : Hd} {N : AV → Bool} {w1 : World} {s : AS} {m' : Hd} (hmv : ∀ b v, N b = true → RV mc w1 b v → RV m' w1 b v) :
    ∀ (ps : List PR) (vs : List Value) (rs : List NewRow) (us : List Nat) (kb : Nat), RetR m1 mc w1 sh N s ps vs rs us → (∀ i r, rs[i]? = some r → m' (kb + i) = some r.2.1) → RVs m' w1 (outs kb ps) vs := by
  intro ps vs rs us kb h
  induction h generalizing kb with
  | nil => intro _; simp [outs, RVs]
  | val b v ps vs rs us h1 h2 _ ih =>
    intro hm
    simp only [outs, RVs]
    exact ⟨v, vs, rfl, hmv b v h1 h2, ih kb hm⟩
  | row T e c r ps vs rs us us' h1 h2 h3 h4 _ ih =>
    intro hm
    simp only [outs, RVs]
    refine ⟨r.2.1, vs, rfl, ?_, ih (kb + 1) fun i q hq => ?_⟩
    · simp only [RV, CR]
      refine ⟨_, by simpa using hm 0 r (by simp), rfl, ?_⟩
      obtain ⟨_, _, _, _, _, _, _, ho, _⟩ := h2.row
      rcases ho.2 with ⟨e, _⟩ | ⟨_, _, _, _, e, _⟩ <;> rw [e] <;> rfl
    · have := hm (i + 1) q (by simpa using hq)
      rw [← this]; congr 1; omega
end
end Go.Vc
