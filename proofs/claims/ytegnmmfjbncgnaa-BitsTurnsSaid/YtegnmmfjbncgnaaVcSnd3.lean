/- A part of the proof of given statements: a verified condition generator for the model, and contracts of the program's functions. No condition. -/
import Derived.Test.YtegnmmfjbncgnaaVcSnd2
set_option linter.unusedVariables false
set_option linter.unusedSimpArgs false
namespace Go.Vc
open Go Go.RowKit

/-! ## Values and cells -/
section
variable {m : Hd} {w : World}
theorem RV_of_CR {a : AV} {v : Value} (h : a.one = true) (hc : CR m w a [v]) : RV m w a v := by
  cases a <;> simp only [AV.one, Bool.false_eq_true, reduceCtorEq] at h <;> simpa only [RV] using hc
theorem CR_of_RV {a : AV} {v : Value} (h : a.one = true) (hv : RV m w a v) : CR m w a [v] ∧ v.oneCell' = true ∧ v.cells = #[v] := by
  cases a <;> simp only [AV.one, Bool.false_eq_true, reduceCtorEq] at h <;> simp only [RV] at hv <;> refine ⟨hv, ?_⟩ <;> simp only [CR, List.cons.injEq, and_true] at hv
  case p => obtain ⟨g, _, rfl⟩ := hv; exact ⟨rfl, rfl⟩
  case pe => obtain ⟨_, g, _, _, rfl⟩ := hv; exact ⟨rfl, rfl⟩
  case pr => obtain ⟨ad, ds, rfl, _⟩ := hv; exact ⟨rfl, rfl⟩
  case sl => obtain ⟨_, ad, cap, _, rfl, _⟩ := hv; exact ⟨rfl, rfl⟩
  case rb => obtain ⟨ad, n, cap, ds, rfl, _⟩ := hv; exact ⟨rfl, rfl⟩
  case rw =>
    obtain ⟨u, _, rfl, h1⟩ := hv
    refine ⟨h1, ?_⟩
    cases v <;> first | rfl | (simp [Value.oneCell'] at h1)
  all_goals subst hv; exact ⟨rfl, rfl⟩
/-- a value's cells -/
theorem CR_cells {a : AV} {v : Value} (h : a.one = true ∨ ∃ n c, a = .ag n c) (hv : RV m w a v) : CR m w a v.cells.toList := by
  rcases h with h | ⟨n, c, rfl⟩
  · obtain ⟨h1, _, h2⟩ := CR_of_RV h hv
    rw [h2]; exact h1
  · simp only [RV] at hv
    obtain ⟨cs, rfl, h1, h2⟩ := hv
    simp only [CR, Value.cells]
    exact ⟨by simpa using h1, by simpa using h2⟩
theorem RV_ag {n : Nat} {c : AC} {cs : List Value} (h : CR m w (.ag n c) cs) : RV m w (.ag n c) (.agg cs.toArray) := by
  simp only [CR] at h
  simp only [RV]
  exact ⟨cs, rfl, h.1, h.2⟩

/-! ## Segments -/
theorem beq_nat {a b : Nat} (h : Nat.beq a b = true) : a = b := Nat.eq_of_beq_eq_true h
theorem ble_nat {a b : Nat} (h : Nat.ble a b = true) : a ≤ b := Nat.le_of_ble_eq_true h
theorem segAt_sound : ∀ (g o : Nat) (segs : List Seg) (n : Nat) (c : AC) (cs : List Value), withContent.segAt g o segs = some (n, c) → SegsR m w segs cs →
    ∃ pre mid post, cs = pre ++ mid ++ post ∧ pre.length = o ∧ mid.length = n ∧ RC m w c mid
  | 0, o, segs, n, c, cs, h, hs => by
    cases segs with
    | nil => cases o <;> simp [withContent.segAt] at h
    | cons s r =>
      cases o with
      | succ o => simp [withContent.segAt] at h
      | zero =>
        simp only [withContent.segAt, Option.some.injEq] at h
        subst h
        simp only [SegsR] at hs
        obtain ⟨c1, c2, rfl, h1, h2, h3⟩ := hs
        exact ⟨[], c1, c2, by simp, rfl, h1, h2⟩
  | g + 1, o, segs, n, c, cs, h, hs => by
    cases segs with
    | nil => simp [withContent.segAt] at h
    | cons s r =>
      obtain ⟨k, d⟩ := s
      simp only [withContent.segAt] at h
      split at h
      · rename_i hb
        simp only [SegsR] at hs
        obtain ⟨c1, c2, rfl, h1, h2, h3⟩ := hs
        obtain ⟨pre, mid, post, rfl, h4, h5, h6⟩ := segAt_sound g _ r n c c2 h h3
        have := ble_nat hb
        exact ⟨c1 ++ pre, mid, post, by simp, by rw [List.length_append, h1, h4]; omega, h5, h6⟩
      · cases h
theorem segDrop_sound : ∀ (g o : Nat) (segs s : List Seg) (cs : List Value), segDrop g o segs = some s → SegsR m w segs cs →
    ∃ pre rest, cs = pre ++ rest ∧ pre.length = o ∧ SegsR m w s rest
  | 0, o, segs, s, cs, h, hs => by
    cases o with
    | succ o => simp [segDrop] at h
    | zero => simp only [segDrop, Option.some.injEq] at h; subst h; exact ⟨[], cs, rfl, rfl, hs⟩
  | g + 1, o, segs, s, cs, h, hs => by
    cases segs with
    | nil => simp [segDrop] at h
    | cons x r =>
      obtain ⟨k, d⟩ := x
      simp only [segDrop] at h
      split at h
      · rename_i hb
        simp only [SegsR] at hs
        obtain ⟨c1, c2, rfl, h1, h2, h3⟩ := hs
        obtain ⟨pre, rest, rfl, h4, h5⟩ := segDrop_sound g _ r s c2 h h3
        have := ble_nat hb
        exact ⟨c1 ++ pre, rest, by simp, by rw [List.length_append, h1, h4]; omega, h5⟩
      · cases h
theorem over_sound : ∀ (new segs segs' : List Seg) (cs ds : List Value), segPut.over new segs = some segs' → SegsR m w segs cs → SegsR m w new ds →
    ∃ mid post, cs = mid ++ post ∧ mid.length = ds.length ∧ SegsR m w segs' (ds ++ post)
  | [], segs, segs', cs, ds, h, hs, hn => by
    simp only [segPut.over, Option.some.injEq] at h
    simp only [SegsR] at hn
    subst h; subst hn
    exact ⟨[], cs, rfl, rfl, hs⟩
  | (n, c) :: new, segs, segs', cs, ds, h, hs, hn => by
    cases segs with
    | nil => simp [segPut.over] at h
    | cons x r =>
      obtain ⟨k, d⟩ := x
      simp only [segPut.over] at h
      split at h
      · rename_i hb
        split at h
        · rename_i r' hr
          cases h
          simp only [SegsR] at hs hn
          obtain ⟨c1, c2, rfl, h1, h2, h3⟩ := hs
          obtain ⟨d1, d2, rfl, g1, g2, g3⟩ := hn
          obtain ⟨mid, post, rfl, h4, h5⟩ := over_sound new r r' c2 d2 hr h3 g3
          have := beq_nat hb
          refine ⟨c1 ++ mid, post, by simp, by simp [h1, g1, h4, this], ?_⟩
          simp only [SegsR]
          exact ⟨d1, d2 ++ post, by simp, g1, g2, h5⟩
        · cases h
      · cases h
theorem segPut_sound : ∀ (g o : Nat) (new segs segs' : List Seg) (cs ds : List Value), segPut g o new segs = some segs' → SegsR m w segs cs → SegsR m w new ds →
    ∃ pre mid post, cs = pre ++ mid ++ post ∧ pre.length = o ∧ mid.length = ds.length ∧ SegsR m w segs' (pre ++ ds ++ post)
  | 0, o, new, segs, segs', cs, ds, h, hs, hn => by
    cases o with
    | succ o => simp [segPut] at h
    | zero =>
      simp only [segPut] at h
      obtain ⟨mid, post, rfl, h1, h2⟩ := over_sound new segs segs' cs ds h hs hn
      exact ⟨[], mid, post, by simp, rfl, h1, by simpa using h2⟩
  | g + 1, o, new, segs, segs', cs, ds, h, hs, hn => by
    cases segs with
    | nil => simp [segPut] at h
    | cons x r =>
      obtain ⟨k, d⟩ := x
      simp only [segPut] at h
      split at h
      · rename_i hb
        split at h
        · rename_i r' hr
          cases h
          simp only [SegsR] at hs
          obtain ⟨c1, c2, rfl, h1, h2, h3⟩ := hs
          obtain ⟨pre, mid, post, rfl, h4, h5, h6⟩ := segPut_sound g _ new r r' c2 ds hr h3 hn
          have := ble_nat hb
          refine ⟨c1 ++ pre, mid, post, by simp, by rw [List.length_append, h1, h4]; omega, h5, ?_⟩
          simp only [SegsR]
          exact ⟨c1, pre ++ ds ++ post, by simp, h1, h2, h6⟩
        · cases h
      · cases h

mutual
theorem take_sound : ∀ (lay : Lay) (s : List Seg) (a : AV) (r : List Seg) (cs : List Value), lay.take s = some (a, r) → SegsR m w s cs →
    ∃ ds rest, cs = ds ++ rest ∧ CR m w a ds ∧ ds.length = lay.cells ∧ SegsR m w r rest ∧ (match lay with | .one _ => a.one = true | _ => ∃ n c, a = .ag n c)
  | .one z, s, a, r, cs, h, hs => by
    simp only [Lay.take] at h
    split at h
    · rename_i b r'
      split at h
      · rename_i ho
        cases h
        simp only [SegsR, RC, LR] at hs
        obtain ⟨c1, c2, rfl, h1, ⟨d1, d2, rfl, h2, rfl⟩, h3⟩ := hs
        exact ⟨d1, c2, by simp, h2, by simpa [Lay.cells] using h1, h3, ho⟩
      · cases h
    · cases h
  | .arr n z, s, a, r, cs, h, hs => by
    simp only [Lay.take] at h
    split at h
    · rename_i k c r'
      split at h
      · rename_i hb
        cases h
        simp only [SegsR] at hs
        obtain ⟨c1, c2, rfl, h1, h2, h3⟩ := hs
        have := beq_nat hb
        refine ⟨c1, c2, rfl, ?_, by simp [Lay.cells]; omega, h3, _, _, rfl⟩
        simp only [CR]
        exact ⟨by omega, h2⟩
      · cases h
    · cases h
  | .st l, s, a, r, cs, h, hs => by
    simp only [Lay.take] at h
    split at h
    · rename_i as r' hl
      cases h
      obtain ⟨ds, rest, h1, h2, h3, h4⟩ := ltake_sound l s as r cs hl hs
      refine ⟨ds, rest, h1, ?_, h3, h4, _, _, rfl⟩
      simp only [CR, RC]
      exact ⟨h3, h2⟩
    · cases h
theorem ltake_sound : ∀ (l : List Lay) (s : List Seg) (as : List AV) (r : List Seg) (cs : List Value), ltake l s = some (as, r) → SegsR m w s cs →
    ∃ ds rest, cs = ds ++ rest ∧ LR m w as ds ∧ ds.length = lcells l ∧ SegsR m w r rest
  | [], s, as, r, cs, h, hs => by
    simp only [ltake, Option.some.injEq, Prod.mk.injEq] at h
    obtain ⟨rfl, rfl⟩ := h
    exact ⟨[], cs, rfl, by simp [LR], rfl, hs⟩
  | a :: l, s, as, r, cs, h, hs => by
    simp only [ltake] at h
    split at h
    · cases h
    · rename_i x r1 h1
      split at h
      · cases h
      · rename_i xs r2 h2
        cases h
        obtain ⟨ds, rest, rfl, g1, g2, g3, _⟩ := take_sound a s x r1 cs h1 hs
        obtain ⟨ds2, rest2, rfl, g4, g5, g6⟩ := ltake_sound l r1 xs r rest h2 g3
        refine ⟨ds ++ ds2, rest2, by simp, ?_, by simp [lcells, g2, g5], g6⟩
        simp only [LR]
        exact ⟨ds, ds2, rfl, g1, g4⟩
end

mutual
theorem put_sound : ∀ (lay : Lay) (a : AV) (s : List Seg) (cs : List Value), lay.put a = some s → CR m w a cs → cs.length = lay.cells ∧ SegsR m w s cs ∨ a = .u
  | .one z, a, s, cs, h, hc => by
    simp only [Lay.put] at h
    split at h
    · rename_i ho
      cases h
      have hl : ∃ v, cs = [v] := by
        cases a <;> simp only [AV.one, Bool.false_eq_true, reduceCtorEq] at ho <;> simp only [CR] at hc
        case p => obtain ⟨g, _, rfl⟩ := hc; exact ⟨_, rfl⟩
        case pe => obtain ⟨_, g, _, _, rfl⟩ := hc; exact ⟨_, rfl⟩
        case pr => obtain ⟨ad, ds, rfl, _⟩ := hc; exact ⟨_, rfl⟩
        case sl => obtain ⟨_, ad, cap, _, rfl, _⟩ := hc; exact ⟨_, rfl⟩
        case rb => obtain ⟨ad, n, cap, ds, rfl, _⟩ := hc; exact ⟨_, rfl⟩
        case rw => obtain ⟨u, _, rfl, h1⟩ := hc; exact ⟨_, rfl⟩
        all_goals exact ⟨_, hc⟩
      obtain ⟨v, rfl⟩ := hl
      refine .inl ⟨rfl, ?_⟩
      simp only [SegsR, RC, LR]
      exact ⟨[v], [], rfl, rfl, ⟨[v], [], rfl, hc, rfl⟩, rfl⟩
    · cases h
  | .arr n z, a, s, cs, h, hc => by
    simp only [Lay.put] at h
    split at h
    · rename_i k c
      split at h
      · rename_i hb
        cases h
        simp only [CR] at hc
        have := beq_nat hb
        refine .inl ⟨by simp [Lay.cells]; omega, ?_⟩
        simp only [SegsR]
        exact ⟨cs, [], by simp, by omega, hc.2, rfl⟩
      · cases h
    · cases h
  | .st l, a, s, cs, h, hc => by
    simp only [Lay.put] at h
    split at h
    · rename_i k as
      split at h
      · rename_i hb
        simp only [CR, RC] at hc
        obtain ⟨h1, h2⟩ := lput_sound l as s cs h hc.2
        exact .inl ⟨h1, h2⟩
      · cases h
    · cases h
theorem lput_sound : ∀ (l : List Lay) (as : List AV) (s : List Seg) (cs : List Value), lput l as = some s → LR m w as cs → cs.length = lcells l ∧ SegsR m w s cs
  | [], as, s, cs, h, hc => by
    simp only [lput] at h
    split at h
    · cases h
      simp only [LR] at hc
      subst hc
      exact ⟨rfl, by simp [SegsR]⟩
    · cases h
  | a :: l, as, s, cs, h, hc => by
    simp only [lput] at h
    split at h
    · rename_i x xs
      split at h
      · cases h
      · rename_i s1 h1
        split at h
        · cases h
        · rename_i s2 h2
          cases h
          simp only [LR] at hc
          obtain ⟨c1, c2, rfl, g1, g2⟩ := hc
          obtain ⟨e1, e2⟩ := lput_sound l xs s2 c2 h2 g2
          rcases put_sound a x s1 c1 h1 g1 with ⟨e3, e4⟩ | rfl
          · refine ⟨by simp [lcells, e1, e3], segs_append _ _ _ _ e4 e2⟩
          · exfalso
            cases a <;> simp [Lay.put, AV.one] at h1
    · cases h
where segs_append : ∀ (s1 s2 : List Seg) (c1 c2 : List Value), SegsR m w s1 c1 → SegsR m w s2 c2 → SegsR m w (s1 ++ s2) (c1 ++ c2)
  | [], s2, c1, c2, h1, h2 => by simp only [SegsR] at h1; subst h1; simpa using h2
  | (n, c) :: s1, s2, c1, c2, h1, h2 => by
    simp only [SegsR] at h1
    obtain ⟨d1, d2, rfl, e1, e2, e3⟩ := h1
    simp only [List.cons_append, SegsR]
    exact ⟨d1, d2 ++ c2, by simp, e1, e2, segs_append s1 s2 d2 c2 e3 h2⟩
end
end
end Go.Vc
