/- A part of the proof of given statements: a verified condition generator for the model, and contracts of the program's functions. No condition. -/
import Derived.Test.YtegnmmfjbncgnaaVcSnd1
set_option linter.unusedVariables false
set_option linter.unusedSimpArgs false
namespace Go.Vc
open Go Go.RowKit

/-! ## Contents and cells -/
theorem flat_len {css : List (List Value)} {e : Nat} (h : ∀ (j : Nat) (d : List Value), css[j]? = some d → d.length = e) : css.flatten.length = css.length * e := by
  induction css with
  | nil => simp
  | cons a r ih =>
    rw [List.flatten_cons, List.length_append, ih (fun j d hd => h (j + 1) d (by simpa using hd)), h 0 a (by simp), List.length_cons, Nat.succ_mul]; omega
theorem flat_get {css : List (List Value)} {e : Nat} (h : ∀ (j : Nat) (d : List Value), css[j]? = some d → d.length = e) : ∀ (i : Nat) (d : List Value), css[i]? = some d → ∀ j x, d[j]? = some x → css.flatten[i * e + j]? = some x := by
  induction css with
  | nil => intro i d hd; simp at hd
  | cons a r ih =>
    intro i d hd j x hx
    have ha : a.length = e := h 0 a (by simp)
    cases i with
    | zero =>
      simp at hd; subst hd
      have hj := (List.getElem?_eq_some_iff.1 hx).1
      rw [List.flatten_cons, Nat.zero_mul, Nat.zero_add, List.getElem?_append_left hj]; exact hx
    | succ i =>
      rw [List.flatten_cons, List.getElem?_append_right (by rw [Nat.succ_mul]; omega)]
      rw [show (i + 1) * e + j - a.length = i * e + j by rw [ha, Nat.succ_mul]; omega]
      exact ih (fun j d hd => h (j + 1) d (by simpa using hd)) i d (by simpa using hd) j x hx
theorem flat_drop {css : List (List Value)} {e : Nat} (h : ∀ (j : Nat) (d : List Value), css[j]? = some d → d.length = e) : ∀ a, css.flatten.drop (a * e) = (css.drop a).flatten := by
  induction css with
  | nil => intro a; simp
  | cons x r ih =>
    intro a
    have ha : x.length = e := h 0 x (by simp)
    cases a with
    | zero => simp
    | succ a =>
      rw [List.flatten_cons, List.drop_succ_cons, ← ih (fun j d hd => h (j + 1) d (by simpa using hd)) a, Nat.succ_mul, List.drop_append]
      rw [List.drop_of_length_le (by omega), List.nil_append]
      congr 1; omega
theorem flat_take {css : List (List Value)} {e : Nat} (h : ∀ (j : Nat) (d : List Value), css[j]? = some d → d.length = e) : ∀ a, css.flatten.take (a * e) = (css.take a).flatten := by
  induction css with
  | nil => intro a; simp
  | cons x r ih =>
    intro a
    have ha : x.length = e := h 0 x (by simp)
    cases a with
    | zero => simp
    | succ a =>
      rw [List.flatten_cons, List.take_succ_cons, List.flatten_cons, ← ih (fun j d hd => h (j + 1) d (by simpa using hd)) a, Nat.succ_mul, List.take_append]
      rw [List.take_of_length_le (by omega)]
      congr 2; omega

section
variable {m : Hd} {w : World}

theorem RC_len {c : AC} {cs : List Value} {e : Nat} (he : c.esz = some e) (h : RC m w c cs) : cs.length = c.len real * e := by
  cases c <;> simp only [AC.esz] at he <;> cases he <;> simp only [RC] at h
  · subst h; simp [AC.len, real]
  · subst h; simp [AC.len, real]
  · subst h; simp [AC.len, real]
  · subst h; simp [AC.len, real]
  · subst h; simp [AC.len, real]
  · subst h; simp [AC.len, real]
  · obtain ⟨css, h1, rfl, h3⟩ := h
    rw [flat_len (fun j d hd => (h3 j d hd).1), h1]; rfl

theorem RC_get {c : AC} {cs : List Value} {a : AV} {i e : Nat} (hg : c.get real i = some a) (he : c.esz = some e) (h : RC m w c cs) (hi : i < c.len real) :
    ∃ d, d.length = e ∧ CR m w a d ∧ ∀ j x, d[j]? = some x → cs[i * e + j]? = some x := by
  cases c <;> simp only [AC.esz] at he <;> cases he <;> simp only [AC.get, Option.some.injEq] at hg <;> subst hg <;> simp only [RC] at h
  · rename_i xs
    subst h
    have hi' : i < xs.length := hi
    refine ⟨[E8 (xs.getD i 0)], rfl, by simp [CR, real], fun j x hx => ?_⟩
    cases j with
    | zero => simp at hx; subst hx; simp [List.getD, List.getElem?_eq_getElem hi']
    | succ j => simp at hx
  · rename_i xs
    subst h
    have hi' : i < xs.length := hi
    refine ⟨[E16 (xs.getD i 0)], rfl, by simp [CR, real], fun j x hx => ?_⟩
    cases j with
    | zero => simp at hx; subst hx; simp [List.getD, List.getElem?_eq_getElem hi']
    | succ j => simp at hx
  · rename_i xs
    subst h
    have hi' : i < xs.length := hi
    refine ⟨[E32 (xs.getD i 0)], rfl, by simp [CR, real], fun j x hx => ?_⟩
    cases j with
    | zero => simp at hx; subst hx; simp [List.getD, List.getElem?_eq_getElem hi']
    | succ j => simp at hx
  · rename_i xs
    subst h
    have hi' : i < xs.length := hi
    refine ⟨[E64 (xs.getD i 0)], rfl, by simp [CR, real], fun j x hx => ?_⟩
    cases j with
    | zero => simp at hx; subst hx; simp [List.getD, List.getElem?_eq_getElem hi']
    | succ j => simp at hx
  · rename_i xs
    subst h
    have hi' : i < xs.length := hi
    refine ⟨[EI (xs.getD i 0)], rfl, by simp [CR, real], fun j x hx => ?_⟩
    cases j with
    | zero => simp at hx; subst hx; simp [List.getD, List.getElem?_eq_getElem hi']
    | succ j => simp at hx
  · rename_i xs
    subst h
    have hi' : i < xs.length := hi
    refine ⟨[ES (xs.getD i [])], rfl, by simp [CR, real], fun j x hx => ?_⟩
    cases j with
    | zero => simp at hx; subst hx; simp [List.getD, List.getElem?_eq_getElem hi']
    | succ j => simp at hx
  · rename_i n f
    obtain ⟨css, h1, rfl, h3⟩ := h
    have hi' : i < css.length := by rw [h1]; exact hi
    refine ⟨css[i], (h3 i _ (List.getElem?_eq_getElem hi')).1, (h3 i _ (List.getElem?_eq_getElem hi')).2, ?_⟩
    exact flat_get (fun j d hd => (h3 j d hd).1) i _ (List.getElem?_eq_getElem hi')

theorem RC_set {c c' : AC} {cs : List Value} {x : AV} {v : Value} {i : Nat} (hg : c.set real i x = some c') (h : RC m w c cs) (hx : RV m w x v) : RC m w c' (cs.set i v) ∧ c.esz = some 1 ∧ v.oneCell' = true ∧ c'.len real = c.len real := by
  cases c <;> simp only [AC.set] at hg <;> try (cases hg; done)
  · rename_i xs
    split at hg <;> cases hg
    simp only [RV, CR, List.cons.injEq, and_true] at hx
    simp only [RC] at h
    subst hx; subst h
    exact ⟨by simp [RC, real, List.map_set], rfl, rfl, by simp [AC.len, real]⟩
  · rename_i xs
    split at hg <;> cases hg
    simp only [RV, CR, List.cons.injEq, and_true] at hx
    simp only [RC] at h
    subst hx; subst h
    exact ⟨by simp [RC, real, List.map_set], rfl, rfl, by simp [AC.len, real]⟩
  · rename_i xs
    split at hg <;> cases hg
    simp only [RV, CR, List.cons.injEq, and_true] at hx
    simp only [RC] at h
    subst hx; subst h
    exact ⟨by simp [RC, real, List.map_set], rfl, rfl, by simp [AC.len, real]⟩
  · rename_i xs
    split at hg <;> cases hg
    simp only [RV, CR, List.cons.injEq, and_true] at hx
    simp only [RC] at h
    subst hx; subst h
    exact ⟨by simp [RC, real, List.map_set], rfl, rfl, by simp [AC.len, real]⟩
  · rename_i xs
    split at hg <;> cases hg
    simp only [RV, CR, List.cons.injEq, and_true] at hx
    simp only [RC] at h
    subst hx; subst h
    exact ⟨by simp [RC, real, List.map_set], rfl, rfl, by simp [AC.len, real]⟩
  · rename_i xs
    split at hg <;> cases hg
    simp only [RV, CR, List.cons.injEq, and_true] at hx
    simp only [RC] at h
    subst hx; subst h
    exact ⟨by simp [RC, real, List.map_set], rfl, rfl, by simp [AC.len, real]⟩

theorem RC_cut {c c' : AC} {cs : List Value} {a n e : Nat} (hg : c.cut real a n = some c') (he : c.esz = some e) (h : RC m w c cs) (hn : a + n ≤ c.len real) :
    RC m w c' ((cs.drop (a * e)).take (n * e)) ∧ c'.esz = some e ∧ c'.len real = n := by
  cases c <;> simp only [AC.esz] at he <;> cases he <;> simp only [AC.cut, Option.some.injEq] at hg <;> subst hg <;> simp only [RC] at h
  · rename_i xs
    subst h
    have hn' : a + n ≤ xs.length := hn
    exact ⟨by simp [RC, real, List.map_drop, List.map_take], rfl, by simp [AC.len, real]; omega⟩
  · rename_i xs
    subst h
    have hn' : a + n ≤ xs.length := hn
    exact ⟨by simp [RC, real, List.map_drop, List.map_take], rfl, by simp [AC.len, real]; omega⟩
  · rename_i xs
    subst h
    have hn' : a + n ≤ xs.length := hn
    exact ⟨by simp [RC, real, List.map_drop, List.map_take], rfl, by simp [AC.len, real]; omega⟩
  · rename_i xs
    subst h
    have hn' : a + n ≤ xs.length := hn
    exact ⟨by simp [RC, real, List.map_drop, List.map_take], rfl, by simp [AC.len, real]; omega⟩
  · rename_i xs
    subst h
    have hn' : a + n ≤ xs.length := hn
    exact ⟨by simp [RC, real, List.map_drop, List.map_take], rfl, by simp [AC.len, real]; omega⟩
  · rename_i xs
    subst h
    have hn' : a + n ≤ xs.length := hn
    exact ⟨by simp [RC, real, List.map_drop, List.map_take], rfl, by simp [AC.len, real]; omega⟩
  · rename_i k f
    obtain ⟨css, h1, rfl, h3⟩ := h
    have hn' : a + n ≤ k := hn
    refine ⟨?_, rfl, rfl⟩
    simp only [RC]
    refine ⟨(css.drop a).take n, by rw [List.length_take, List.length_drop, h1]; omega, ?_, fun j d hd => ?_⟩
    · rw [flat_drop (fun j d hd => (h3 j d hd).1), flat_take]
      intro j d hd
      rw [List.getElem?_drop] at hd
      exact (h3 _ d hd).1
    · rw [List.getElem?_take] at hd
      split at hd
      · rw [List.getElem?_drop] at hd; exact h3 _ d hd
      · cases hd

theorem RC_app {c d r : AC} {cs ds : List Value} (hg : c.app real d = some r) (h : RC m w c cs) (g : RC m w d ds) : RC m w r (cs ++ ds) ∧ c.esz = some 1 ∧ d.esz = some 1 ∧ r.esz = some 1 := by
  unfold AC.app at hg
  split at hg <;> cases hg <;> simp only [RC] at h g <;> subst h <;> subst g <;> exact ⟨by simp [RC, real], rfl, rfl, rfl⟩
theorem RC_splice {c d r : AC} {cs ds : List Value} {a : Nat} (hg : c.splice real a d = some r) (h : RC m w c cs) (g : RC m w d ds) : RC m w r (cs.take a ++ ds ++ cs.drop (a + ds.length)) ∧ c.esz = some 1 ∧ d.esz = some 1 := by
  unfold AC.splice at hg
  split at hg <;> cases hg <;> simp only [RC] at h g <;> subst h <;> subst g <;> exact ⟨by simp [RC, real, List.map_take, List.map_drop], rfl, rfl⟩

theorem one_cells {c : AC} {cs : List Value} (he : c.esz = some 1) (h : RC m w c cs) (hc : ∀ e n f, c ≠ .fn e n f) : ∀ v ∈ cs, v.oneCell' = true := by
  cases c <;> simp only [AC.esz] at he <;> simp only [RC] at h
  · subst h; intro v hv; obtain ⟨x, _, rfl⟩ := List.mem_map.1 hv; rfl
  · subst h; intro v hv; obtain ⟨x, _, rfl⟩ := List.mem_map.1 hv; rfl
  · subst h; intro v hv; obtain ⟨x, _, rfl⟩ := List.mem_map.1 hv; rfl
  · subst h; intro v hv; obtain ⟨x, _, rfl⟩ := List.mem_map.1 hv; rfl
  · subst h; intro v hv; obtain ⟨x, _, rfl⟩ := List.mem_map.1 hv; rfl
  · subst h; intro v hv; obtain ⟨x, _, rfl⟩ := List.mem_map.1 hv; rfl
  · cases he
  · exact absurd rfl (hc _ _ _)
theorem app_typed {c d r : AC} (hg : c.app real d = some r) : (∀ e n f, c ≠ .fn e n f) ∧ (∀ e n f, d ≠ .fn e n f) ∧ (∀ e n f, r ≠ .fn e n f) := by
  unfold AC.app at hg
  split at hg <;> cases hg <;> exact ⟨fun _ _ _ h => (by cases h), fun _ _ _ h => (by cases h), fun _ _ _ h => (by cases h)⟩
theorem splice_typed {c d r : AC} {a : Nat} (hg : c.splice real a d = some r) : (∀ e n f, c ≠ .fn e n f) ∧ (∀ e n f, d ≠ .fn e n f) ∧ (∀ e n f, r ≠ .fn e n f) := by
  unfold AC.splice at hg
  split at hg <;> cases hg <;> exact ⟨fun _ _ _ h => (by cases h), fun _ _ _ h => (by cases h), fun _ _ _ h => (by cases h)⟩
theorem set_typed {c r : AC} {i : Nat} {x : AV} (hg : c.set real i x = some r) : (∀ e n f, c ≠ .fn e n f) ∧ (∀ e n f, r ≠ .fn e n f) := by
  cases c <;> simp only [AC.set] at hg <;> first | (cases hg; done) | (split at hg <;> cases hg <;> exact ⟨fun _ _ _ h => (by cases h), fun _ _ _ h => (by cases h)⟩)

/-! ## Lists of elements of one kind -/
theorem cons_sound {k : EK} {a : AV} {c r : AC} {v : Value} {cs : List Value} (hg : k.cons a c = some r) (h : RC m w c cs) (hv : RV m w a v) : RC m w r (v :: cs) := by
  unfold EK.cons at hg
  split at hg <;> cases hg <;> simp only [RC] at h <;> simp only [RV, CR, List.cons.injEq, and_true] at hv <;> subst h <;> subst hv <;> simp [RC]
theorem cons_one {k : EK} {a : AV} {c r : AC} {v : Value} (hg : k.cons a c = some r) (hv : RV m w a v) : v.oneCell' = true := by
  unfold EK.cons at hg
  split at hg <;> cases hg <;> simp only [RV, CR, List.cons.injEq, and_true] at hv <;> subst hv <;> rfl
theorem ofAVs_sound {k : EK} : ∀ {l : List AV} {c : AC} {vs : List Value}, k.ofAVs l = some c → RVs m w l vs → RC m w c vs ∧ ∀ v ∈ vs, v.oneCell' = true
  | [], c, vs, h, hv => by
    simp only [EK.ofAVs, Option.some.injEq] at h
    simp only [RVs] at hv
    subst h; subst hv
    refine ⟨?_, by simp⟩
    cases k <;> simp [EK.nil, RC]
  | a :: l, c, vs, h, hv => by
    simp only [EK.ofAVs] at h
    split at h
    · rename_i c0 h0
      simp only [RVs] at hv
      obtain ⟨v, r, rfl, h1, h2⟩ := hv
      have ih := ofAVs_sound h0 h2
      exact ⟨cons_sound h ih.1 h1, by intro x hx; rcases List.mem_cons.1 hx with rfl | hx; exact cons_one h h1; exact ih.2 x hx⟩
    · cases h
end
end Go.Vc