/- A part of the proof of given statements: a verified condition generator for the model, and contracts of the program's functions. No condition. -/
import Derived.Test.YthhgmjclmdggjaaPart3
import Derived.Test.YthhgmjclmdggjaaProg
import Derived.Test.YthhgmjclmdggjaaChecked
set_option linter.unusedVariables false
set_option linter.unusedSimpArgs false
set_option linter.constructorNameAsVariable false
set_option linter.unusedVariables false
set_option linter.unusedSimpArgs false
namespace Go.Vc
open Go Go.RowKit
section
variable {P : Program} {sh : Bool} {m : Hd} {w : World} {me : Mem} {kb : Nat}
/-- the new arrays: the callee's name, the value, what lies there -/
abbrev NewRow := Option Nat × Value × AB
structure NewOk (m1 mc : Hd) (w1 : World) (sh : Bool) (s : AS) (us : List Nat) (r : NewRow) : Prop where
  row : ∃ T e c n cs, r.2.2 = .row T e c ∧ c.nk sh = true ∧ OwnRow w1 T e r.2.1 n cs ∧ RC mc w1 c cs
  key : (r.1 = none ∧ ∃ ad, r.2.1 = .slice ad 0 0) ∨ ∃ u ab, r.1 = some u ∧ u ∉ us ∧ m1 u = some r.2.1 ∧ mlook s.me u = some ab ∧ ab.live = true
/-- results against what the contract says -/
inductive RetR (m1 mc : Hd) (w1 : World) (sh : Bool) (N : AV → Bool) (s : AS) : List PR → List Value → List NewRow → List Nat → Prop
  | nil (us : List Nat) : RetR m1 mc w1 sh N s [] [] [] us
  | val (b : AV) (v : Value) (ps : List PR) (vs : List Value) (rs : List NewRow) (us : List Nat) : N b = true → RV mc w1 b v → RetR m1 mc w1 sh N s ps vs rs us → RetR m1 mc w1 sh N s (.val b :: ps) (v :: vs) rs us
  | row (T e : Nat) (c : AC) (r : NewRow) (ps : List PR) (vs : List Value) (rs : List NewRow) (us us' : List Nat) : r.2.2 = .row T e c → NewOk m1 mc w1 sh s us r →
      (∀ u, r.1 = some u → u ∈ us') → (∀ u, u ∈ us → u ∈ us') → RetR m1 mc w1 sh N s ps vs rs us' → RetR m1 mc w1 sh N s (.row T e c :: ps) (r.2.1 :: vs) (r :: rs) us
theorem lmem_spec {k : Nat} : ∀ {l : List Nat}, lmem k l = false → k ∉ l
  | [], h => by simp
  | j :: r, h => by
    simp only [lmem] at h
    split at h
    · cases h
    · rename_i hb
      intro hm
      rcases List.mem_cons.1 hm with e | e
      · subst e; simp at hb
      · exact lmem_spec h e
theorem retM_sound {m1 : Hd} {w1 : World} {s : AS} (hm : MemR m1 w1 s.me) : ∀ (l : List AV) (ps : List PR) (us : List Nat) (vs : List Value), retM sh s l ps us → RVs m1 w1 l vs → ∃ rs, RetR m1 m1 w1 sh (AV.nk sh) s ps vs rs us
  | [], [], us, vs, h, hv => by simp only [RVs] at hv; subst hv; exact ⟨[], .nil us⟩
  | a :: r, .val b :: ps, us, vs, h, hv => by
    simp only [RVs] at hv
    obtain ⟨v, q, rfl, h1, h2⟩ := hv
    simp only [retM] at h
    split at h
    · rename_i hn
      obtain ⟨rs, hr⟩ := retM_sound hm r ps us q h.2 h2
      exact ⟨rs, .val b v ps q rs us hn (RV_leG .none a b v h.1 (fun e => by subst e; simp [AV.nk] at hn) h1) hr⟩
    · exact h.elim
  | a :: r, .row T e c :: ps, us, vs, h, hv => by
    simp only [RVs] at hv
    obtain ⟨v, q, rfl, h1, h2⟩ := hv
    simp only [retM] at h
    split at h
    · rename_i hn
      split at h
      · rename_i k
        split at h
        · exact h.elim
        · rename_i hus
          split at h
          · rename_i T' e' c' hl
            obtain ⟨⟨e1, e2, h3⟩, h4⟩ := h
            have e1 := beq_nat e1; have e2 := beq_nat e2; subst e1; subst e2
            obtain ⟨rs, hr⟩ := retM_sound hm r ps (k :: us) q h4 h2
            obtain ⟨v', n, cs, g1, g2, g3⟩ := hm.at_ k _ hl
            simp only [RV, CR] at h1
            obtain ⟨v'', g4, g5, _⟩ := h1
            simp only [List.cons.injEq, and_true] at g5
            subst g5
            rw [g1] at g4; cases g4
            exact ⟨_, .row _ _ c (some k, v, .row T' e' c) ps q rs us (k :: us) rfl ⟨⟨T', e', c, n, cs, rfl, hn, g2, RC_leG .none c' c cs h3 g3⟩, .inr ⟨k, _, rfl, lmem_spec hus, g1, hl, rfl⟩⟩
              (fun u hu => by cases hu; simp) (fun u hu => by simp [hu]) hr⟩
          · exact h.elim
      · obtain ⟨h3, h4⟩ := h
        obtain ⟨rs, hr⟩ := retM_sound hm r ps us q h4 h2
        simp only [RV, CR, List.cons.injEq, and_true] at h1
        subst h1
        exact ⟨_, .row T e c (none, .slice none 0 0, .row T e c) ps q rs us us rfl ⟨⟨T, e, c, 0, [], rfl, hn, ⟨by simp, .inl ⟨none, rfl, rfl⟩⟩, acNil_RC h3⟩, .inl ⟨rfl, none, rfl⟩⟩
          (fun u hu => by cases hu) (fun u hu => hu) hr⟩
      · obtain ⟨h3, h4⟩ := h
        obtain ⟨rs, hr⟩ := retM_sound hm r ps us q h4 h2
        simp only [RV, CR, List.cons.injEq, and_true] at h1
        obtain ⟨ad, h1⟩ := h1
        subst h1
        exact ⟨_, .row T e c (none, .slice ad 0 0, .row T e c) ps q rs us us rfl ⟨⟨T, e, c, 0, [], rfl, hn, ⟨by simp, .inl ⟨ad, rfl, rfl⟩⟩, acNil_RC h3⟩, .inl ⟨rfl, ad, rfl⟩⟩
          (fun u hu => by cases hu) (fun u hu => hu) hr⟩
      · exact h.elim
    · exact h.elim
  | [], _ :: _, us, vs, h, hv => by simp [retM] at h
  | _ :: _, [], us, vs, h, hv => by simp [retM] at h

theorem RetR.len {m1 mc : Hd} {N : AV → Bool} {w1 : World} {s : AS} {ps : List PR} {vs : List Value} {rs : List NewRow} {us : List Nat} (h : RetR m1 mc w1 sh N s ps vs rs us) : rs.length = nRows ps := by
  induction h with
  | nil => rfl
  | val _ _ _ _ _ _ _ _ _ ih => simpa [nRows] using ih
  | row _ _ _ _ _ _ _ _ _ _ _ _ _ _ ih => simp [nRows, ih]
theorem RetR.all {m1 mc : Hd} {N : AV → Bool} {w1 : World} {s : AS} {ps : List PR} {vs : List Value} {rs : List NewRow} {us : List Nat} (h : RetR m1 mc w1 sh N s ps vs rs us) :
    (∀ r ∈ rs, NewOk m1 mc w1 sh s us r) ∧ rs.Pairwise fun a b => ∀ u, a.1 = some u → b.1 ≠ some u := by
  induction h with
  | nil => simp
  | val _ _ _ _ _ _ _ _ _ ih => exact ih
  | row T e c r ps vs rs us us' h1 h2 h3 h4 _ ih =>
    refine ⟨fun q hq => ?_, List.pairwise_cons.2 ⟨fun q hq u hu hu' => ?_, ih.2⟩⟩
    · rcases List.mem_cons.1 hq with rfl | hq
      · exact h2
      · obtain ⟨g1, g2⟩ := ih.1 q hq
        exact ⟨g1, g2.imp id fun ⟨u, ab, k1, k2, k3⟩ => ⟨u, ab, k1, fun hm => k2 (h4 u hm), k3⟩⟩
    · rcases (ih.1 q hq).key with ⟨g1, _⟩ | ⟨u', ab, k1, k2, k3⟩
      · rw [g1] at hu'; cases hu'
      · rw [k1] at hu'; cases hu'
        exact k2 (h3 u hu)

/-- the caller's names behind the call -/
def mNew (m : Hd) (kb : Nat) (pb : Nat → Prop) (rs : List NewRow) : Hd := ⟨fun t => if kb ≤ t ∧ t < kb + rs.length then (rs[t - kb]?).map (·.2.1) else m t, m.ok, pb⟩
theorem mNew_in {pb : Nat → Prop} {rs : List NewRow} {i : Nat} {r : NewRow} (h : rs[i]? = some r) : (mNew m kb pb rs) (kb + i) = some r.2.1 := by
  have hi := (List.getElem?_eq_some_iff.1 h).1
  show (if kb ≤ kb + i ∧ kb + i < kb + rs.length then _ else _) = _
  rw [if_pos ⟨by omega, by omega⟩]
  simp [h]
theorem mNew_cases {pb : Nat → Prop} {rs : List NewRow} {t : Nat} {v : Value} (h : (mNew m kb pb rs) t = some v) : (∃ i r, t = kb + i ∧ rs[i]? = some r ∧ v = r.2.1) ∨ (¬ (kb ≤ t ∧ t < kb + rs.length) ∧ m t = some v) := by
  have h' : (if kb ≤ t ∧ t < kb + rs.length then (rs[t - kb]?).map (·.2.1) else m t) = some v := h
  split at h'
  · rename_i hi
    cases hr : rs[t - kb]? with
    | none => rw [hr] at h'; cases h'
    | some r => rw [hr] at h'; cases h'; exact .inl ⟨t - kb, r, by omega, hr, rfl⟩
  · rename_i hi
    exact .inr ⟨hi, h'⟩
theorem mlook_new : ∀ (ps : List PR) (vs : List Value) (rs : List NewRow) (us : List Nat) (m1 mc : Hd) (N : AV → Bool) (w1 : World) (s : AS) (kb t : Nat), RetR m1 mc w1 sh N s ps vs rs us →
    mlook (mputs (newRows kb ps) me) t = if kb ≤ t ∧ t < kb + rs.length then (rs[t - kb]?).map (·.2.2) else mlook me t := by
  intro ps vs rs us m1 mc N w1 s kb t h
  induction h generalizing kb with
  | nil => simp [newRows, mputs]; omega
  | val _ _ _ _ _ _ _ _ _ ih => exact ih kb
  | row T e c r ps vs rs us us' h1 h2 h3 h4 _ ih =>
    simp only [newRows, mputs]
    rw [mlook_cons]
    by_cases e1 : kb = t
    · subst e1
      simp [h1]
    · rw [if_neg e1, ih (kb + 1)]
      by_cases e2 : kb + 1 ≤ t ∧ t < kb + 1 + rs.length
      · rw [if_pos e2, if_pos (by simp; omega)]
        have e3 : t - kb = (t - (kb + 1)) + 1 := by omega
        rw [e3]; simp
      · rw [if_neg e2, if_neg (by simp; omega)]
theorem outs_sound {m1 mc : Hd} {N : AV → Bool} {w1 : World} {s : AS} {m' : Hd} (hmv : ∀ b v, N b = true → RV mc w1 b v → RV m' w1 b v) :
    ∀ (ps : List PR) (vs : List Value) (rs : List NewRow) (us : List Nat) (kb : Nat), RetR m1 mc w1 sh N s ps vs rs us → (∀ i r, rs[i]? = some r → m' (kb + i) = some r.2.1) → RVs m' w1 (outs kb ps) vs := by
  intro ps vs rs us kb h
  induction h generalizing kb with
  | nil => intro _; simp [outs, RVs]
  | val b v ps vs rs us h1 h2 _ ih =>
    intro hm
    simp only [outs, RVs]
    exact ⟨v, vs, rfl, hmv b v h1 h2, ih kb hm⟩
  | row T e c r ps vs rs us us' h1 h2 h3 h4 _ ih =>
    intro hm
    simp only [outs, RVs]
    refine ⟨r.2.1, vs, rfl, ?_, ih (kb + 1) fun i q hq => ?_⟩
    · simp only [RV, CR]
      refine ⟨_, by simpa using hm 0 r (by simp), rfl, ?_⟩
      obtain ⟨_, _, _, _, _, _, _, ho, _⟩ := h2.row
      rcases ho.2 with ⟨_, e, _⟩ | ⟨_, _, _, _, _, e, _⟩ <;> rw [e] <;> rfl
    · have := hm (i + 1) q (by simpa using hq)
      rw [← this]; congr 1; omega
end
end Go.Vc
set_option linter.unusedVariables false
set_option linter.unusedSimpArgs false
namespace Go.Vc
open Go Go.RowKit
section
variable {P : Program} {sh : Bool} {m : Hd} {w : World} {me : Mem} {kb : Nat}
theorem ret_ok {m1 : Hd} {w1 : World} {s : AS} {ps : List PR} {vs : List Value} {rs : List NewRow} {nk : Nat} (hb : Base m w me kb) (h3 : StM ⟨w, [], (m0 sh m w).ok, none, [], fun _ => False⟩ s.me nk m1 w1)
    (hr : RetR m1 m1 w1 sh (AV.nk sh) s ps vs rs []) (hn : nRows ps ≤ 8) :
    ∃ m', OkE m w me kb (tupAV (outs kb ps)) (newRows kb ps) (if h : vs.toArray.size = 1 then vs.toArray[0] else .tuple vs.toArray) m' w1 := by
  have hlen := hr.len
  obtain ⟨hall, hpw⟩ := hr.all
  have hnew : ∀ r ∈ rs, ∀ b, blk r.2.1 = some b → w.heap.size ≤ b ∧ ∃ u ab, r.1 = some u ∧ m1 u = some r.2.1 ∧ mlook s.me u = some ab ∧ ab.live = true := by
    intro r hr b hbk
    rcases (hall r hr).key with ⟨_, ad, h2⟩ | ⟨u, ab, h1, _, h2, h4, h5⟩
    · rw [h2, blk_slice0] at hbk; cases hbk
    · rcases h3.fr.own u _ b h2 hbk with h6 | h6
      · exact ⟨h6, u, ab, h1, h2, h4, h5⟩
      · simp at h6
  have hpbn : ∀ b, m1.pub b → w.heap.size ≤ b := fun b hp => by
    rcases Nat.lt_or_ge b w.heap.size with h | h
    · exact (h3.fr.pub b hp h (by simp)).elim
    · exact h
  let pb : Nat → Prop := fun b => m.pub b ∨ m1.pub b
  have tr : Tr m w (mNew m kb pb rs) w1 := by
    refine ⟨fun k v hk => ?_, rfl, fun b h => .inl h, fun b h => h.imp id (fun h => .inr (hpbn b h)), h3.fr.size, fun b hb' _ => h3.fr.block b hb' (by simp), fun k v b hk hv => ?_, h3.fr.os, h3.fr.tape, h3.fr.output⟩
    · show (if kb ≤ k ∧ k < kb + rs.length then _ else _) = _
      rw [if_neg]
      · exact hk
      · rintro ⟨h1, h2⟩
        rw [hb.fresh k h1 (by omega)] at hk; cases hk
    · rcases mNew_cases hk with ⟨i, r, rfl, hi, rfl⟩ | ⟨_, hk⟩
      · exact .inr (hnew r (List.mem_of_getElem? hi) b hv).1
      · exact .inl ⟨k, v, hk, hv⟩
  have hmv : sh = true → ∀ b, Stable m1 w1 b → w1.heap[b]? = w1.heap[b]? ∧ Stable (mNew m kb pb rs) w1 b := by
    intro hsh b hs
    have h1 : Stable m w b ∨ w.heap.size ≤ b := by
      have := hs.2.1
      have h2 : m1.ok = (m0 sh m w).ok := h3.fr.ok
      rw [h2] at this
      simpa [m0, hsh] using this
    rcases h1 with h1 | h1
    · exact ⟨rfl, (tr.pres.stab b h1).2⟩
    · refine ⟨rfl, hs.1, hb.mem.okn b h1, ?_⟩
      rcases hs.2.2 with hp | hn
      · exact .inl (.inr hp)
      · refine .inr fun k v hk hv => ?_
        rcases mNew_cases hk with ⟨i, r, rfl, hi, rfl⟩ | ⟨_, hk0⟩
        · obtain ⟨_, u, _, _, k2, _⟩ := hnew r (List.mem_of_getElem? hi) b hv
          exact hn u _ k2 hv
        · have := hb.bd k v b hk0 hv; omega
  have hml := fun t => mlook_new (me := me) ps vs rs [] m1 _ _ w1 s kb t hr
  refine ⟨mNew m kb pb rs, tr, tupAV_sound (outs_sound (fun b v h1 h2 => RV_move hmv b v h1 h2) ps vs rs [] kb hr fun i r hi => mNew_in hi), ⟨fun t ab hab => ?_, fun t t' ab ab' v v' b hab hab' hl hl' hne hv hv' hbk => ?_, fun b hp => hp.elim (fun h => Nat.lt_of_lt_of_le (hb.mem.pubs b h) h3.fr.size) (h3.mem.pubs b), fun t ab v b hab hl hv hbk hp => ?_, fun t ab v b hab hl hv hbk => ?_, fun b h => hb.mem.okn b (Nat.le_trans h3.fr.size h)⟩, fun k hk => ?_, fun k v b hk hv => ?_⟩
  · rw [hml] at hab
    split at hab
    · rename_i hin
      cases hq : rs[t - kb]? with
      | none => rw [hq] at hab; cases hab
      | some r =>
        rw [hq] at hab; cases hab
        obtain ⟨T, e, c, n, cs, h1, h2, h4, h5⟩ := (hall r (List.mem_of_getElem? hq)).row
        show ABR _ _ _ r.2.2
        rw [h1]
        have := mNew_in (m := m) (kb := kb) (pb := pb) hq
        rw [show kb + (t - kb) = t by omega] at this
        exact ⟨r.2.1, n, cs, this, h4, RC_move hmv c cs h2 h5⟩
    · exact ABR_keep (hb.mem.at_ t ab hab) (tr.mu t) (fun v b hv hbk => h3.fr.block b (hb.bd t v b hv hbk) (by simp)) tr.pres
  · rw [hml] at hab hab'
    rcases mNew_cases hv with ⟨i, r, rfl, hi, rfl⟩ | ⟨ho, hv0⟩ <;> rcases mNew_cases hv' with ⟨j, q, rfl, hj, rfl⟩ | ⟨ho', hv0'⟩
    · obtain ⟨_, u, au, k1, k2, k3, k4⟩ := hnew r (List.mem_of_getElem? hi) b hbk
      intro hbq
      obtain ⟨_, u', au', k1', k2', k3', k4'⟩ := hnew q (List.mem_of_getElem? hj) b hbq
      have hij : i ≠ j := fun e => hne (by rw [e])
      have hu : u ≠ u' := by
        rcases Nat.lt_or_gt_of_ne hij with h | h
        · have := List.pairwise_iff_getElem.1 hpw i j (List.getElem?_eq_some_iff.1 hi).1 (List.getElem?_eq_some_iff.1 hj).1 h
          rw [(List.getElem?_eq_some_iff.1 hi).2, (List.getElem?_eq_some_iff.1 hj).2] at this
          intro e; exact this u k1 (by rw [k1', e])
        · have := List.pairwise_iff_getElem.1 hpw j i (List.getElem?_eq_some_iff.1 hj).1 (List.getElem?_eq_some_iff.1 hi).1 h
          rw [(List.getElem?_eq_some_iff.1 hi).2, (List.getElem?_eq_some_iff.1 hj).2] at this
          intro e; exact this u' k1' (by rw [k1, e])
      exact h3.mem.apart u u' au au' _ _ b k3 k3' k4 k4' hu k2 k2' hbk hbq
    · have h1 := (hnew r (List.mem_of_getElem? hi) b hbk).1
      intro hbq
      have h2 := hb.bd t' v' b hv0' hbq
      omega
    · intro hbq
      have h1 := (hnew q (List.mem_of_getElem? hj) b hbq).1
      have h2 := hb.bd t v b hv0 hbk
      omega
    · rw [if_neg ho] at hab
      rw [if_neg ho'] at hab'
      exact hb.mem.apart t t' ab ab' v v' b hab hab' hl hl' hne hv0 hv0' hbk
  · rw [hml] at hab
    rcases mNew_cases hv with ⟨i, r, rfl, hi, rfl⟩ | ⟨ho, hv0⟩
    · obtain ⟨hge, u, au, k1, k2, k3, k4⟩ := hnew r (List.mem_of_getElem? hi) b hbk
      rcases hp with hp | hp
      · have := hb.mem.pubs b hp; omega
      · exact h3.mem.live u au _ b k3 k4 k2 hbk hp
    · rw [if_neg ho] at hab
      rcases hp with hp | hp
      · exact hb.mem.live t ab v b hab hl hv0 hbk hp
      · have := hpbn b hp
        have := hb.bd t v b hv0 hbk
        omega
  · rw [hml] at hab
    rcases mNew_cases hv with ⟨i, r, rfl, hi, rfl⟩ | ⟨ho, hv0⟩
    · exact hb.mem.okn b (hnew r (List.mem_of_getElem? hi) b hbk).1
    · rw [if_neg ho] at hab
      exact hb.mem.okl t ab v b hab hl hv0 hbk
  · cases hq : (mNew m kb pb rs) k with
    | none => exact absurd hq hk
    | some v =>
      rcases mNew_cases hq with ⟨i, r, rfl, hi, rfl⟩ | ⟨_, hv⟩
      · have := (List.getElem?_eq_some_iff.1 hi).1
        exact .inr ⟨by omega, by omega⟩
      · exact .inl (by rw [hv]; simp)
  · rcases mNew_cases hk with ⟨i, r, rfl, hi, rfl⟩ | ⟨_, hk⟩
    · obtain ⟨_, u, _, _, k2, _⟩ := hnew r (List.mem_of_getElem? hi) b hv
      exact h3.bd u _ b k2 hv
    · exact Nat.lt_of_lt_of_le (hb.bd k v b hk hv) h3.fr.size

/-- a function that changes nothing that was there: from the conditions of its code, its contract -/
theorem pure_sound {x : Cx} (hx : XOK P x) (hmx : P.follows .mixedOrders = true) {f : Nat} {fn : Func} {body : Code} (hf : P.funcs[f]? = some fn) (hbd : fn.body = some body) (hn : fn.ntmps = x.nt) (hdr : drawsOk x.tt x.dr body = true) {pts : List PT} {g : Law}
    (h : ∀ l c rs, g l = some (c, rs) → c → llen l ≤ x.nt ∧ ∃ an cu, vc real x an cu body ⟨zipSl 0 l, [], 64⟩ (retOk real x.tt sh fn.results.toList rs)) : SpecOK P f (pureSpec real sh pts g) := by
  intro m w me kb args vals e hgi hb hv he hc
  obtain ⟨l, e0, h1, h2, h3, h4, h5⟩ := resolve_sound hb pts args vals _ e hv he hc
  split at h1
  · rename_i c rs hg
    split at h1
    · rename_i hle
      simp only [Look.run, Option.some.injEq] at h1
      subst h1
      obtain ⟨hl, an, cu, hvc⟩ := h l c rs hg h2
      have hlen := RVs_length h5
      rw [llen_eq] at hl
      let E : Env := ⟨w, [], (m0 sh m w).ok, none, [], fun _ => False⟩
      have hokn : ∀ b, w.heap.size ≤ b → (m0 sh m w).ok b := fun b h => by
        cases hs : sh
        · simp [m0]
        · simp only [m0]; exact .inr h
      have hE : GE P E := hgi.ge rfl (fun b h => by
        show (m0 sh m w).ok b
        cases hs : sh
        · simp [m0]
        · simp only [m0]; exact .inl h) (fun b _ h => by cases h)
      have hr : StR E x.nt ⟨zipSl 0 l, [], 64⟩ (m0 sh m w) { tmps := vals.toArray ++ Array.replicate (fn.ntmps - vals.toArray.size) undef, defers := [] } w :=
        ⟨entry_sl h5 _, ⟨fun k ab h => (by simp [mlook] at h), fun k k' ab ab' v v' b h => (by simp [mlook] at h), fun b h => h.elim, fun k ab v b h => (by simp [mlook] at h), fun k ab v b h => (by simp [mlook] at h), hokn⟩, fun k v b hk => (by cases hk), fun k _ => rfl, (by simp; omega), rfl,
          ⟨rfl, rfl, rfl, Nat.le_refl _, rfl, fun _ _ _ => rfl, fun k v b hk => (by cases hk), fun m0 w1 he => (by cases he), fun j v hj => (by cases hj), fun b h => h.elim, fun b h => h.elim⟩⟩
      refine calls_of_wp hf hbd (code_mono (vc_sound hx hE (fun j v hj => (by cases hj)) (.inl rfl) hmx body _ _ hdr hvc _ _ w hr) ?_)
      intro en a w' hp
      refine ends_sound hx.tt (fun l vs s' m1 w1 k1 k2 k3 => ?_) hp
      obtain ⟨rws, hrr⟩ := retM_sound k3.mem l rs [] vs k2 k1
      refine ⟨_, rfl, ?_⟩
      rw [← h3, ← h4]
      exact ret_ok hb k3 hrr (Nat.le_of_ble_eq_true hle)
    · exact (Look.run_no h1).elim
  · exact (Look.run_no h1).elim
end
end Go.Vc
set_option linter.unusedVariables false
set_option linter.unusedSimpArgs false
namespace Go.Vc
open Go Go.RowKit

/-! ## Contracts of functions that are handed what the caller owns -/
mutual
/-- under other names; none: a name that is not known -/
def rnAV (f : Nat → Option Nat) : AV → Option AV
  | .i x => some (.i x)
  | .w8 x => some (.w8 x)
  | .w16 x => some (.w16 x)
  | .w32 x => some (.w32 x)
  | .w64 x => some (.w64 x)
  | .b x => some (.b x)
  | .kb x => some (.kb x)
  | .s x => some (.s x)
  | .ag n c => match rnAC f c with
    | some d => some (.ag n d)
    | none => none
  | .nl => some .nl
  | .pn => some .pn
  | .rb e c => match AC.nk true c with
    | true => some (.rb e c)
    | false => none
  | .pr a => match AV.nk true a with
    | true => some (.pr a)
    | false => none
  | .rw k => match f k with
    | some j => some (.rw j)
    | none => none
  | .p k g o => match f k with
    | some j => some (.p j g o)
    | none => none
  | .sl k g o e a n => match f k with
    | some j => some (.sl j g o e a n)
    | none => none
  | .cl k => match f k with
    | some j => some (.cl j)
    | none => none
  | .mh k => match f k with
    | some j => some (.mh j)
    | none => none
  | .z => some .z
  | .mn => some .mn
  | .fv g l => match rnAL f l with
    | some l' => some (.fv g l')
    | none => none
  | _ => none
def rnAC (f : Nat → Option Nat) : AC → Option AC
  | .bt x => some (.bt x)
  | .wh x => some (.wh x)
  | .wd x => some (.wd x)
  | .ww x => some (.ww x)
  | .is x => some (.is x)
  | .ss x => some (.ss x)
  | .vs l => match rnAL f l with
    | some l' => some (.vs l')
    | none => none
  | .fn _ _ _ => none
  | .ds s xs => some (.ds s xs)
def rnAL (f : Nat → Option Nat) : List AV → Option (List AV)
  | [] => some []
  | a :: l => match rnAV f a, rnAL f l with
    | some b, some l' => some (b :: l')
    | _, _ => none
end
def rnSegs (f : Nat → Option Nat) : List Seg → Option (List Seg)
  | [] => some []
  | (n, c) :: l => match rnAC f c, rnSegs f l with
    | some d, some l' => some ((n, d) :: l')
    | _, _ => none
def rnAB (f : Nat → Option Nat) : AB → Option AB
  | .dead => none
  | .bk T s => match rnSegs f s with
    | some s' => some (.bk T s')
    | none => none
  | .row T e c => match rnAC f c with
    | some d => some (.row T e d)
    | none => none
  | .mp T kk vs M => some (.mp T kk vs M)
  | .it k a b c => match f k with
    | some j => some (.it j a b c)
    | none => none
def rnABs (f : Nat → Option Nat) : List AB → Option (List AB)
  | [] => some []
  | a :: l => match rnAB f a, rnABs f l with
    | some b, some l' => some (b :: l')
    | _, _ => none
def rnPRs (f : Nat → Option Nat) : List PR → Option (List PR)
  | [] => some []
  | .val a :: l => match rnAV f a, rnPRs f l with
    | some b, some l' => some (.val b :: l')
    | _, _ => none
  | .row T e c :: l => match AC.nk true c, rnPRs f l with
    | true, some l' => some (.row T e c :: l')
    | _, _ => none

def sameAll (r : Ren) (f : Nat → Option Nat) : Prop := ∀ k j, f k = some j → rlook r j = some (some k)
theorem sameK_of {r : Ren} {k j : Nat} (h : rlook r j = some (some k)) : sameK r k j := by
  unfold sameK; rw [h]; simp
mutual
theorem Sh.beq_refl : ∀ (x : Sh), Sh.beq x x = true
  | .i => rfl
  | .w8 => rfl
  | .w32 => rfl
  | .w64 => rfl
  | .b => rfl
  | .s => rfl
  | .l8 n => by simp [Sh.beq]
  | .ss => rfl
  | .bs => rfl
  | .t l => by simp only [Sh.beq]; exact Sh.beqs_refl l
  | .sl x => by simp only [Sh.beq]; exact Sh.beq_refl x
theorem Sh.beqs_refl : ∀ (x : List Sh), Sh.beqs x x = true
  | [] => rfl
  | x :: l => by simp only [Sh.beqs, Sh.beq_refl x]; exact Sh.beqs_refl l
end
theorem KK.beq_refl (x : KK) : KK.beq x x = true := by cases x <;> simp [KK.beq]
mutual
theorem nk_le {sh : Bool} (r : Ren) : ∀ (a : AV), a.nk sh = true → avLe r a a
  | .i _, _ => by simp [avLe]
  | .w8 _, _ => by simp [avLe]
  | .w16 _, _ => by simp [avLe]
  | .w32 _, _ => by simp [avLe]
  | .w64 _, _ => by simp [avLe]
  | .b _, _ => by simp [avLe]
  | .kb _, _ => by simp [avLe]
  | .s _, _ => by simp [avLe]
  | .ag n c, h => by simp only [AV.nk] at h; simp only [avLe]; exact ⟨by simp, nkc_le r c h⟩
  | .nl, _ => by simp [avLe]
  | .pn, _ => by simp [avLe]
  | .rb e c, h => by
    have hsh : sh = true := by cases hq : sh <;> simp [AV.nk, hq] at h ⊢
    have h' : c.nk sh = true := by simpa only [AV.nk, hsh] using h
    simp only [avLe]; exact ⟨by simp, nkc_le r c h'⟩
  | .pr a, h => by
    have hsh : sh = true := by cases hq : sh <;> simp [AV.nk, hq] at h ⊢
    have h' : a.nk sh = true := by simpa only [AV.nk, hsh] using h
    simp only [avLe]; exact nk_le r a h'
  | .u, h => by simp [AV.nk] at h
  | .tup _, h => by simp [AV.nk] at h
  | .p _ _ _, h => by simp [AV.nk] at h
  | .pe _ _ _ _ _, h => by simp [AV.nk] at h
  | .sl _ _ _ _ _ _, h => by simp [AV.nk] at h
  | .rw _, h => by simp [AV.nk] at h
  | .cl _, h => by simp [AV.nk] at h
  | .mh _, h => by simp [AV.nk] at h
  | .pf _ _ _ _ _ _ _, h => by simp [AV.nk] at h
  | .z, _ => by simp [avLe]
  | .mn, _ => by simp [avLe]
  | .fv f l, h => by simp only [AV.nk] at h; simp only [avLe]; exact ⟨by simp, nkl_le r l h⟩
theorem nkc_le {sh : Bool} (r : Ren) : ∀ (c : AC), c.nk sh = true → acLe r c c
  | .bt _, _ => by simp [acLe]
  | .wh _, _ => by simp [acLe]
  | .wd _, _ => by simp [acLe]
  | .ww _, _ => by simp [acLe]
  | .is _, _ => by simp [acLe]
  | .ss _, _ => by simp [acLe]
  | .vs l, h => by simp only [AC.nk] at h; simp only [acLe]; exact nkl_le r l h
  | .fn _ _ _, h => by simp [AC.nk] at h
  | .ds s xs, _ => by simp only [acLe]; exact ⟨Sh.beq_refl s, trivial⟩
theorem nkl_le {sh : Bool} (r : Ren) : ∀ (l : List AV), AL.nk sh l = true → alLe r l l
  | [], _ => by simp [alLe]
  | a :: l, h => by
    simp only [AL.nk] at h
    split at h
    · simp only [alLe]; exact ⟨nk_le r a (by assumption), nkl_le r l h⟩
    · cases h
end
mutual
theorem rn_le {r : Ren} {f : Nat → Option Nat} (hf : sameAll r f) : ∀ (a b : AV), rnAV f a = some b → avLe r a b ∧ b ≠ .u
  | .i _, b, h => by simp only [rnAV, Option.some.injEq] at h; subst h; simp [avLe]
  | .w8 _, b, h => by simp only [rnAV, Option.some.injEq] at h; subst h; simp [avLe]
  | .w16 _, b, h => by simp only [rnAV, Option.some.injEq] at h; subst h; simp [avLe]
  | .w32 _, b, h => by simp only [rnAV, Option.some.injEq] at h; subst h; simp [avLe]
  | .w64 _, b, h => by simp only [rnAV, Option.some.injEq] at h; subst h; simp [avLe]
  | .b _, b, h => by simp only [rnAV, Option.some.injEq] at h; subst h; simp [avLe]
  | .kb _, b, h => by simp only [rnAV, Option.some.injEq] at h; subst h; simp [avLe]
  | .s _, b, h => by simp only [rnAV, Option.some.injEq] at h; subst h; simp [avLe]
  | .ag n c, b, h => by
    simp only [rnAV] at h
    split at h
    · rename_i d hd
      cases h
      exact ⟨by simp only [avLe]; exact ⟨by simp, rnc_le hf c d hd⟩, by simp⟩
    · cases h
  | .nl, b, h => by simp only [rnAV, Option.some.injEq] at h; subst h; simp [avLe]
  | .pn, b, h => by simp only [rnAV, Option.some.injEq] at h; subst h; simp [avLe]
  | .rb e c, b, h => by
    simp only [rnAV] at h
    split at h
    · rename_i hn
      cases h
      exact ⟨by simp only [avLe]; exact ⟨by simp, nkc_le r c hn⟩, by simp⟩
    · cases h
  | .pr a, b, h => by
    simp only [rnAV] at h
    split at h
    · rename_i hn
      cases h
      exact ⟨by simp only [avLe]; exact nk_le r a hn, by simp⟩
    · cases h
  | .rw k, b, h => by
    simp only [rnAV] at h
    split at h
    · rename_i j hj
      cases h
      exact ⟨by simp only [avLe]; exact sameK_of (hf k j hj), by simp⟩
    · cases h
  | .p k g o, b, h => by
    simp only [rnAV] at h
    split at h
    · rename_i j hj
      cases h
      exact ⟨by simp only [avLe]; exact ⟨sameK_of (hf k j hj), by simp, by simp⟩, by simp⟩
    · cases h
  | .sl k g o e a n, b, h => by
    simp only [rnAV] at h
    split at h
    · rename_i j hj
      cases h
      exact ⟨by simp only [avLe]; exact ⟨sameK_of (hf k j hj), by simp, by simp, by simp, trivial, trivial⟩, by simp⟩
    · cases h
  | .u, b, h => by simp [rnAV] at h
  | .tup _, b, h => by simp [rnAV] at h
  | .pe _ _ _ _ _, b, h => by simp [rnAV] at h
  | .cl k, b, h => by
    simp only [rnAV] at h
    split at h
    · rename_i j hj
      cases h
      exact ⟨by simp only [avLe]; exact sameK_of (hf k j hj), by simp⟩
    · cases h
  | .mh k, b, h => by
    simp only [rnAV] at h
    split at h
    · rename_i j hj
      cases h
      exact ⟨by simp only [avLe]; exact sameK_of (hf k j hj), by simp⟩
    · cases h
  | .z, b, h => by simp only [rnAV, Option.some.injEq] at h; subst h; simp [avLe]
  | .mn, b, h => by simp only [rnAV, Option.some.injEq] at h; subst h; simp [avLe]
  | .fv g l, b, h => by
    simp only [rnAV] at h
    split at h
    · rename_i l' hl
      cases h
      exact ⟨by simp only [avLe]; exact ⟨by simp, rnl_le hf l l' hl⟩, by simp⟩
    · cases h
  | .pf _ _ _ _ _ _ _, b, h => by simp [rnAV] at h
theorem rnc_le {r : Ren} {f : Nat → Option Nat} (hf : sameAll r f) : ∀ (a b : AC), rnAC f a = some b → acLe r a b
  | .bt _, b, h => by simp only [rnAC, Option.some.injEq] at h; subst h; simp [acLe]
  | .wh _, b, h => by simp only [rnAC, Option.some.injEq] at h; subst h; simp [acLe]
  | .wd _, b, h => by simp only [rnAC, Option.some.injEq] at h; subst h; simp [acLe]
  | .ww _, b, h => by simp only [rnAC, Option.some.injEq] at h; subst h; simp [acLe]
  | .is _, b, h => by simp only [rnAC, Option.some.injEq] at h; subst h; simp [acLe]
  | .ss _, b, h => by simp only [rnAC, Option.some.injEq] at h; subst h; simp [acLe]
  | .vs l, b, h => by
    simp only [rnAC] at h
    split at h
    · rename_i l' hl
      cases h
      simp only [acLe]; exact rnl_le hf l l' hl
    · cases h
  | .fn _ _ _, b, h => by simp [rnAC] at h
  | .ds s xs, b, h => by simp only [rnAC, Option.some.injEq] at h; subst h; simp only [acLe]; exact ⟨Sh.beq_refl s, trivial⟩
theorem rnl_le {r : Ren} {f : Nat → Option Nat} (hf : sameAll r f) : ∀ (a b : List AV), rnAL f a = some b → alLe r a b
  | [], b, h => by simp only [rnAL, Option.some.injEq] at h; subst h; simp [alLe]
  | a :: l, b, h => by
    simp only [rnAL] at h
    split at h
    · rename_i a' l' h1 h2
      cases h
      simp only [alLe]; exact ⟨(rn_le hf a a' h1).1, rnl_le hf l l' h2⟩
    · cases h
end
theorem rns_le {r : Ren} {f : Nat → Option Nat} (hf : sameAll r f) : ∀ (a b : List Seg), rnSegs f a = some b → segsLe r a b
  | [], b, h => by simp only [rnSegs, Option.some.injEq] at h; subst h; simp [segsLe]
  | (n, c) :: l, b, h => by
    simp only [rnSegs] at h
    split at h
    · rename_i a' l' h1 h2
      cases h
      simp only [segsLe]; exact ⟨by simp, rnc_le hf c a' h1, rns_le hf l l' h2⟩
    · cases h
theorem rnb_le {r : Ren} {f : Nat → Option Nat} (hf : sameAll r f) (a b : AB) (h : rnAB f a = some b) : abLe r a b ∧ a.live = true ∧ b.live = true := by
  cases a with
  | dead => simp [rnAB] at h
  | bk T s =>
    simp only [rnAB] at h
    split at h
    · rename_i s' hs
      cases h
      exact ⟨by simp only [abLe]; exact ⟨by simp, rns_le hf s s' hs⟩, rfl, rfl⟩
    · cases h
  | row T e c =>
    simp only [rnAB] at h
    split at h
    · rename_i d hd
      cases h
      exact ⟨by simp only [abLe]; exact ⟨by simp, by simp, rnc_le hf c d hd⟩, rfl, rfl⟩
    · cases h
  | mp T kk vs M =>
    simp only [rnAB, Option.some.injEq] at h
    subst h
    exact ⟨by simp only [abLe]; exact ⟨by simp, KK.beq_refl kk, Sh.beq_refl vs, trivial⟩, rfl, rfl⟩
  | it k a b c =>
    simp only [rnAB] at h
    split at h
    · rename_i j hj
      cases h
      exact ⟨by simp only [abLe]; exact ⟨sameK_of (hf k j hj), trivial, trivial, trivial⟩, rfl, rfl⟩
    · cases h

def sameBack (r : Ren) (f : Nat → Option Nat) : Prop := ∀ k j, f k = some j → rlook r k = some (some j)
mutual
theorem rn_ge {r : Ren} {f : Nat → Option Nat} (hf : sameBack r f) : ∀ (a b : AV), rnAV f a = some b → avLe r b a ∧ a ≠ .u
  | .i _, b, h => by simp only [rnAV, Option.some.injEq] at h; subst h; simp [avLe]
  | .w8 _, b, h => by simp only [rnAV, Option.some.injEq] at h; subst h; simp [avLe]
  | .w16 _, b, h => by simp only [rnAV, Option.some.injEq] at h; subst h; simp [avLe]
  | .w32 _, b, h => by simp only [rnAV, Option.some.injEq] at h; subst h; simp [avLe]
  | .w64 _, b, h => by simp only [rnAV, Option.some.injEq] at h; subst h; simp [avLe]
  | .b _, b, h => by simp only [rnAV, Option.some.injEq] at h; subst h; simp [avLe]
  | .kb _, b, h => by simp only [rnAV, Option.some.injEq] at h; subst h; simp [avLe]
  | .s _, b, h => by simp only [rnAV, Option.some.injEq] at h; subst h; simp [avLe]
  | .ag n c, b, h => by
    simp only [rnAV] at h
    split at h
    · rename_i d hd
      cases h
      exact ⟨by simp only [avLe]; exact ⟨by simp, rnc_ge hf c d hd⟩, by simp⟩
    · cases h
  | .nl, b, h => by simp only [rnAV, Option.some.injEq] at h; subst h; simp [avLe]
  | .pn, b, h => by simp only [rnAV, Option.some.injEq] at h; subst h; simp [avLe]
  | .rb e c, b, h => by
    simp only [rnAV] at h
    split at h
    · rename_i hn
      cases h
      exact ⟨by simp only [avLe]; exact ⟨by simp, nkc_le r c hn⟩, by simp⟩
    · cases h
  | .pr a, b, h => by
    simp only [rnAV] at h
    split at h
    · rename_i hn
      cases h
      exact ⟨by simp only [avLe]; exact nk_le r a hn, by simp⟩
    · cases h
  | .rw k, b, h => by
    simp only [rnAV] at h
    split at h
    · rename_i j hj
      cases h
      exact ⟨by simp only [avLe]; exact sameK_of (hf k j hj), by simp⟩
    · cases h
  | .p k g o, b, h => by
    simp only [rnAV] at h
    split at h
    · rename_i j hj
      cases h
      exact ⟨by simp only [avLe]; exact ⟨sameK_of (hf k j hj), by simp, by simp⟩, by simp⟩
    · cases h
  | .sl k g o e a n, b, h => by
    simp only [rnAV] at h
    split at h
    · rename_i j hj
      cases h
      exact ⟨by simp only [avLe]; exact ⟨sameK_of (hf k j hj), by simp, by simp, by simp, trivial, trivial⟩, by simp⟩
    · cases h
  | .u, b, h => by simp [rnAV] at h
  | .tup _, b, h => by simp [rnAV] at h
  | .pe _ _ _ _ _, b, h => by simp [rnAV] at h
  | .cl k, b, h => by
    simp only [rnAV] at h
    split at h
    · rename_i j hj
      cases h
      exact ⟨by simp only [avLe]; exact sameK_of (hf k j hj), by simp⟩
    · cases h
  | .mh k, b, h => by
    simp only [rnAV] at h
    split at h
    · rename_i j hj
      cases h
      exact ⟨by simp only [avLe]; exact sameK_of (hf k j hj), by simp⟩
    · cases h
  | .z, b, h => by simp only [rnAV, Option.some.injEq] at h; subst h; simp [avLe]
  | .mn, b, h => by simp only [rnAV, Option.some.injEq] at h; subst h; simp [avLe]
  | .fv g l, b, h => by
    simp only [rnAV] at h
    split at h
    · rename_i l' hl
      cases h
      exact ⟨by simp only [avLe]; exact ⟨by simp, rnl_ge hf l l' hl⟩, by simp⟩
    · cases h
  | .pf _ _ _ _ _ _ _, b, h => by simp [rnAV] at h
theorem rnc_ge {r : Ren} {f : Nat → Option Nat} (hf : sameBack r f) : ∀ (a b : AC), rnAC f a = some b → acLe r b a
  | .bt _, b, h => by simp only [rnAC, Option.some.injEq] at h; subst h; simp [acLe]
  | .wh _, b, h => by simp only [rnAC, Option.some.injEq] at h; subst h; simp [acLe]
  | .wd _, b, h => by simp only [rnAC, Option.some.injEq] at h; subst h; simp [acLe]
  | .ww _, b, h => by simp only [rnAC, Option.some.injEq] at h; subst h; simp [acLe]
  | .is _, b, h => by simp only [rnAC, Option.some.injEq] at h; subst h; simp [acLe]
  | .ss _, b, h => by simp only [rnAC, Option.some.injEq] at h; subst h; simp [acLe]
  | .vs l, b, h => by
    simp only [rnAC] at h
    split at h
    · rename_i l' hl
      cases h
      simp only [acLe]; exact rnl_ge hf l l' hl
    · cases h
  | .fn _ _ _, b, h => by simp [rnAC] at h
  | .ds s xs, b, h => by simp only [rnAC, Option.some.injEq] at h; subst h; simp only [acLe]; exact ⟨Sh.beq_refl s, trivial⟩
theorem rnl_ge {r : Ren} {f : Nat → Option Nat} (hf : sameBack r f) : ∀ (a b : List AV), rnAL f a = some b → alLe r b a
  | [], b, h => by simp only [rnAL, Option.some.injEq] at h; subst h; simp [alLe]
  | a :: l, b, h => by
    simp only [rnAL] at h
    split at h
    · rename_i a' l' h1 h2
      cases h
      simp only [alLe]; exact ⟨(rn_ge hf a a' h1).1, rnl_ge hf l l' h2⟩
    · cases h
end
theorem rns_ge {r : Ren} {f : Nat → Option Nat} (hf : sameBack r f) : ∀ (a b : List Seg), rnSegs f a = some b → segsLe r b a
  | [], b, h => by simp only [rnSegs, Option.some.injEq] at h; subst h; simp [segsLe]
  | (n, c) :: l, b, h => by
    simp only [rnSegs] at h
    split at h
    · rename_i a' l' h1 h2
      cases h
      simp only [segsLe]; exact ⟨by simp, rnc_ge hf c a' h1, rns_ge hf l l' h2⟩
    · cases h
theorem rnb_ge {r : Ren} {f : Nat → Option Nat} (hf : sameBack r f) (a b : AB) (h : rnAB f a = some b) : abLe r b a ∧ a.live = true ∧ b.live = true := by
  cases a with
  | dead => simp [rnAB] at h
  | bk T s =>
    simp only [rnAB] at h
    split at h
    · rename_i s' hs
      cases h
      exact ⟨by simp only [abLe]; exact ⟨by simp, rns_ge hf s s' hs⟩, rfl, rfl⟩
    · cases h
  | row T e c =>
    simp only [rnAB] at h
    split at h
    · rename_i d hd
      cases h
      exact ⟨by simp only [abLe]; exact ⟨by simp, by simp, rnc_ge hf c d hd⟩, rfl, rfl⟩
    · cases h
  | mp T kk vs M =>
    simp only [rnAB, Option.some.injEq] at h
    subst h
    exact ⟨by simp only [abLe]; exact ⟨by simp, KK.beq_refl kk, Sh.beq_refl vs, trivial⟩, rfl, rfl⟩
  | it k a b c =>
    simp only [rnAB] at h
    split at h
    · rename_i j hj
      cases h
      exact ⟨by simp only [abLe]; exact ⟨sameK_of (hf k j hj), trivial, trivial, trivial⟩, rfl, rfl⟩
    · cases h

/-! ## Names met -/
def addK (k : Nat) (ks : List Nat) : List Nat := match lmem k ks with
  | true => ks
  | false => ks ++ [k]
mutual
def keysV : AV → List Nat → List Nat
  | .rw k, ks => addK k ks
  | .p k _ _, ks => addK k ks
  | .sl k _ _ _ _ _, ks => addK k ks
  | .cl k, ks => addK k ks
  | .mh k, ks => addK k ks
  | .fv _ l, ks => keysL l ks
  | .ag _ c, ks => keysC c ks
  | _, ks => ks
def keysC : AC → List Nat → List Nat
  | .vs l, ks => keysL l ks
  | _, ks => ks
def keysL : List AV → List Nat → List Nat
  | [], ks => ks
  | a :: l, ks => keysL l (keysV a ks)
end
def keysS : List Seg → List Nat → List Nat
  | [], ks => ks
  | (_, c) :: l, ks => keysS l (keysC c ks)
def keysB : AB → List Nat → List Nat
  | .bk _ s, ks => keysS s ks
  | .row _ _ c, ks => keysC c ks
  | .it k _ _ _, ks => addK k ks
  | .mp _ _ _ _, ks => ks
  | .dead, ks => ks
/-- what is to be looked up, what has been -/
def gather : Nat → List Nat → Nat → List AB → (List Nat → List AB → Look) → Look
  | 0, _, _, _, _ => .no
  | fuel + 1, ks, i, abs, K => match nth ks i with
    | none => K ks abs
    | some k => .look k fun ab => gather fuel (keysB ab ks) (Nat.succ i) (abs ++ [ab]) K
def idxOf (k : Nat) : Nat → List Nat → Option Nat
  | _, [] => none
  | i, j :: r => match Nat.beq k j with
    | true => some i
    | false => idxOf k (Nat.succ i) r
theorem addK_nodup {k : Nat} {ks : List Nat} (h : ks.Nodup) : (addK k ks).Nodup ∧ ks <+: addK k ks := by
  unfold addK
  split
  · exact ⟨h, List.prefix_refl _⟩
  · rename_i hm
    refine ⟨?_, List.prefix_append _ _⟩
    rw [List.nodup_append]
    refine ⟨h, by simp, fun a ha b hb => ?_⟩
    simp at hb; subst hb
    intro e; subst e; exact lmem_spec hm ha
mutual
theorem keysV_nodup : ∀ (a : AV) (ks : List Nat), ks.Nodup → (keysV a ks).Nodup ∧ ks <+: keysV a ks
  | .rw k, ks, h => by simp only [keysV]; exact addK_nodup h
  | .p k _ _, ks, h => by simp only [keysV]; exact addK_nodup h
  | .sl k _ _ _ _ _, ks, h => by simp only [keysV]; exact addK_nodup h
  | .cl k, ks, h => by simp only [keysV]; exact addK_nodup h
  | .mh k, ks, h => by simp only [keysV]; exact addK_nodup h
  | .fv _ l, ks, h => by simp only [keysV]; exact keysL_nodup l ks h
  | .z, ks, h => by simp only [keysV]; exact ⟨h, List.prefix_refl _⟩
  | .mn, ks, h => by simp only [keysV]; exact ⟨h, List.prefix_refl _⟩
  | .pf _ _ _ _ _ _ _, ks, h => by simp only [keysV]; exact ⟨h, List.prefix_refl _⟩
  | .ag _ c, ks, h => by simp only [keysV]; exact keysC_nodup c ks h
  | .i _, ks, h => by simp only [keysV]; exact ⟨h, List.prefix_refl _⟩
  | .w8 _, ks, h => by simp only [keysV]; exact ⟨h, List.prefix_refl _⟩
  | .w16 _, ks, h => by simp only [keysV]; exact ⟨h, List.prefix_refl _⟩
  | .w32 _, ks, h => by simp only [keysV]; exact ⟨h, List.prefix_refl _⟩
  | .w64 _, ks, h => by simp only [keysV]; exact ⟨h, List.prefix_refl _⟩
  | .b _, ks, h => by simp only [keysV]; exact ⟨h, List.prefix_refl _⟩
  | .kb _, ks, h => by simp only [keysV]; exact ⟨h, List.prefix_refl _⟩
  | .s _, ks, h => by simp only [keysV]; exact ⟨h, List.prefix_refl _⟩
  | .u, ks, h => by simp only [keysV]; exact ⟨h, List.prefix_refl _⟩
  | .tup _, ks, h => by simp only [keysV]; exact ⟨h, List.prefix_refl _⟩
  | .pe _ _ _ _ _, ks, h => by simp only [keysV]; exact ⟨h, List.prefix_refl _⟩
  | .pr _, ks, h => by simp only [keysV]; exact ⟨h, List.prefix_refl _⟩
  | .rb _ _, ks, h => by simp only [keysV]; exact ⟨h, List.prefix_refl _⟩
  | .nl, ks, h => by simp only [keysV]; exact ⟨h, List.prefix_refl _⟩
  | .pn, ks, h => by simp only [keysV]; exact ⟨h, List.prefix_refl _⟩
theorem keysC_nodup : ∀ (a : AC) (ks : List Nat), ks.Nodup → (keysC a ks).Nodup ∧ ks <+: keysC a ks
  | .vs l, ks, h => by simp only [keysC]; exact keysL_nodup l ks h
  | .bt _, ks, h => by simp only [keysC]; exact ⟨h, List.prefix_refl _⟩
  | .wh _, ks, h => by simp only [keysC]; exact ⟨h, List.prefix_refl _⟩
  | .wd _, ks, h => by simp only [keysC]; exact ⟨h, List.prefix_refl _⟩
  | .ww _, ks, h => by simp only [keysC]; exact ⟨h, List.prefix_refl _⟩
  | .is _, ks, h => by simp only [keysC]; exact ⟨h, List.prefix_refl _⟩
  | .ss _, ks, h => by simp only [keysC]; exact ⟨h, List.prefix_refl _⟩
  | .fn _ _ _, ks, h => by simp only [keysC]; exact ⟨h, List.prefix_refl _⟩
  | .ds _ _, ks, h => by simp only [keysC]; exact ⟨h, List.prefix_refl _⟩
theorem keysL_nodup : ∀ (a : List AV) (ks : List Nat), ks.Nodup → (keysL a ks).Nodup ∧ ks <+: keysL a ks
  | [], ks, h => by simp only [keysL]; exact ⟨h, List.prefix_refl _⟩
  | a :: l, ks, h => by
    simp only [keysL]
    obtain ⟨h1, h2⟩ := keysV_nodup a ks h
    obtain ⟨h3, h4⟩ := keysL_nodup l _ h1
    exact ⟨h3, h2.trans h4⟩
end
theorem keysS_nodup : ∀ (a : List Seg) (ks : List Nat), ks.Nodup → (keysS a ks).Nodup ∧ ks <+: keysS a ks
  | [], ks, h => ⟨h, List.prefix_refl _⟩
  | (n, c) :: l, ks, h => by
    simp only [keysS]
    obtain ⟨h1, h2⟩ := keysC_nodup c ks h
    obtain ⟨h3, h4⟩ := keysS_nodup l _ h1
    exact ⟨h3, h2.trans h4⟩
theorem keysB_nodup (a : AB) (ks : List Nat) (h : ks.Nodup) : (keysB a ks).Nodup ∧ ks <+: keysB a ks := by
  cases a with
  | dead => exact ⟨h, List.prefix_refl _⟩
  | bk T s => exact keysS_nodup s ks h
  | row T e c => exact keysC_nodup c ks h
  | mp T kk vs M => exact ⟨h, List.prefix_refl _⟩
  | it k a b c => exact addK_nodup h
theorem gather_sound {me : Mem} {K : List Nat → List AB → Look} {e : Eff} : ∀ (fuel : Nat) (ks : List Nat) (i : Nat) (abs : List AB), ks.Nodup → abs.length = i → (∀ (j : Nat) (ab : AB), abs[j]? = some ab → ∃ k : Nat, ks[j]? = some k ∧ mlook me k = some ab) → i ≤ ks.length →
    (gather fuel ks i abs K).run me = some e → ∃ ks' abs', ks'.Nodup ∧ abs'.length = ks'.length ∧ (∀ (j : Nat) (ab : AB), abs'[j]? = some ab → ∃ k : Nat, ks'[j]? = some k ∧ mlook me k = some ab) ∧ (K ks' abs').run me = some e
  | 0, ks, i, abs, hn, hl, ha, hi, h => by simp [gather, Look.run] at h
  | fuel + 1, ks, i, abs, hn, hl, ha, hi, h => by
    simp only [gather] at h
    split at h
    · rename_i hk
      rw [nth_get] at hk
      have : ks.length ≤ i := by simpa using hk
      exact ⟨ks, abs, hn, by omega, ha, h⟩
    · rename_i k hk
      rw [nth_get] at hk
      obtain ⟨ab, hab, h⟩ := Look.run_look h
      obtain ⟨h1, h2⟩ := keysB_nodup ab ks hn
      have hik := (List.getElem?_eq_some_iff.1 hk).1
      obtain ⟨t, ht⟩ := h2
      refine gather_sound fuel (keysB ab ks) (i + 1) (abs ++ [ab]) h1 (by simp [hl]) (fun j ab' hj => ?_) (by rw [← ht]; simp; omega) h
      by_cases e : j < abs.length
      · rw [List.getElem?_append_left e] at hj
        obtain ⟨k', h3, h4⟩ := ha j ab' hj
        exact ⟨k', by rw [← ht, List.getElem?_append_left (List.getElem?_eq_some_iff.1 h3).1]; exact h3, h4⟩
      · have e1 : j = i := by
          have := (List.getElem?_eq_some_iff.1 hj).1
          simp at this; omega
        subst e1
        rw [List.getElem?_append_right (by omega)] at hj
        simp [hl] at hj
        subst hj
        exact ⟨k, by rw [← ht, List.getElem?_append_left hik]; exact hk, hab⟩
end Go.Vc
set_option linter.unusedVariables false
set_option linter.unusedSimpArgs false
namespace Go.Vc
open Go Go.RowKit
def zipMe : Nat → List AB → Mem
  | _, [] => []
  | i, a :: r => (i, a) :: zipMe (Nat.succ i) r
def ridOf : Nat → List AB → Ren
  | _, [] => []
  | i, _ :: r => (i, some i) :: ridOf (Nat.succ i) r
def upto : Nat → List AB → List Nat
  | _, [] => []
  | i, _ :: r => i :: upto (Nat.succ i) r
abbrev HLaw := List AV → List AB → Option (Prop × List PR × List (Option AB))
/-- what has gone may be told, too -/
def rnABd (f : Nat → Option Nat) : AB → Option AB
  | .dead => some .dead
  | a => rnAB f a
def rnOpts (f : Nat → Option Nat) : List (Option AB) → Option (List (Option AB))
  | [] => some []
  | none :: l => match rnOpts f l with
    | some l' => some (none :: l')
    | none => none
  | some a :: l => match rnABd f a, rnOpts f l with
    | some b, some l' => some (some b :: l')
    | _, _ => none
/-- what has turned, under the caller's names -/
def chg : List Nat → List (Option AB) → Mem
  | k :: ks, some a :: r => (k, a) :: chg ks r
  | _ :: ks, none :: r => chg ks r
  | _, _ => []
def sameLen : List Nat → List AB → List (Option AB) → Bool
  | [], [], [] => true
  | _ :: a, _ :: b, _ :: c => sameLen a b c
  | _, _, _ => false
def mapp : Mem → Mem → Mem
  | [], b => b
  | p :: r, b => p :: mapp r b
def few : Nat → List Nat → Bool
  | _, [] => true
  | 0, _ :: _ => false
  | n + 1, _ :: r => few n r
def isLen : Nat → List Nat → Bool
  | 0, [] => true
  | n + 1, _ :: r => isLen n r
  | _, _ => false
def hSpec (n : Nat) (g : HLaw) : Spec := fun args kb =>
  gather 40 (keysL args []) 0 [] fun ks abs =>
    match rnAL (fun k => idxOf k 0 ks) args, rnABs (fun k => idxOf k 0 ks) abs with
    | some l, some mm => match g l mm with
      | some (c, rs, ch) => match rnPRs (nth ks) rs, rnOpts (nth ks) ch with
        | some rs', some ch' => match Nat.ble (nRows rs') 8, isLen n ks, sameLen ks mm ch' with
          | true, true, true => .ret ⟨c, tupAV (outs kb rs'), mapp (newRows kb rs') (chg ks ch')⟩
          | _, _, _ => .no
        | _, _ => .no
      | none => .no
    | _, _ => .no
def retMH (rid : Ren) (s : AS) : List AV → List PR → List Nat → Prop
  | [], [], _ => True
  | a :: r, .val b :: ps, us => avLeM rid s.me a b ∧ retMH rid s r ps us
  | a :: r, .row T e c :: ps, us => match c.nk true with
    | true => match a with
      | .rw k => match lmem k us with
        | true => False
        | false => match mlook s.me k with
          | some (.row T' e' c') => (Nat.beq T' T = true ∧ Nat.beq e' e = true ∧ acLe rid c' c) ∧ retMH rid s r ps (k :: us)
          | _ => False
      | .nl => acNil c ∧ retMH rid s r ps us
      | .z => acNil c ∧ retMH rid s r ps us
      | _ => False
    | false => False
  | _, _, _ => False
def memM (rid : Ren) (s : AS) : Nat → List AB → List (Option AB) → Prop
  | _, [], [] => True
  | i, a :: r, o :: q => (match o with
    | some .dead => True
    | none => match mlook s.me i with
      | some b => abLe rid b a
      | none => False
    | some a' => match mlook s.me i with
      | some b => abLe rid b a'
      | none => False) ∧ memM rid s (Nat.succ i) r q
  | _, _, _ => False
/-- the names that are not given away -/
def uptoL : Nat → List (Option AB) → List Nat
  | _, [] => []
  | i, some .dead :: r => uptoL (Nat.succ i) r
  | i, _ :: r => i :: uptoL (Nat.succ i) r
def retHOk (F : Fs) (tt : TT) (fr : List ResultVar) (mm : List AB) (rs : List PR) (ch : List (Option AB)) : VX → AS → Prop :=
  endK F tt fr fun l s => retMH (ridOf 0 mm) s l rs (uptoL 0 ch) ∧ memM (ridOf 0 mm) s 0 mm ch

/-! ## Lists -/
theorem zipMe_look : ∀ (l : List AB) (i t : Nat), mlook (zipMe i l) t = if i ≤ t then l[t - i]? else none
  | [], i, t => by simp [zipMe, mlook]
  | a :: r, i, t => by
    simp only [zipMe]
    rw [mlook_cons, zipMe_look r (i + 1) t]
    by_cases e : i = t
    · subst e; simp
    · rw [if_neg e]
      by_cases h : i + 1 ≤ t
      · rw [if_pos h, if_pos (by omega), show t - i = (t - (i + 1)) + 1 by omega]; simp
      · rw [if_neg h, if_neg (by omega)]
theorem rlook_cons (k : Nat) (a : Option Nat) (r : Ren) (t : Nat) : rlook ((k, a) :: r) t = if k = t then some a else rlook r t := by
  simp only [rlook]
  by_cases h : k = t
  · subst h; simp
  · rw [if_neg h]
    split
    · rename_i e; exact absurd (beq_nat e) h
    · rfl
theorem ridOf_look : ∀ (l : List AB) (i t : Nat), rlook (ridOf i l) t = if i ≤ t ∧ t < i + l.length then some (some t) else none
  | [], i, t => by simp [ridOf, rlook]
  | a :: r, i, t => by
    simp only [ridOf]
    rw [rlook_cons, ridOf_look r (i + 1) t]
    by_cases e : i = t
    · subst e; simp
    · rw [if_neg e]
      by_cases h : i + 1 ≤ t ∧ t < i + 1 + r.length
      · rw [if_pos h, if_pos (by simp; omega)]
      · rw [if_neg h, if_neg (by simp; omega)]
theorem upto_mem : ∀ (l : List AB) (i t : Nat), t ∈ upto i l ↔ i ≤ t ∧ t < i + l.length
  | [], i, t => by simp [upto]
  | a :: r, i, t => by
    simp only [upto, List.mem_cons, upto_mem r (i + 1) t, List.length_cons]
    omega
/-- local names for the caller's -/
def ren1 : Nat → List Nat → Ren
  | _, [] => []
  | i, k :: r => (i, some k) :: ren1 (i + 1) r
theorem ren1_look : ∀ (l : List Nat) (i t : Nat), rlook (ren1 i l) t = if i ≤ t then (l[t - i]?).map some else none
  | [], i, t => by simp [ren1, rlook]
  | a :: r, i, t => by
    simp only [ren1]
    rw [rlook_cons, ren1_look r (i + 1) t]
    by_cases e : i = t
    · subst e; simp
    · rw [if_neg e]
      by_cases h : i + 1 ≤ t
      · rw [if_pos h, if_pos (by omega), show t - i = (t - (i + 1)) + 1 by omega]; simp
      · rw [if_neg h, if_neg (by omega)]
/-- and back -/
def ren2 : Nat → List Nat → Ren
  | _, [] => []
  | i, k :: r => (k, some i) :: ren2 (i + 1) r
theorem ren2_look : ∀ (l : List Nat) (i t : Nat), rlook (ren2 i l) t = (idxOf t i l).map some
  | [], i, t => by simp [ren2, rlook, idxOf]
  | a :: r, i, t => by
    simp only [ren2]
    rw [rlook_cons, ren2_look r (i + 1) t]
    simp only [idxOf]
    by_cases e : a = t
    · subst e; simp
    · rw [if_neg e]
      split
      · rename_i h; exact absurd (beq_nat h).symm e
      · rfl
theorem idxOf_get : ∀ (l : List Nat) (i t j : Nat), idxOf t i l = some j → i ≤ j ∧ l[j - i]? = some t
  | [], i, t, j, h => by simp [idxOf] at h
  | a :: r, i, t, j, h => by
    simp only [idxOf] at h
    split at h
    · rename_i e
      have := beq_nat e; subst this
      cases h
      simp
    · obtain ⟨h1, h2⟩ := idxOf_get r (i + 1) t j h
      refine ⟨by omega, ?_⟩
      rw [show j - i = (j - (i + 1)) + 1 by omega]; simpa using h2
theorem idxOf_of : ∀ (l : List Nat) (i t j : Nat), l.Nodup → l[j]? = some t → idxOf t i l = some (i + j)
  | [], i, t, j, _, h => by simp at h
  | a :: r, i, t, j, hn, h => by
    simp only [idxOf]
    cases j with
    | zero => simp only [List.getElem?_cons_zero, Option.some.injEq] at h; subst h; simp
    | succ j =>
      simp only [List.getElem?_cons_succ] at h
      have hne : t ≠ a := fun e => by subst e; exact (List.nodup_cons.1 hn).1 (List.mem_of_getElem? h)
      split
      · rename_i e; exact absurd (beq_nat e) hne
      · rw [idxOf_of r (i + 1) t j (List.nodup_cons.1 hn).2 h]; congr 1; omega
theorem same1 (ks : List Nat) : sameAll (ren1 0 ks) (fun k => idxOf k 0 ks) := by
  intro k j h
  rw [ren1_look]
  have := (idxOf_get ks 0 k j h).2
  simp only [Nat.sub_zero] at this
  simp [this]
theorem same2 {ks : List Nat} (hn : ks.Nodup) : sameAll (ren2 0 ks) (nth ks) := by
  intro k j h
  rw [nth_get] at h
  rw [ren2_look, idxOf_of ks 0 j k hn h]
  simp
theorem rnABs_get {f : Nat → Option Nat} : ∀ {a b : List AB}, rnABs f a = some b → a.length = b.length ∧ ∀ (j : Nat) y, b[j]? = some y → ∃ x, a[j]? = some x ∧ rnAB f x = some y
  | [], b, h => by simp only [rnABs, Option.some.injEq] at h; subst h; simp
  | x :: a, b, h => by
    simp only [rnABs] at h
    split at h
    · rename_i y b' h1 h2
      cases h
      obtain ⟨h3, h4⟩ := rnABs_get h2
      refine ⟨by simp [h3], fun j z hz => ?_⟩
      cases j with
      | zero => simp only [List.getElem?_cons_zero, Option.some.injEq] at hz; subst hz; exact ⟨x, rfl, h1⟩
      | succ j => exact h4 j z (by simpa using hz)
    · cases h
theorem isLen_spec : ∀ {n : Nat} {l : List Nat}, isLen n l = true → l.length = n
  | 0, [], _ => rfl
  | 0, _ :: _, h => by simp [isLen] at h
  | n + 1, [], h => by simp [isLen] at h
  | n + 1, _ :: r, h => by simp [isLen_spec (n := n) (l := r) (by simpa [isLen] using h)]
theorem sameLen_spec : ∀ {a : List Nat} {b : List AB} {c : List (Option AB)}, sameLen a b c = true → b.length = a.length ∧ c.length = a.length
  | [], [], [], _ => ⟨rfl, rfl⟩
  | _ :: a, _ :: b, _ :: c, h => by
    obtain ⟨h1, h2⟩ := sameLen_spec (a := a) (b := b) (c := c) (by simpa [sameLen] using h)
    simp [h1, h2]
  | [], _ :: _, _, h => by simp [sameLen] at h
  | [], [], _ :: _, h => by simp [sameLen] at h
  | _ :: _, [], _, h => by simp [sameLen] at h
  | _ :: _, _ :: _, [], h => by simp [sameLen] at h
theorem rnOpts_get {f : Nat → Option Nat} : ∀ {a b : List (Option AB)}, rnOpts f a = some b → a.length = b.length ∧ ∀ (j : Nat), (b[j]? = some none → a[j]? = some none) ∧ ∀ y, b[j]? = some (some y) → ∃ x, a[j]? = some (some x) ∧ rnABd f x = some y
  | [], b, h => by simp only [rnOpts, Option.some.injEq] at h; subst h; simp
  | none :: a, b, h => by
    simp only [rnOpts] at h
    split at h
    · rename_i b' h2
      cases h
      obtain ⟨h3, h4⟩ := rnOpts_get h2
      refine ⟨by simp [h3], fun j => ?_⟩
      cases j with
      | zero => simp
      | succ j => simpa using h4 j
    · cases h
  | some x :: a, b, h => by
    simp only [rnOpts] at h
    split at h
    · rename_i y b' h1 h2
      cases h
      obtain ⟨h3, h4⟩ := rnOpts_get h2
      refine ⟨by simp [h3], fun j => ?_⟩
      cases j with
      | zero => simp only [List.getElem?_cons_zero, Option.some.injEq, reduceCtorEq, false_implies, true_and]; intro z hz; exact ⟨x, rfl, by rw [h1]; exact congrArg _ hz⟩
      | succ j => simpa using h4 j
    · cases h
theorem mlook_mapp : ∀ (p q : Mem) (k : Nat), mlook (mapp p q) k = match mlook p k with
    | some ab => some ab
    | none => mlook q k
  | [], q, k => rfl
  | (t, a) :: r, q, k => by
    simp only [mapp]
    rw [mlook_cons, mlook_cons]
    split
    · rfl
    · exact mlook_mapp r q k
theorem chg_look : ∀ (ks : List Nat) (ch : List (Option AB)) (k : Nat), ks.Nodup → ch.length = ks.length → mlook (chg ks ch) k = match idxOf k 0 ks with
    | some j => match ch[j]? with
      | some (some a) => some a
      | _ => none
    | none => none := by
  have key : ∀ (ks : List Nat) (ch : List (Option AB)) (k i : Nat), ks.Nodup → ch.length = ks.length → mlook (chg ks ch) k = match idxOf k i ks with
    | some j => match ch[j - i]? with
      | some (some a) => some a
      | _ => none
    | none => none := by
    intro ks
    induction ks with
    | nil => intro ch k i _ h; cases ch <;> simp [chg, mlook, idxOf]
    | cons t r ih =>
      intro ch k i hn hl
      cases ch with
      | nil => simp at hl
      | cons o q =>
        have hl : q.length = r.length := by simpa using hl
        have hi := ih q k (i + 1) (List.nodup_cons.1 hn).2 hl
        by_cases e : k = t
        · subst e
          have hno : mlook (chg r q) k = none := by
            rw [hi]
            cases hq : idxOf k (i + 1) r with
            | none => rfl
            | some j => exact absurd (List.mem_of_getElem? (idxOf_get r (i + 1) k j hq).2) (List.nodup_cons.1 hn).1
          simp only [idxOf, Nat.beq_refl, Nat.sub_self]
          cases o with
          | none => simpa [chg] using hno
          | some a => simp [chg, mlook_cons]
        · have hidx : idxOf k i (t :: r) = idxOf k (i + 1) r := by
            simp only [idxOf]
            split
            · rename_i h; exact absurd (beq_nat h) e
            · rfl
          rw [hidx]
          have hm : mlook (chg (t :: r) (o :: q)) k = mlook (chg r q) k := by
            cases o with
            | none => rfl
            | some a => simp only [chg]; rw [mlook_cons, if_neg (fun h => e h.symm)]
          rw [hm, hi]
          cases hq : idxOf k (i + 1) r with
          | none => rfl
          | some j =>
            have := (idxOf_get r (i + 1) k j hq).1
            simp only
            rw [show j - i = (j - (i + 1)) + 1 by omega]; simp
  intro ks ch k hn hl
  rw [key ks ch k 0 hn hl]
  cases idxOf k 0 ks <;> simp
theorem uptoL_mem : ∀ {ch : List (Option AB)} {i j : Nat} {o : Option AB}, ch[j]? = some o → o ≠ some .dead → i + j ∈ uptoL i ch
  | [], i, j, o, h, _ => by simp at h
  | x :: ch, i, 0, o, h, hd => by
    simp only [List.getElem?_cons_zero, Option.some.injEq] at h
    subst h
    cases x with
    | none => simp [uptoL]
    | some a => cases a <;> first | exact absurd rfl hd | simp [uptoL]
  | x :: ch, i, j + 1, o, h, hd => by
    have := uptoL_mem (i := i + 1) (j := j) (by simpa using h) hd
    rw [show i + (j + 1) = i + 1 + j by omega]
    cases x with
    | none => simp only [uptoL, List.mem_cons]; exact .inr this
    | some a => cases a <;> simp only [uptoL, List.mem_cons] <;> first | exact this | exact .inr this
theorem memM_get {rid : Ren} {s : AS} : ∀ {i : Nat} {mm : List AB} {ch : List (Option AB)}, memM rid s i mm ch → ∀ (j : Nat) a, mm[j]? = some a → ch[j]? = some (some .dead) ∨ ∃ b, mlook s.me (i + j) = some b ∧ (ch[j]? = some none → abLe rid b a) ∧ ∀ a', ch[j]? = some (some a') → abLe rid b a'
  | i, [], ch, h, j, a, ha => by simp at ha
  | i, x :: mm, [], h, j, a, ha => by simp [memM] at h
  | i, x :: mm, o :: ch, h, j, a, ha => by
    cases j with
    | zero =>
      simp only [List.getElem?_cons_zero, Option.some.injEq] at ha; subst ha
      simp only [memM] at h
      have h0 := h.1
      cases o with
      | none =>
        right
        simp only at h0
        split at h0
        · rename_i b hb
          exact ⟨b, hb, fun _ => h0, fun a' e => by simp at e⟩
        · exact h0.elim
      | some a' =>
        by_cases hd : a' = .dead
        · subst hd; left; rfl
        · right
          split at h0
          · rename_i e; cases e; exact absurd rfl hd
          · rename_i e; cases e
          · rename_i a'' _ e
            cases e
            split at h0
            · rename_i b hb
              exact ⟨b, hb, fun e => by simp at e, fun a2 e => by simp at e; subst e; exact h0⟩
            · exact h0.elim
    | succ j =>
      have := memM_get (by simp only [memM] at h; exact h.2) j a (by simpa using ha)
      rw [show i + (j + 1) = i + 1 + j by omega]
      simpa using this
end Go.Vc
set_option linter.unusedVariables false
set_option linter.unusedSimpArgs false
namespace Go.Vc
open Go Go.RowKit
theorem mputs_mapp : ∀ (a b me : Mem), mputs (mapp a b) me = mputs a (mputs b me)
  | [], b, me => rfl
  | p :: r, b, me => by simp only [mapp, mputs, mputs_mapp r b me]
section
variable {P : Program} {m : Hd} {w : World} {me : Mem} {kb : Nat}
theorem ret_okH {E : Env} {m1 mc : Hd} {w1 : World} {N : AV → Bool} {s : AS} {ps : List PR} {vs : List Value} {rs : List NewRow} {nk : Nat} {us ks : List Nat} {B : Mem} (hb : Base m w me kb) (h3 : StM E s.me nk m1 w1) (hE0 : E.w0 = w)
    (hr : RetR m1 mc w1 true N s ps vs rs us) (hn : nRows ps ≤ 8)
    (hkl : ∀ k ∈ ks, ∃ ab, mlook me k = some ab ∧ ab.live = true) (hWk : ∀ b ∈ E.W, ∃ k ∈ ks, ∃ v, m k = some v ∧ blk v = some b)
    (hWj : ∀ b ∈ E.W, (∃ j v ab, j ∈ us ∧ m1 j = some v ∧ blk v = some b ∧ mlook s.me j = some ab ∧ ab.live = true) ∨ ∃ k v, k ∈ ks ∧ m k = some v ∧ blk v = some b ∧ mlook (mputs B me) k = some .dead)
    (hmc : ∀ k v, mc k = some v → m k = some v) (hmcs : ∀ b, Stable mc w1 b → Stable m w b ∨ (m1.pub b ∧ m.ok b) ∨ (w.heap.size ≤ b ∧ ∀ u v, m1 u = some v → blk v ≠ some b)) (hpbW : ∀ b, m1.pub b → m.pub b ∨ (∃ k v, k ∈ ks ∧ m k = some v ∧ blk v = some b ∧ ∀ ab, mlook (mputs B me) k = some ab → ab.live = true → False) ∨ w.heap.size ≤ b) (hpbm : ∀ b, m.pub b → m1.pub b)
    (hB1 : ∀ t ab, mlook (mputs B me) t = some ab → t ∈ ks → ABR mc w1 t ab) (hB2 : ∀ t, t ∉ ks → mlook (mputs B me) t = mlook me t) :
    ∃ m', OkE m w me kb (tupAV (outs kb ps)) (mapp (newRows kb ps) B) (if h : vs.toArray.size = 1 then vs.toArray[0] else .tuple vs.toArray) m' w1 := by
  have hlen := hr.len
  obtain ⟨hall, hpw⟩ := hr.all
  have hsz : w.heap.size ≤ w1.heap.size := hE0 ▸ h3.fr.size
  have hblk : ∀ b, b < w.heap.size → b ∉ E.W → w1.heap[b]? = w.heap[b]? := fun b h1 h2 => by have := h3.fr.block b (by rw [hE0]; exact h1) h2; rw [hE0] at this; exact this
  have hnew : ∀ r ∈ rs, ∀ b, blk r.2.1 = some b → (w.heap.size ≤ b ∨ ∃ k v, k ∈ ks ∧ m k = some v ∧ blk v = some b ∧ mlook (mputs B me) k = some .dead) ∧ ∃ u ab, r.1 = some u ∧ m1 u = some r.2.1 ∧ mlook s.me u = some ab ∧ ab.live = true := by
    intro r hr b hbk
    rcases (hall r hr).key with ⟨_, ad, h2⟩ | ⟨u, ab, h1, hus, h2, h4, h5⟩
    · rw [h2, blk_slice0] at hbk; cases hbk
    · rcases h3.fr.own u _ b h2 hbk with h6 | h6
      · rw [hE0] at h6; exact ⟨.inl h6, u, ab, h1, h2, h4, h5⟩
      · rcases hWj b h6 with ⟨j, v, ab', k1, k2, k3, k4, k5⟩ | hd
        · exact absurd k3 (h3.mem.apart u j ab ab' _ v b h4 k4 h5 k5 (fun e => hus (e ▸ k1)) h2 k2 hbk)
        · exact ⟨.inr hd, u, ab, h1, h2, h4, h5⟩
  have tr : Tr m w (mNew m kb m1.pub rs) w1 := by
    refine ⟨fun k v hk => ?_, rfl, hpbm, fun b hp => ?_, hsz, fun b hb' hno => hblk b hb' (fun hm => ?_), fun k v b hk hv => ?_, h3.fr.os.trans (by rw [hE0]), h3.fr.tape.trans (by rw [hE0]), h3.fr.output.trans (by rw [hE0])⟩
    · show (if kb ≤ k ∧ k < kb + rs.length then _ else _) = _
      rw [if_neg]
      · exact hk
      · rintro ⟨h1, h2⟩
        rw [hb.fresh k h1 (by omega)] at hk; cases hk
    · rcases hpbW b hp with h | ⟨k, v, _, h1, h2, _⟩ | h
      · exact .inl h
      · exact .inr (.inl ⟨k, v, h1, h2⟩)
      · exact .inr (.inr h)
    · obtain ⟨k, hkk, v, h1, h2⟩ := hWk b hm
      obtain ⟨ab, h3, h4⟩ := hkl k hkk
      exact hno.elim (hb.mem.live k ab v b h3 h4 h1 h2) (fun hno => hno k v h1 h2)
    · rcases mNew_cases hk with ⟨i, r, rfl, hi, rfl⟩ | ⟨_, hk⟩
      · rcases (hnew r (List.mem_of_getElem? hi) b hv).1 with h | ⟨k', v', _, h1, h2, _⟩
        · exact .inr h
        · exact .inl ⟨k', v', h1, h2⟩
      · exact .inl ⟨k, v, hk, hv⟩
  have hpc : Pres mc w1 (mNew m kb m1.pub rs) w1 := by
    refine ⟨fun k v hk => tr.mu k v (hmc k v hk), fun b hs => ⟨rfl, ?_⟩⟩
    rcases hmcs b hs with h | ⟨h, h2⟩ | ⟨h, h2⟩
    · exact (tr.pres.stab b h).2
    · exact ⟨hs.1, h2, .inl h⟩
    · refine ⟨hs.1, hb.mem.okn b h, .inr fun k v hk hv => ?_⟩
      rcases mNew_cases hk with ⟨i, r, rfl, hi, rfl⟩ | ⟨_, hk0⟩
      · obtain ⟨_, u, _, _, k2, _⟩ := hnew r (List.mem_of_getElem? hi) b hv
        exact h2 u _ k2 hv
      · have := hb.bd k v b hk0 hv; omega
  have hml := fun t => mlook_new (me := mputs B me) ps vs rs us m1 _ _ w1 s kb t hr
  have hold : ∀ t ab, mlook (mputs B me) t = some ab → ab.live = true → ∃ ab0, mlook me t = some ab0 ∧ ab0.live = true := by
    intro t ab h1 h2
    by_cases hk : t ∈ ks
    · exact hkl t hk
    · rw [hB2 t hk] at h1; exact ⟨ab, h1, h2⟩
  refine ⟨mNew m kb m1.pub rs, tr, tupAV_sound (outs_sound (fun b v _ h2 => RV_mono hpc b v h2) ps vs rs us kb hr fun i r hi => mNew_in hi), ?_, fun k hk => ?_, fun k v b hk hv => ?_⟩
  · rw [mputs_mapp]
    refine ⟨fun t ab hab => ?_, fun t t' ab ab' v v' b hab hab' hl hl' hne hv hv' hbk => ?_, h3.mem.pubs, fun t ab v b hab hl hv hbk hp => ?_, fun t ab v b hab hl hv hbk => ?_, fun b h => hb.mem.okn b (Nat.le_trans hsz h)⟩
    · rw [hml] at hab
      split at hab
      · rename_i hin
        cases hq : rs[t - kb]? with
        | none => rw [hq] at hab; cases hab
        | some r =>
          rw [hq] at hab; cases hab
          obtain ⟨T, e, c, n, cs, h1, h2, h4, h5⟩ := (hall r (List.mem_of_getElem? hq)).row
          show ABR _ _ _ r.2.2
          rw [h1]
          have := mNew_in (m := m) (kb := kb) (pb := m1.pub) hq
          rw [show kb + (t - kb) = t by omega] at this
          exact ⟨r.2.1, n, cs, this, h4, RC_mono hpc c cs h5⟩
      · by_cases hk : t ∈ ks
        · exact ABR_keep (hB1 t ab hab hk) (fun v hv => tr.mu t v (hmc t v hv)) (fun _ _ _ _ => rfl) hpc
        · rw [hB2 t hk] at hab
          cases hlv : ab.live with
          | false => cases ab with
            | dead => trivial
            | _ => simp [AB.live] at hlv
          | true =>
            refine ABR_keep (hb.mem.at_ t ab hab) (tr.mu t) (fun v b hv hbk => hblk b (hb.bd t v b hv hbk) (fun hm => ?_)) tr.pres
            obtain ⟨k, hkk, v', g1, g2⟩ := hWk b hm
            obtain ⟨ab0, g3, g4⟩ := hkl k hkk
            exact hb.mem.apart t k ab ab0 v v' b hab g3 hlv g4 (fun e => hk (e ▸ hkk)) hv g1 hbk g2
    · rw [hml] at hab hab'
      rcases mNew_cases hv with ⟨i, r, rfl, hi, rfl⟩ | ⟨ho, hv0⟩ <;> rcases mNew_cases hv' with ⟨j, q, rfl, hj, rfl⟩ | ⟨ho', hv0'⟩
      · obtain ⟨_, u, au, k1, k2, k3, k4⟩ := hnew r (List.mem_of_getElem? hi) b hbk
        intro hbq
        obtain ⟨_, u', au', k1', k2', k3', k4'⟩ := hnew q (List.mem_of_getElem? hj) b hbq
        have hij : i ≠ j := fun e => hne (by rw [e])
        have hu : u ≠ u' := by
          rcases Nat.lt_or_gt_of_ne hij with h | h
          · have := List.pairwise_iff_getElem.1 hpw i j (List.getElem?_eq_some_iff.1 hi).1 (List.getElem?_eq_some_iff.1 hj).1 h
            rw [(List.getElem?_eq_some_iff.1 hi).2, (List.getElem?_eq_some_iff.1 hj).2] at this
            intro e; exact this u k1 (by rw [k1', e])
          · have := List.pairwise_iff_getElem.1 hpw j i (List.getElem?_eq_some_iff.1 hj).1 (List.getElem?_eq_some_iff.1 hi).1 h
            rw [(List.getElem?_eq_some_iff.1 hi).2, (List.getElem?_eq_some_iff.1 hj).2] at this
            intro e; exact this u' k1' (by rw [k1, e])
        exact h3.mem.apart u u' au au' _ _ b k3 k3' k4 k4' hu k2 k2' hbk hbq
      · have h1 := (hnew r (List.mem_of_getElem? hi) b hbk).1
        intro hbq
        have h2 := hb.bd t' v' b hv0' hbq
        rcases h1 with h1 | ⟨k, vk, g1, g2, g3, g4⟩
        · omega
        · rw [if_neg ho'] at hab'
          obtain ⟨a0', q1, q2⟩ := hold t' ab' hab' hl'
          obtain ⟨a0, q3, q4⟩ := hkl k g1
          refine hb.mem.apart k t' a0 a0' vk v' b q3 q1 q4 q2 (fun e => ?_) g2 hv0' g3 hbq
          subst e
          rw [g4] at hab'; cases hab'; cases hl'
      · intro hbq
        have h1 := (hnew q (List.mem_of_getElem? hj) b hbq).1
        have h2 := hb.bd t v b hv0 hbk
        rcases h1 with h1 | ⟨k, vk, g1, g2, g3, g4⟩
        · omega
        · rw [if_neg ho] at hab
          obtain ⟨a0', q1, q2⟩ := hold t ab hab hl
          obtain ⟨a0, q3, q4⟩ := hkl k g1
          refine hb.mem.apart k t a0 a0' vk v b q3 q1 q4 q2 (fun e => ?_) g2 hv0 g3 hbk
          subst e
          rw [g4] at hab; cases hab; cases hl
      · rw [if_neg ho] at hab
        rw [if_neg ho'] at hab'
        obtain ⟨a0, g1, g2⟩ := hold t ab hab hl
        obtain ⟨a0', g1', g2'⟩ := hold t' ab' hab' hl'
        exact hb.mem.apart t t' a0 a0' v v' b g1 g1' g2 g2' hne hv0 hv0' hbk
    · rw [hml] at hab
      rcases mNew_cases hv with ⟨i, r, rfl, hi, rfl⟩ | ⟨ho, hv0⟩
      · obtain ⟨_, u, au, k1, k2, k3, k4⟩ := hnew r (List.mem_of_getElem? hi) b hbk
        exact h3.mem.live u au _ b k3 k4 k2 hbk hp
      · rw [if_neg ho] at hab
        obtain ⟨ab0, g1, g2⟩ := hold t ab hab hl
        rcases hpbW b hp with h | ⟨k, vk, q1, q2, q3, q4⟩ | h
        · exact hb.mem.live t ab0 v b g1 g2 hv0 hbk h
        · obtain ⟨a0, p1, p2⟩ := hkl k q1
          by_cases e : k = t
          · subst e; exact q4 ab hab hl
          · exact hb.mem.apart k t a0 ab0 vk v b p1 g1 p2 g2 e q2 hv0 q3 hbk
        · have := hb.bd t v b hv0 hbk; omega
    · rw [hml] at hab
      rcases mNew_cases hv with ⟨i, r, rfl, hi, rfl⟩ | ⟨ho, hv0⟩
      · rcases (hnew r (List.mem_of_getElem? hi) b hbk).1 with h | ⟨k, vk, q1, q2, q3, _⟩
        · exact hb.mem.okn b h
        · obtain ⟨a0, p1, p2⟩ := hkl k q1
          exact hb.mem.okl k a0 vk b p1 p2 q2 q3
      · rw [if_neg ho] at hab
        obtain ⟨ab0, g1, g2⟩ := hold t ab hab hl
        exact hb.mem.okl t ab0 v b g1 g2 hv0 hbk
  · cases hq : (mNew m kb m1.pub rs) k with
    | none => exact absurd hq hk
    | some v =>
      rcases mNew_cases hq with ⟨i, r, rfl, hi, rfl⟩ | ⟨_, hv⟩
      · have := (List.getElem?_eq_some_iff.1 hi).1
        exact .inr ⟨by omega, by omega⟩
      · exact .inl (by rw [hv]; simp)
  · rcases mNew_cases hk with ⟨i, r, rfl, hi, rfl⟩ | ⟨_, hk⟩
    · obtain ⟨_, u, _, _, k2, _⟩ := hnew r (List.mem_of_getElem? hi) b hv
      exact h3.bd u _ b k2 hv
    · exact Nat.lt_of_lt_of_le (hb.bd k v b hk hv) hsz

/-- results under the caller's names -/
theorem retMH_sound {m2 : Hd} {w1 : World} {s : AS} {rid r2 : Ren} {f : Nat → Option Nat} (hf : sameAll r2 f) (hm : MemR m2 w1 s.me) : ∀ (l : List AV) (ps ps' : List PR) (us : List Nat) (vs : List Value), retMH rid s l ps us → rnPRs f ps = some ps' → RVs m2 w1 l vs →
    ∃ rs, RetR m2 (hrens (hrens m2 rid) r2) w1 true (fun _ => true) s ps' vs rs us
  | [], [], ps', us, vs, h, hp, hv => by
    simp only [rnPRs, Option.some.injEq] at hp; subst hp
    simp only [RVs] at hv; subst hv; exact ⟨[], .nil us⟩
  | a :: r, .val b :: ps, ps', us, vs, h, hp, hv => by
    simp only [RVs] at hv
    obtain ⟨v, q, rfl, h1, h2⟩ := hv
    simp only [retMH] at h
    simp only [rnPRs] at hp
    split at hp
    · rename_i b' l' hb hl
      cases hp
      obtain ⟨rs, hr⟩ := retMH_sound hf hm r ps l' us q h.2 hl h2
      obtain ⟨g1, g2⟩ := rn_le hf b b' hb
      have hbu : b ≠ .u := fun e => by subst e; simp [rnAV] at hb
      exact ⟨rs, .val b' v l' q rs us rfl (RV_leG .hrens b b' v g1 g2 (avLeM_soundG .hrens hm h.1 hbu h1)) hr⟩
    · cases hp
  | a :: r, .row T e c :: ps, ps', us, vs, h, hp, hv => by
    simp only [RVs] at hv
    obtain ⟨v, q, rfl, h1, h2⟩ := hv
    simp only [retMH] at h
    simp only [rnPRs] at hp
    split at hp
    · rename_i l' hnn hl
      cases hp
      split at h
      · rename_i hn
        split at h
        · rename_i k
          split at h
          · exact h.elim
          · rename_i hus
            split at h
            · rename_i T' e' c' hl2
              obtain ⟨⟨e1, e2, h3⟩, h4⟩ := h
              have e1 := beq_nat e1; have e2 := beq_nat e2; subst e1; subst e2
              obtain ⟨rs, hr⟩ := retMH_sound hf hm r ps l' (k :: us) q h4 hl h2
              obtain ⟨v', n, cs, g1, g2, g3⟩ := hm.at_ k _ hl2
              simp only [RV, CR] at h1
              obtain ⟨v'', g4, g5, _⟩ := h1
              simp only [List.cons.injEq, and_true] at g5
              subst g5
              rw [g1] at g4; cases g4
              exact ⟨_, .row _ _ c (some k, v, .row T' e' c) l' q rs us (k :: us) rfl ⟨⟨T', e', c, n, cs, rfl, hn, g2, RC_leG .hrens c c cs (nkc_le r2 c hn) (RC_leG .hrens c' c cs h3 g3)⟩, .inr ⟨k, _, rfl, lmem_spec hus, g1, hl2, rfl⟩⟩
                (fun u hu => by cases hu; simp) (fun u hu => by simp [hu]) hr⟩
            · exact h.elim
        · obtain ⟨h3, h4⟩ := h
          obtain ⟨rs, hr⟩ := retMH_sound hf hm r ps l' us q h4 hl h2
          simp only [RV, CR, List.cons.injEq, and_true] at h1
          subst h1
          exact ⟨_, .row T e c (none, .slice none 0 0, .row T e c) l' q rs us us rfl ⟨⟨T, e, c, 0, [], rfl, hn, ⟨by simp, .inl ⟨none, rfl, rfl⟩⟩, acNil_RC h3⟩, .inl ⟨rfl, none, rfl⟩⟩
            (fun u hu => by cases hu) (fun u hu => hu) hr⟩
        · obtain ⟨h3, h4⟩ := h
          obtain ⟨rs, hr⟩ := retMH_sound hf hm r ps l' us q h4 hl h2
          simp only [RV, CR, List.cons.injEq, and_true] at h1
          obtain ⟨ad, h1⟩ := h1
          subst h1
          exact ⟨_, .row T e c (none, .slice ad 0 0, .row T e c) l' q rs us us rfl ⟨⟨T, e, c, 0, [], rfl, hn, ⟨by simp, .inl ⟨ad, rfl, rfl⟩⟩, acNil_RC h3⟩, .inl ⟨rfl, ad, rfl⟩⟩
            (fun u hu => by cases hu) (fun u hu => hu) hr⟩
        · exact h.elim
      · exact h.elim
    · cases hp
  | [], _ :: _, ps', us, vs, h, hp, hv => by simp [retMH] at h
  | _ :: _, [], ps', us, vs, h, hp, hv => by simp [retMH] at h
end
end Go.Vc
set_option linter.unusedVariables false
set_option linter.unusedSimpArgs false
namespace Go.Vc
open Go Go.RowKit
section
variable {P : Program} {m : Hd} {w : World} {me : Mem} {kb : Nat}
theorem ABR_live {k : Nat} {ab : AB} (h : ABR m w k ab) (hl : ab.live = true) : ∃ v, m k = some v := by
  cases ab with
  | dead => simp [AB.live] at hl
  | bk T s => obtain ⟨g, _, _, h1, _⟩ := h; exact ⟨_, h1⟩
  | row T e c => obtain ⟨v, _, _, h1, _⟩ := h; exact ⟨v, h1⟩
  | mp T kk vs M => obtain ⟨r, _, h1, _⟩ := h; exact ⟨_, h1⟩
  | it k a b c => obtain ⟨r, _, h1, _⟩ := h; exact ⟨_, h1⟩
/-- a function that is handed what the caller owns: from the conditions of its code, its contract -/
theorem h_sound {x : Cx} (hx : XOK P x) (hmx : P.follows .mixedOrders = true) {f : Nat} {fn : Func} {body : Code} (hf : P.funcs[f]? = some fn) (hbd : fn.body = some body) (hnt : fn.ntmps = x.nt) (hdr : drawsOk x.tt x.dr body = true)
    {n : Nat} (hn64 : n ≤ 64) (hpin : ∀ j, j < n → j ∈ x.pin) {g : HLaw}
    (h : ∀ l mm c rs ch, g l mm = some (c, rs, ch) → mm.length = n → c → llen l ≤ x.nt ∧ ∃ an cu, vc real x an cu body ⟨zipSl 0 l, zipMe 0 mm, 64⟩ (retHOk real x.tt fn.results.toList mm rs ch)) : SpecOK P f (hSpec n g) := by
  intro m w me kb args vals e hgi hb hv he hc
  unfold hSpec at he
  obtain ⟨ks, abs, hnd, hal, habs, he⟩ := gather_sound 40 (keysL args []) 0 [] (keysL_nodup args [] List.nodup_nil).1 rfl (fun j ab hj => by simp at hj) (Nat.zero_le _) he
  split at he
  · rename_i l mm hl hmm
    split at he
    · rename_i c rs ch hg
      split at he
      · rename_i rs' ch' hrs hch
        split at he
        · rename_i hle hil hsl
          simp only [Look.run, Option.some.injEq] at he
          subst he
          have hkn := isLen_spec hil
          obtain ⟨hml, hcl⟩ := sameLen_spec hsl
          obtain ⟨hlen, an, cu, hvc⟩ := h l mm c rs ch hg (by omega) hc
          rw [llen_eq] at hlen
          obtain ⟨_, hget⟩ := rnABs_get hmm
          obtain ⟨hcl2, hcget⟩ := rnOpts_get hch
          -- the callee's names
          let okS : Nat → Prop := fun b => Stable m w b ∨ w.heap.size ≤ b ∨ ∃ k v, k ∈ ks ∧ m k = some v ∧ blk v = some b
          let mS : Hd := ⟨m.mu, okS, m.pub⟩
          have hpS : Pres m w mS w := ⟨fun _ _ h => h, fun b hb => ⟨rfl, hb.1, .inl hb, hb.2.2⟩⟩
          let m1 : Hd := hren mS (ren1 0 ks)
          have hm1 : ∀ j, m1 j = (match ks[j]? with
            | some k => m k
            | none => none) := by
            intro j
            show (hren mS (ren1 0 ks)) j = _
            rw [hren_apply, ren1_look]
            simp only [Nat.zero_le, if_true, Nat.sub_zero]
            cases hq : ks[j]? with
            | none => rfl
            | some k => rfl
          have hv1 : RVs m1 w l vals := RVs_le args l vals (rnl_le (same1 ks) args l hl) (RVs_mono hpS args vals hv)
          have hent : ∀ (j : Nat) ab, mm[j]? = some ab → ∃ k ab0 v, ks[j]? = some k ∧ mlook me k = some ab0 ∧ rnAB (fun k => idxOf k 0 ks) ab0 = some ab ∧ ab0.live = true ∧ m k = some v := by
            intro j ab hj
            obtain ⟨ab0, h1, h2⟩ := hget j ab hj
            obtain ⟨k, h3, h4⟩ := habs j ab0 h1
            obtain ⟨_, h5, _⟩ := rnb_le (same1 ks) ab0 ab h2
            obtain ⟨v, h6⟩ := ABR_live (hb.mem.at_ k ab0 h4) h5
            exact ⟨k, ab0, v, h3, h4, h2, h5, h6⟩
          have hme : MemR m1 w (zipMe 0 mm) := by
            refine ⟨fun j ab hj => ?_, fun j j' ab ab' v v' b hj hj' _ _ hne hv hv' hbk => ?_, fun b hp => hb.mem.pubs b hp, fun j ab v b hj _ hv hbk => ?_, fun j ab v b hj _ hv hbk => ?_, fun b h => .inr (.inl h)⟩
            · rw [zipMe_look] at hj
              simp only [Nat.zero_le, if_true, Nat.sub_zero] at hj
              obtain ⟨k, ab0, v, h1, h2, h3, h4, h5⟩ := hent j ab hj
              refine ABR_le (r := ren1 0 ks) (k := j) (o := k) (by rw [ren1_look]; simp [h1]) (rnb_le (same1 ks) ab0 ab h3).1 ?_
              exact ABR_keep (hb.mem.at_ k ab0 h2) (fun _ h => h) (fun _ _ _ _ => rfl) hpS
            · rw [zipMe_look] at hj hj'
              simp only [Nat.zero_le, if_true, Nat.sub_zero] at hj hj'
              obtain ⟨k, ab0, v0, h1, h2, h3, h4, h5⟩ := hent j ab hj
              obtain ⟨k', ab0', v0', h1', h2', h3', h4', h5'⟩ := hent j' ab' hj'
              rw [hm1, h1] at hv
              rw [hm1, h1'] at hv'
              refine hb.mem.apart k k' ab0 ab0' v v' b h2 h2' h4 h4' (fun e => ?_) hv hv' hbk
              subst e
              have e1 := idxOf_of ks 0 k j hnd h1
              have e2 := idxOf_of ks 0 k j' hnd h1'
              rw [e1] at e2
              simp at e2
              exact hne e2
            · rw [zipMe_look] at hj
              simp only [Nat.zero_le, if_true, Nat.sub_zero] at hj
              obtain ⟨k, ab0, v0, h1, h2, h3, h4, h5⟩ := hent j ab hj
              rw [hm1, h1] at hv
              exact hb.mem.live k ab0 v b h2 h4 hv hbk
            · rw [zipMe_look] at hj
              simp only [Nat.zero_le, if_true, Nat.sub_zero] at hj
              obtain ⟨k, ab0, v0, h1, h2, h3, h4, h5⟩ := hent j ab hj
              rw [hm1, h1] at hv
              exact .inr (.inr ⟨k, v, List.mem_of_getElem? h1, hv, hbk⟩)
          have hbd1 : Bd m1 w := by
            intro j v b hj hbk
            rw [hm1] at hj
            split at hj
            · exact hb.bd _ v b hj hbk
            · cases hj
          let E : Env := ⟨w, (List.range n).filterMap (fun j => (m1 j).bind blk), okS, none, (List.range n).filterMap fun j => (m1 j).map fun v => (j, v), m.pub⟩
          have hlk : ∀ j, n ≤ j → m1 j = none := by
            intro j hj
            rw [hm1, List.getElem?_eq_none (by omega)]
          have hvl := RVs_length hv1
          have hr : StR E x.nt ⟨zipSl 0 l, zipMe 0 mm, 64⟩ m1 { tmps := vals.toArray ++ Array.replicate (fn.ntmps - vals.toArray.size) undef, defers := [] } w := by
            refine ⟨entry_sl hv1 _, hme, hbd1, fun k hk => hlk k (by have : 64 ≤ k := hk; omega), by simp; omega, rfl, ⟨rfl, rfl, rfl, Nat.le_refl _, rfl, fun _ _ _ => rfl, fun j v b hj hbk => .inr ?_, fun m0 w1 he => (by cases he), fun j v hj => ?_, fun b h _ _ => h, fun b h => h⟩⟩
            · show b ∈ (List.range n).filterMap _
              rw [List.mem_filterMap]
              refine ⟨j, ?_, by rw [hj]; exact hbk⟩
              rw [List.mem_range]
              by_cases h : j < n
              · exact h
              · rw [hlk j (by omega)] at hj; cases hj
            · have hj' : (j, v) ∈ (List.range n).filterMap fun j => (m1 j).map fun v => (j, v) := hj
              rw [List.mem_filterMap] at hj'
              obtain ⟨i, hi0, hi⟩ := hj'
              cases hq : m1 i with
              | none => rw [hq] at hi; cases hi
              | some u => rw [hq] at hi; cases hi; exact hq
          have hE : GE P E := hgi.ge rfl (fun b h => .inl h) (fun b h hb2 => by
            have hb3 : b ∈ (List.range n).filterMap (fun j => (m1 j).bind blk) := hb2
            rw [List.mem_filterMap] at hb3
            obtain ⟨j, hj, hj2⟩ := hb3
            rw [List.mem_range] at hj
            obtain ⟨ab, hab⟩ : ∃ ab, mm[j]? = some ab := ⟨_, List.getElem?_eq_getElem (by omega)⟩
            obtain ⟨k, ab0, v, g1, g2, g3, g4, g5⟩ := hent j ab hab
            have h6 : m1 j = some v := by rw [hm1, g1]; exact g5
            rw [h6] at hj2
            rcases h.2.2 with h7 | h7
            · exact hb.mem.live k ab0 v b g2 g4 g5 hj2 h7
            · exact h7 k v g5 hj2)
          have hpE : ∀ j v, (j, v) ∈ E.pin → j ∈ x.pin := by
            intro j v hj
            have hj' : (j, v) ∈ (List.range n).filterMap fun j => (m1 j).map fun v => (j, v) := hj
            rw [List.mem_filterMap] at hj'
            obtain ⟨i, hi, hi2⟩ := hj'
            rw [List.mem_range] at hi
            cases hq : m1 i with
            | none => rw [hq] at hi2; cases hi2
            | some u => rw [hq] at hi2; cases hi2; exact hpin _ hi
          refine calls_of_wp hf hbd (code_mono (vc_sound hx hE hpE (.inl rfl) hmx body _ _ hdr hvc _ _ w hr) ?_)
          intro en a w' hp
          refine ends_sound hx.tt (fun avs vs s' m2 w2 k1 k2 k3 => ?_) hp
          obtain ⟨k2, kmem⟩ := k2
          obtain ⟨rws, hrr⟩ := retMH_sound (same2 hnd) k3.mem avs rs rs' _ vs k2 hrs k1
          have hpinned : ∀ (j : Nat) v, j < n → m1 j = some v → m2 j = some v := by
            intro j v hj h1
            refine k3.fr.pin j v ?_
            show (j, v) ∈ (List.range n).filterMap _
            rw [List.mem_filterMap]
            exact ⟨j, by rw [List.mem_range]; exact hj, by rw [h1]; rfl⟩
          have hks : ∀ k j, ks[j]? = some k → ∃ ab0 v, mlook me k = some ab0 ∧ ab0.live = true ∧ m k = some v ∧ m1 j = some v ∧ m2 j = some v ∧ j < n := by
            intro k j hj
            have hjn := (List.getElem?_eq_some_iff.1 hj).1
            obtain ⟨ab, hab⟩ : ∃ ab, mm[j]? = some ab := ⟨_, List.getElem?_eq_getElem (by omega)⟩
            obtain ⟨k', ab0, v, h1, h2, _, h4, h5⟩ := hent j ab hab
            rw [hj] at h1; cases h1
            have h6 : m1 j = some v := by rw [hm1, hj]; exact h5
            exact ⟨ab0, v, h2, h4, h5, h6, hpinned j v (by omega) h6, by omega⟩
          have hmc : ∀ k v, (hrens (hrens m2 (ridOf 0 mm)) (ren2 0 ks)) k = some v → ∃ j, ks[j]? = some k ∧ m2 j = some v := by
            intro k v hk
            have hk : (hren (hren m2 (ridOf 0 mm)) (ren2 0 ks)) k = some v := hk
            rw [hren_apply, ren2_look] at hk
            cases hq : idxOf k 0 ks with
            | none => rw [hq] at hk; simp at hk
            | some j =>
              rw [hq] at hk
              simp only [Option.map_some] at hk
              rw [hren_apply, ridOf_look] at hk
              have h1 := (idxOf_get ks 0 k j hq).2
              simp only [Nat.sub_zero] at h1
              have h2 := (List.getElem?_eq_some_iff.1 h1).1
              rw [if_pos ⟨by omega, by omega⟩] at hk
              exact ⟨j, h1, hk⟩
          have hdead : ∀ (j : Nat), ch[j]? = some (some AB.dead) → ch'[j]? = some (some AB.dead) := by
            intro j hq
            cases hq3 : ch'[j]? with
            | none =>
              have h1 := List.getElem?_eq_none_iff.1 hq3
              have h2 := (List.getElem?_eq_some_iff.1 hq).1
              omega
            | some o' => cases o' with
              | none => have := (hcget j).1 hq3; rw [hq] at this; cases this
              | some y =>
                obtain ⟨x', hx1, hx2⟩ := (hcget j).2 y hq3
                rw [hq] at hx1; cases hx1
                simp only [rnABd, Option.some.injEq] at hx2
                rw [hx2]
          refine ⟨_, rfl, ?_⟩
          have hnames : ∀ b, (∃ k v, k ∈ ks ∧ m k = some v ∧ blk v = some b) → ∃ k j v ab0, ks[j]? = some k ∧ m k = some v ∧ blk v = some b ∧ m2 j = some v ∧ mlook me k = some ab0 ∧ ab0.live = true ∧ j < n := by
            rintro b ⟨k, v, hk, h1, h2⟩
            obtain ⟨j, hj⟩ := List.getElem?_of_mem hk
            obtain ⟨ab0, v', q1, q2, q3, q4, q5, q6⟩ := hks k j hj
            rw [q3] at h1; cases h1
            exact ⟨k, j, v, ab0, hj, q3, h2, q5, q1, q2, q6⟩
          have hWn : ∀ b, b ∈ E.W → ∃ k v, k ∈ ks ∧ m k = some v ∧ blk v = some b := by
            intro b hbW
            have hbW' : b ∈ (List.range n).filterMap (fun j => (m1 j).bind blk) := hbW
            rw [List.mem_filterMap] at hbW'
            obtain ⟨j, hj, hj2⟩ := hbW'
            rw [List.mem_range] at hj
            obtain ⟨k, hk⟩ : ∃ k, ks[j]? = some k := ⟨_, List.getElem?_eq_getElem (by omega)⟩
            obtain ⟨ab0, v, h1, h2, h4, h5, _⟩ := hks k j hk
            rw [h5] at hj2
            exact ⟨k, v, List.mem_of_getElem? hk, h4, hj2⟩
          refine ret_okH (ks := ks) (E := E) hb k3 rfl hrr (Nat.le_of_ble_eq_true hle) (fun k hk => ?_) (fun b hbW => ?_) (fun b hbW => ?_) (fun k v hk => ?_) (fun b hs => ?_) (fun b hp => ?_) (fun b hp => k3.fr.pubm b hp) (fun t ab hab htk => ?_) (fun t htk => ?_)
          · obtain ⟨j, hj⟩ := List.getElem?_of_mem hk
            obtain ⟨ab0, v, h1, h2, _⟩ := hks k j hj
            exact ⟨ab0, h1, h2⟩
          · have hbW' : b ∈ (List.range n).filterMap (fun j => (m1 j).bind blk) := hbW
            rw [List.mem_filterMap] at hbW'
            obtain ⟨j, hj, hj2⟩ := hbW'
            rw [List.mem_range] at hj
            obtain ⟨k, hk⟩ : ∃ k, ks[j]? = some k := ⟨_, List.getElem?_eq_getElem (by omega)⟩
            obtain ⟨ab0, v, h1, h2, h4, h5, _⟩ := hks k j hk
            rw [h5] at hj2
            exact ⟨k, List.mem_of_getElem? hk, v, h4, hj2⟩
          · have hbW' : b ∈ (List.range n).filterMap (fun j => (m1 j).bind blk) := hbW
            rw [List.mem_filterMap] at hbW'
            obtain ⟨j, hj, hj2⟩ := hbW'
            rw [List.mem_range] at hj
            obtain ⟨k, hk⟩ : ∃ k, ks[j]? = some k := ⟨_, List.getElem?_eq_getElem (by omega)⟩
            obtain ⟨ab0, v, h1, h2, h4, h5, h6, _⟩ := hks k j hk
            rw [h5] at hj2
            obtain ⟨ab, hab⟩ : ∃ ab, mm[j]? = some ab := ⟨_, List.getElem?_eq_getElem (by omega)⟩
            have hab_live : ab.live = true := by
              obtain ⟨_, ab1, _, _, _, q3, _, _⟩ := hent j ab hab
              exact (rnb_le (same1 ks) ab1 ab q3).2.2
            have right : ch[j]? = some (some AB.dead) → ∃ k v, k ∈ ks ∧ m k = some v ∧ blk v = some b ∧ mlook (mputs (chg ks ch') me) k = some .dead := fun hq => by
              refine ⟨k, v, List.mem_of_getElem? hk, h4, hj2, ?_⟩
              rw [mlook_mputs, chg_look ks ch' k hnd (by omega), idxOf_of ks 0 k j hnd hk, Nat.zero_add]
              simp only [hdead j hq]
            rcases memM_get kmem j ab hab with hdd | ⟨b2, g1, g2, g3⟩
            · exact .inr (right hdd)
            · rw [Nat.zero_add] at g1
              cases hq : ch[j]? with
              | none => have := List.getElem?_eq_none_iff.1 hq; omega
              | some o =>
                cases o with
                | none => exact .inl ⟨j, v, b2, (by have := uptoL_mem (i := 0) hq (by simp); rwa [Nat.zero_add] at this), h6, hj2, g1, abLe_live (g2 hq) hab_live⟩
                | some a' =>
                  by_cases hd : a' = .dead
                  · subst hd; exact .inr (right hq)
                  · have hq2 : ∃ y, ch'[j]? = some (some y) := by
                      cases hq3 : ch'[j]? with
                      | none => have := List.getElem?_eq_none_iff.1 hq3; omega
                      | some o' => cases o' with
                        | none => have := (hcget j).1 hq3; rw [hq] at this; cases this
                        | some y => exact ⟨y, rfl⟩
                    obtain ⟨y, hy⟩ := hq2
                    obtain ⟨x', hx1, hx2⟩ := (hcget j).2 y hy
                    rw [hq] at hx1; cases hx1
                    have hx2 : rnAB (nth ks) a' = some y := by cases a' <;> first | exact absurd rfl hd | exact hx2
                    exact .inl ⟨j, v, b2, (by have := uptoL_mem (i := 0) hq (by simpa using hd); rwa [Nat.zero_add] at this), h6, hj2, g1, abLe_live (g3 a' hq) (rnb_le (same2 hnd) a' y hx2).2.1⟩
          · obtain ⟨j, hj, hj2⟩ := hmc k v hk
            obtain ⟨_, v0, _, _, h4, _, h6, _⟩ := hks k j hj
            rw [h6] at hj2; cases hj2; exact h4
          · have hok2 : m2.ok b ∧ (m2.pub b ∨ ∀ k v, m2 k = some v → blk v ≠ some b) := hs.2.1.1
            have hok3 : okS b := by
              have := hok2.1
              rw [k3.fr.ok] at this
              exact this
            rcases hok2.2 with hp | hno
            · refine .inr (.inl ⟨hp, ?_⟩)
              rcases hok3 with h | h | h
              · exact h.2.1
              · exact hb.mem.okn b h
              · obtain ⟨k, j, v, ab0, _, q2, q3, _, q5, q6, _⟩ := hnames b h
                exact hb.mem.okl k ab0 v b q5 q6 q2 q3
            · rcases hok3 with h | h | h
              · exact .inl h
              · exact .inr (.inr ⟨h, hno⟩)
              · obtain ⟨k, j, v, ab0, _, q2, q3, q4, _⟩ := hnames b h
                exact absurd q3 (hno j v q4)
          · by_cases hsz : b < w.heap.size
            · by_cases hbW : b ∈ E.W
              · obtain ⟨k, j, v, ab0, q1, q2, q3, q4, q5, q6, q7⟩ := hnames b (hWn b hbW)
                refine .inr (.inl ⟨k, v, List.mem_of_getElem? q1, q2, q3, fun ab hab hlv => ?_⟩)
                obtain ⟨al, hal2⟩ : ∃ ab, mm[j]? = some ab := ⟨_, List.getElem?_eq_getElem (by omega)⟩
                have hall : al.live = true := by
                  obtain ⟨_, ab1, _, _, _, p3, _, _⟩ := hent j al hal2
                  exact (rnb_le (same1 ks) ab1 al p3).2.2
                rw [mlook_mputs, chg_look ks ch' k hnd (by omega), idxOf_of ks 0 k j hnd q1, Nat.zero_add] at hab
                simp only at hab
                rcases memM_get kmem j al hal2 with hdd | ⟨b2, g1, g2, g3⟩
                · rw [hdead j hdd] at hab
                  simp only [Option.some.injEq] at hab
                  subst hab; cases hlv
                · rw [Nat.zero_add] at g1
                  have hb2 : b2.live = true := by
                    cases hq : ch[j]? with
                    | none => have := List.getElem?_eq_none_iff.1 hq; omega
                    | some o =>
                      cases o with
                      | none => exact abLe_live (g2 hq) hall
                      | some a' =>
                        by_cases hd : a' = .dead
                        · subst hd
                          rw [hdead j hq] at hab
                          simp only [Option.some.injEq] at hab
                          subst hab; cases hlv
                        · cases hq3 : ch'[j]? with
                          | none => have := List.getElem?_eq_none_iff.1 hq3; omega
                          | some o' => cases o' with
                            | none => have := (hcget j).1 hq3; rw [hq] at this; cases this
                            | some y =>
                              obtain ⟨x', hx1, hx2⟩ := (hcget j).2 y hq3
                              rw [hq] at hx1; cases hx1
                              have hx2 : rnAB (nth ks) a' = some y := by cases a' <;> first | exact absurd rfl hd | exact hx2
                              exact abLe_live (g3 a' hq) (rnb_le (same2 hnd) a' y hx2).2.1
                  exact k3.mem.live j b2 v b g1 hb2 q4 q3 hp
              · exact .inl (k3.fr.pub b hp hsz hbW)
            · exact .inr (.inr (by omega))
          · obtain ⟨j, hj⟩ := List.getElem?_of_mem htk
            obtain ⟨ab0, v, h1, h2, h4, h5, h6, hjn⟩ := hks t j hj
            obtain ⟨al, hal2⟩ : ∃ ab, mm[j]? = some ab := ⟨_, List.getElem?_eq_getElem (by omega)⟩
            rcases memM_get kmem j al hal2 with hdd | ⟨b2, g1, g2, g3⟩
            · rw [mlook_mputs, chg_look ks ch' t hnd (by omega), idxOf_of ks 0 t j hnd hj, Nat.zero_add] at hab
              simp only [hdead j hdd, Option.some.injEq] at hab
              subst hab
              trivial
            rw [Nat.zero_add] at g1
            have hr2 : rlook (ren2 0 ks) t = some (some j) := by rw [ren2_look, idxOf_of ks 0 t j hnd hj]; simp
            have hr3 : rlook (ridOf 0 mm) j = some (some j) := by rw [ridOf_look, if_pos ⟨by omega, by omega⟩]
            have hA := k3.mem.at_ j b2 g1
            rw [mlook_mputs, chg_look ks ch' t hnd (by omega), idxOf_of ks 0 t j hnd hj, Nat.zero_add] at hab
            simp only at hab
            cases hq3 : ch'[j]? with
            | none => have := List.getElem?_eq_none_iff.1 hq3; omega
            | some o' => cases o' with
              | none =>
                rw [hq3] at hab
                simp only at hab
                rw [h1] at hab; cases hab
                have hq := (hcget j).1 hq3
                have hA2 := ABR_leG .hrens hr3 (g2 hq) hA
                obtain ⟨k', ab1, v1, q1, q2, q3, q4, q5⟩ := hent j al hal2
                rw [hj] at q1; cases q1
                rw [h1] at q2; cases q2
                refine ABR_leG .hrens (k := t) (o := j) (ab0 := al) hr2 ?_ hA2
                exact (rnb_ge (fun k j hkj => by rw [ren2_look, hkj]; rfl) ab al q3).1
              | some y =>
                rw [hq3] at hab
                simp only [Option.some.injEq] at hab
                subst hab
                obtain ⟨x', hx1, hx2⟩ := (hcget j).2 y hq3
                have hA2 := ABR_leG .hrens hr3 (g3 x' hx1) hA
                by_cases hd : x' = .dead
                · subst hd
                  simp only [rnABd, Option.some.injEq] at hx2
                  subst hx2
                  trivial
                · have hx2 : rnAB (nth ks) x' = some y := by cases x' <;> first | exact absurd rfl hd | exact hx2
                  exact ABR_leG .hrens hr2 (rnb_le (same2 hnd) x' y hx2).1 hA2
          · rw [mlook_mputs, chg_look ks ch' t hnd (by omega)]
            cases hq : idxOf t 0 ks with
            | none => rfl
            | some j =>
              have := (idxOf_get ks 0 t j hq).2
              exact absurd (List.mem_of_getElem? this) htk
        · exact (Look.run_no he).elim
      · exact (Look.run_no he).elim
    · exact (Look.run_no he).elim
  · exact (Look.run_no he).elim
end
end Go.Vc
set_option linter.unusedVariables false
set_option linter.unusedSimpArgs false
namespace Go.Vc
open Go Go.RowKit

/-! ## Contracts that tell new blocks, too: results and memory under the contract's names: 0 .. what was handed, behind these what is new -/
structure GRes where
  c : Prop
  rs : List AV
  ch : List AB
  news : List AB
abbrev GLaw := List AV → List AB → Option GRes
def tgH : Nat → List AB → List (Nat × Nat × AB)
  | _, [] => []
  | i, a :: l => match a with
    | .dead => tgH (Nat.succ i) l
    | a => (0, i, a) :: tgH (Nat.succ i) l
def labs : List AB → List AB → List AB
  | [], b => b
  | a :: l, b => a :: labs l b
def GLeR (s : AS) (l rs : List AV) (t : List (Nat × Nat × AB)) (r : Ren) : Prop :=
  match renOk (keepR t r), lt64 r with
  | true, true => alLe r l rs ∧ meLe r r s.me t
  | _, _ => False
def GLe (pin : List Nat) (s : AS) (l rs : List AV) (t : List (Nat × Nat × AB)) : Prop := GLeR s l rs t (bindM s.me t (bindL l rs (pinI pin)))
def retGOk (F : Fs) (tt : TT) (fr : List ResultVar) (rs : List AV) (ch news : List AB) : VX → AS → Prop :=
  endK F tt fr fun l s => GLe (upto 0 ch) s l rs (tgH 0 (labs ch news))
def rnABds (f : Nat → Option Nat) : List AB → Option (List AB)
  | [] => some []
  | a :: l => match rnABd f a, rnABds f l with
    | some b, some l' => some (b :: l')
    | _, _ => none
def zipKs : List Nat → List AB → Mem
  | k :: ks, a :: l => (k, a) :: zipKs ks l
  | _, _ => []
def isLenB : Nat → List AB → Bool
  | 0, [] => true
  | n + 1, _ :: r => isLenB n r
  | _, _ => false
def gname (n q kb : Nat) (ks : List Nat) (k : Nat) : Option Nat :=
  match Nat.blt k n with
  | true => nth ks k
  | false => match Nat.blt k (n + q) with
    | true => some (kb + (k - n))
    | false => none
def gSpec (n q : Nat) (g : GLaw) : Spec := fun args kb =>
  gather 40 (keysL args []) 0 [] fun ks abs =>
    match rnAL (fun k => idxOf k 0 ks) args, rnABs (fun k => idxOf k 0 ks) abs with
    | some l, some mm => match g l mm with
      | some ⟨c, rs, ch, news⟩ => match rnAL (gname n q kb ks) rs, rnABds (gname n q kb ks) ch, rnABs (gname n q kb ks) news with
        | some rs', some ch', some news' => match isLen n ks, isLenB n ch', isLenB q news', Nat.ble q 8 with
          | true, true, true, true => .ret ⟨c, tupAV rs', mapp (zipMe kb news') (zipKs ks ch')⟩
          | _, _, _, _ => .no
        | _, _, _ => .no
      | none => .no
    | _, _ => .no

theorem labs_eq : ∀ a b : List AB, labs a b = a ++ b
  | [], b => rfl
  | x :: l, b => by simp [labs, labs_eq l b]
theorem isLenB_spec : ∀ {n : Nat} {l : List AB}, isLenB n l = true → l.length = n
  | 0, [], _ => rfl
  | 0, _ :: _, h => by simp [isLenB] at h
  | n + 1, [], h => by simp [isLenB] at h
  | n + 1, _ :: r, h => by simp [isLenB_spec (n := n) (l := r) (by simpa [isLenB] using h)]
theorem rnABds_get {f : Nat → Option Nat} : ∀ {a b : List AB}, rnABds f a = some b → a.length = b.length ∧ ∀ (j : Nat) y, b[j]? = some y → ∃ x, a[j]? = some x ∧ rnABd f x = some y
  | [], b, h => by simp only [rnABds, Option.some.injEq] at h; subst h; simp
  | x :: a, b, h => by
    simp only [rnABds] at h
    split at h
    · rename_i y b' h1 h2
      cases h
      obtain ⟨h3, h4⟩ := rnABds_get h2
      refine ⟨by simp [h3], fun j z hz => ?_⟩
      cases j with
      | zero => simp only [List.getElem?_cons_zero, Option.some.injEq] at hz; subst hz; exact ⟨x, rfl, h1⟩
      | succ j => exact h4 j z (by simpa using hz)
    · cases h
theorem tgH_look : ∀ (l : List AB) (i t : Nat) (ab : AB), i ≤ t → l[t - i]? = some ab → ab.live = true → mlook (tgMem (tgH i l)) t = some ab
  | [], i, t, ab, _, h, _ => by simp at h
  | a :: l, i, t, ab, hi, h, hl => by
    by_cases e : i = t
    · subst e
      simp only [Nat.sub_self, List.getElem?_cons_zero, Option.some.injEq] at h
      subst h
      cases a with
      | dead => simp [AB.live] at hl
      | _ => simp only [tgH, tgMem]; rw [mlook_cons, if_pos rfl]
    · have ih := tgH_look l (i + 1) t ab (by omega) (by rw [show t - i = (t - (i + 1)) + 1 by omega] at h; simpa using h) hl
      cases a with
      | dead => simpa only [tgH] using ih
      | _ => simp only [tgH, tgMem]; rw [mlook_cons, if_neg e]; exact ih
theorem zipKs_look : ∀ (ks : List Nat) (l : List AB) (i k : Nat), l.length = ks.length → mlook (zipKs ks l) k = match idxOf k i ks with
    | some j => l[j - i]?
    | none => none
  | [], l, i, k, h => by cases l <;> simp [zipKs, mlook, idxOf]
  | t :: ks, [], i, k, h => by simp at h
  | t :: ks, a :: l, i, k, h => by
    simp only [zipKs]
    rw [mlook_cons]
    by_cases e : t = k
    · subst e; simp [idxOf]
    · rw [if_neg e, zipKs_look ks l (i + 1) k (by simpa using h)]
      have : idxOf k i (t :: ks) = idxOf k (i + 1) ks := by
        simp only [idxOf]
        split
        · rename_i h; exact absurd (beq_nat h).symm e
        · rfl
      rw [this]
      cases hq : idxOf k (i + 1) ks with
      | none => rfl
      | some j =>
        have := (idxOf_get ks (i + 1) k j hq).1
        simp only
        rw [show j - i = (j - (i + 1)) + 1 by omega]; simp
/-- the caller's names for the contract's: of what is new -/
def renN : Nat → Nat → Nat → Ren
  | _, _, 0 => []
  | kb, n, q + 1 => (kb, some n) :: renN (kb + 1) (n + 1) q
theorem renN_look (R : Ren) : ∀ (q kb n k : Nat), rlook (renN kb n q ++ R) k = if kb ≤ k ∧ k < kb + q then some (some (n + (k - kb))) else rlook R k
  | 0, kb, n, k => by simp [renN]; omega
  | q + 1, kb, n, k => by
    simp only [renN, List.cons_append]
    rw [rlook_cons, renN_look R q (kb + 1) (n + 1) k]
    by_cases e : kb = k
    · subst e; simp
    · rw [if_neg e]
      by_cases h : kb + 1 ≤ k ∧ k < kb + 1 + q
      · rw [if_pos h, if_pos (by omega)]; congr 2; omega
      · rw [if_neg h, if_neg (by omega)]
section
variable {P : Program} {m : Hd} {w : World} {me : Mem} {kb : Nat}
theorem g_sound {x : Cx} (hx : XOK P x) (hmx : P.follows .mixedOrders = true) {f : Nat} {fn : Func} {body : Code} (hf : P.funcs[f]? = some fn) (hbd : fn.body = some body) (hnt : fn.ntmps = x.nt) (hdr : drawsOk x.tt x.dr body = true)
    {n q : Nat} (hn64 : n ≤ 64) (hpin : ∀ j, j < n → j ∈ x.pin) {g : GLaw}
    (h : ∀ l mm c rs ch news, g l mm = some ⟨c, rs, ch, news⟩ → mm.length = n → c → llen l ≤ x.nt ∧ ∃ an cu, vc real x an cu body ⟨zipSl 0 l, zipMe 0 mm, 64⟩ (retGOk real x.tt fn.results.toList rs ch news)) : SpecOK P f (gSpec n q g) := by
  intro m w me kb args vals e hgi hb hv he hc
  unfold gSpec at he
  obtain ⟨ks, abs, hnd, hal, habs, he⟩ := gather_sound 40 (keysL args []) 0 [] (keysL_nodup args [] List.nodup_nil).1 rfl (fun j ab hj => by simp at hj) (Nat.zero_le _) he
  split at he
  · rename_i l mm hl hmm
    split at he
    · rename_i c rs ch news hg
      split at he
      · rename_i rs' ch' news' hrs hch hnw
        split at he
        · rename_i hil hic hin hle
          simp only [Look.run, Option.some.injEq] at he
          subst he
          have hkn := isLen_spec hil
          have hcn := isLenB_spec hic
          have hnn := isLenB_spec hin
          have hq8 : q ≤ 8 := Nat.le_of_ble_eq_true hle
          obtain ⟨hmmlen, hget⟩ := rnABs_get hmm
          have hml : mm.length = ks.length := by omega
          obtain ⟨hlen, an, cu, hvc⟩ := h l mm c rs ch news hg (by omega) hc
          rw [llen_eq] at hlen
          obtain ⟨hcl2, hcget⟩ := rnABds_get hch
          obtain ⟨hnl2, hnget⟩ := rnABs_get hnw
          -- the callee's names
          let okS : Nat → Prop := fun b => Stable m w b ∨ w.heap.size ≤ b ∨ ∃ k v, k ∈ ks ∧ m k = some v ∧ blk v = some b
          let mS : Hd := ⟨m.mu, okS, m.pub⟩
          have hpS : Pres m w mS w := ⟨fun _ _ h => h, fun b hb => ⟨rfl, hb.1, .inl hb, hb.2.2⟩⟩
          let m1 : Hd := hren mS (ren1 0 ks)
          have hm1 : ∀ j, m1 j = (match ks[j]? with
            | some k => m k
            | none => none) := by
            intro j
            show (hren mS (ren1 0 ks)) j = _
            rw [hren_apply, ren1_look]
            simp only [Nat.zero_le, if_true, Nat.sub_zero]
            cases hq : ks[j]? with
            | none => rfl
            | some k => rfl
          have hv1 : RVs m1 w l vals := RVs_le args l vals (rnl_le (same1 ks) args l hl) (RVs_mono hpS args vals hv)
          have hent : ∀ (j : Nat) ab, mm[j]? = some ab → ∃ k ab0 v, ks[j]? = some k ∧ mlook me k = some ab0 ∧ rnAB (fun k => idxOf k 0 ks) ab0 = some ab ∧ ab0.live = true ∧ m k = some v := by
            intro j ab hj
            obtain ⟨ab0, h1, h2⟩ := hget j ab hj
            obtain ⟨k, h3, h4⟩ := habs j ab0 h1
            obtain ⟨_, h5, _⟩ := rnb_le (same1 ks) ab0 ab h2
            obtain ⟨v, h6⟩ := ABR_live (hb.mem.at_ k ab0 h4) h5
            exact ⟨k, ab0, v, h3, h4, h2, h5, h6⟩
          have hme : MemR m1 w (zipMe 0 mm) := by
            refine ⟨fun j ab hj => ?_, fun j j' ab ab' v v' b hj hj' _ _ hne hv hv' hbk => ?_, fun b hp => hb.mem.pubs b hp, fun j ab v b hj _ hv hbk => ?_, fun j ab v b hj _ hv hbk => ?_, fun b h => .inr (.inl h)⟩
            · rw [zipMe_look] at hj
              simp only [Nat.zero_le, if_true, Nat.sub_zero] at hj
              obtain ⟨k, ab0, v, h1, h2, h3, h4, h5⟩ := hent j ab hj
              refine ABR_le (r := ren1 0 ks) (k := j) (o := k) (by rw [ren1_look]; simp [h1]) (rnb_le (same1 ks) ab0 ab h3).1 ?_
              exact ABR_keep (hb.mem.at_ k ab0 h2) (fun _ h => h) (fun _ _ _ _ => rfl) hpS
            · rw [zipMe_look] at hj hj'
              simp only [Nat.zero_le, if_true, Nat.sub_zero] at hj hj'
              obtain ⟨k, ab0, v0, h1, h2, h3, h4, h5⟩ := hent j ab hj
              obtain ⟨k', ab0', v0', h1', h2', h3', h4', h5'⟩ := hent j' ab' hj'
              rw [hm1, h1] at hv
              rw [hm1, h1'] at hv'
              refine hb.mem.apart k k' ab0 ab0' v v' b h2 h2' h4 h4' (fun e => ?_) hv hv' hbk
              subst e
              have e1 := idxOf_of ks 0 k j hnd h1
              have e2 := idxOf_of ks 0 k j' hnd h1'
              rw [e1] at e2
              simp at e2
              exact hne e2
            · rw [zipMe_look] at hj
              simp only [Nat.zero_le, if_true, Nat.sub_zero] at hj
              obtain ⟨k, ab0, v0, h1, h2, h3, h4, h5⟩ := hent j ab hj
              rw [hm1, h1] at hv
              exact hb.mem.live k ab0 v b h2 h4 hv hbk
            · rw [zipMe_look] at hj
              simp only [Nat.zero_le, if_true, Nat.sub_zero] at hj
              obtain ⟨k, ab0, v0, h1, h2, h3, h4, h5⟩ := hent j ab hj
              rw [hm1, h1] at hv
              exact .inr (.inr ⟨k, v, List.mem_of_getElem? h1, hv, hbk⟩)
          have hbd1 : Bd m1 w := by
            intro j v b hj hbk
            rw [hm1] at hj
            split at hj
            · exact hb.bd _ v b hj hbk
            · cases hj
          let E : Env := ⟨w, (List.range n).filterMap (fun j => (m1 j).bind blk), okS, none, (List.range n).filterMap fun j => (m1 j).map fun v => (j, v), m.pub⟩
          have hlk : ∀ j, n ≤ j → m1 j = none := by
            intro j hj
            rw [hm1, List.getElem?_eq_none (by omega)]
          have hvl := RVs_length hv1
          have hr : StR E x.nt ⟨zipSl 0 l, zipMe 0 mm, 64⟩ m1 { tmps := vals.toArray ++ Array.replicate (fn.ntmps - vals.toArray.size) undef, defers := [] } w := by
            refine ⟨entry_sl hv1 _, hme, hbd1, fun k hk => hlk k (by have : 64 ≤ k := hk; omega), by simp; omega, rfl, ⟨rfl, rfl, rfl, Nat.le_refl _, rfl, fun _ _ _ => rfl, fun j v b hj hbk => .inr ?_, fun m0 w1 he => (by cases he), fun j v hj => ?_, fun b h _ _ => h, fun b h => h⟩⟩
            · show b ∈ (List.range n).filterMap _
              rw [List.mem_filterMap]
              refine ⟨j, ?_, by rw [hj]; exact hbk⟩
              rw [List.mem_range]
              by_cases h : j < n
              · exact h
              · rw [hlk j (by omega)] at hj; cases hj
            · have hj' : (j, v) ∈ (List.range n).filterMap fun j => (m1 j).map fun v => (j, v) := hj
              rw [List.mem_filterMap] at hj'
              obtain ⟨i, hi0, hi⟩ := hj'
              cases hq : m1 i with
              | none => rw [hq] at hi; cases hi
              | some u => rw [hq] at hi; cases hi; exact hq
          have hE : GE P E := hgi.ge rfl (fun b h => .inl h) (fun b h hb2 => by
            have hb3 : b ∈ (List.range n).filterMap (fun j => (m1 j).bind blk) := hb2
            rw [List.mem_filterMap] at hb3
            obtain ⟨j, hj, hj2⟩ := hb3
            rw [List.mem_range] at hj
            obtain ⟨ab, hab⟩ : ∃ ab, mm[j]? = some ab := ⟨_, List.getElem?_eq_getElem (by omega)⟩
            obtain ⟨k, ab0, v, g1, g2, g3, g4, g5⟩ := hent j ab hab
            have h6 : m1 j = some v := by rw [hm1, g1]; exact g5
            rw [h6] at hj2
            rcases h.2.2 with h7 | h7
            · exact hb.mem.live k ab0 v b g2 g4 g5 hj2 h7
            · exact h7 k v g5 hj2)
          have hpE : ∀ j v, (j, v) ∈ E.pin → j ∈ x.pin := by
            intro j v hj
            have hj' : (j, v) ∈ (List.range n).filterMap fun j => (m1 j).map fun v => (j, v) := hj
            rw [List.mem_filterMap] at hj'
            obtain ⟨i, hi, hi2⟩ := hj'
            rw [List.mem_range] at hi
            cases hq : m1 i with
            | none => rw [hq] at hi2; cases hi2
            | some u => rw [hq] at hi2; cases hi2; exact hpin _ hi
          refine calls_of_wp hf hbd (code_mono (vc_sound hx hE hpE (.inl rfl) hmx body _ _ hdr hvc _ _ w hr) ?_)
          intro en a w' hp
          refine ends_sound hx.tt (fun avs vs s' m2 w2 k1 k2 k3 => ?_) hp
          clear hp
          have hpinned : ∀ (j : Nat) v, j < n → m1 j = some v → m2 j = some v := by
            intro j v hj h1
            refine k3.fr.pin j v ?_
            show (j, v) ∈ (List.range n).filterMap _
            rw [List.mem_filterMap]
            exact ⟨j, by rw [List.mem_range]; exact hj, by rw [h1]; rfl⟩
          have hks : ∀ k j, ks[j]? = some k → ∃ ab0 v, mlook me k = some ab0 ∧ ab0.live = true ∧ m k = some v ∧ m1 j = some v ∧ m2 j = some v ∧ j < n := by
            intro k j hj
            have hjn := (List.getElem?_eq_some_iff.1 hj).1
            obtain ⟨ab, hab⟩ : ∃ ab, mm[j]? = some ab := ⟨_, List.getElem?_eq_getElem (by omega)⟩
            obtain ⟨k', ab0, v, h1, h2, _, h4, h5⟩ := hent j ab hab
            rw [hj] at h1; cases h1
            have h6 : m1 j = some v := by rw [hm1, hj]; exact h5
            exact ⟨ab0, v, h2, h4, h5, h6, hpinned j v (by omega) h6, by omega⟩
          unfold GLe at k2
          generalize hrr : bindM s'.me (tgH 0 (labs ch news)) (bindL avs rs (pinI (upto 0 ch))) = r at k2
          unfold GLeR at k2
          split at k2
          rotate_left
          · exact k2.elim
          rename_i hok hlt
          obtain ⟨k2a, k2m⟩ := k2
          have hpinr : ∀ j, j < n → rlook r j = some (some j) := fun j hj => by
            rw [← hrr]; exact bindM_keep _ _ (bindL_keep _ _ _ (pinI_look _ j (by rw [upto_mem]; omega)))
          have hT := MemR_le k3.mem hok k2m
          have hTlook : ∀ (j : Nat) ab, (ch ++ news)[j]? = some ab → ab.live = true → mlook (tgMem (tgH 0 (labs ch news))) j = some ab := fun j ab h1 h2 => by
            rw [labs_eq]; exact tgH_look _ 0 j ab (Nat.zero_le _) (by simpa using h1) h2
          generalize tgH 0 (labs ch news) = T at *
          have hTabr : ∀ (j : Nat) ab, mlook (tgMem T) j = some ab → ABR (hrens m2 r) w2 j ab := by
            intro j ab hj
            rcases me_entry k2m hj with ⟨o, ab0, h1, h2, h3⟩ | ⟨h1, T', e', c', rfl, h2⟩
            · exact ABR_leG .hrens h1 h3 (k3.mem.at_ o ab0 h2)
            · exact ⟨.slice none 0 0, 0, [], (by show (hren m2 r) j = _; rw [hren_apply, h1]), ⟨by simp, .inl ⟨none, rfl, rfl⟩⟩, acNil_RC h2⟩
          have hsz : w.heap.size ≤ w2.heap.size := k3.fr.size
          have hWn : ∀ b, b ∈ E.W → ∃ k v ab0, k ∈ ks ∧ m k = some v ∧ blk v = some b ∧ mlook me k = some ab0 ∧ ab0.live = true := by
            intro b hbW
            have hbW' : b ∈ (List.range n).filterMap (fun j => (m1 j).bind blk) := hbW
            rw [List.mem_filterMap] at hbW'
            obtain ⟨j, hj, hj2⟩ := hbW'
            rw [List.mem_range] at hj
            obtain ⟨k, hk⟩ : ∃ k, ks[j]? = some k := ⟨_, List.getElem?_eq_getElem (by omega)⟩
            obtain ⟨ab0, v, h1, h2, h4, h5, _⟩ := hks k j hk
            rw [h5] at hj2
            exact ⟨k, v, ab0, List.mem_of_getElem? hk, h4, hj2, h1, h2⟩
          have hblk : ∀ b, b < w.heap.size → b ∉ E.W → w2.heap[b]? = w.heap[b]? := fun b h1 h2 => k3.fr.block b h1 h2
          have hown : ∀ j v b, (hren m2 r) j = some v → blk v = some b → (w.heap.size ≤ b ∨ b ∈ E.W) ∧ b < w2.heap.size ∧ ∃ o, m2 o = some v := by
            intro j v b hj hbk
            rcases hren_from hj with ⟨o, ho⟩ | rfl
            · exact ⟨k3.fr.own o v b ho hbk, k3.bd o v b ho hbk, o, ho⟩
            · simp [blk] at hbk
          have hnot : ∀ k v b ab, m k = some v → blk v = some b → mlook me k = some ab → ab.live = true → k ∉ ks → b ∉ E.W := by
            intro k v b ab h1 h2 h3 h4 h5 h6
            obtain ⟨k', v', ab', g1, g2, g3, g4, g5⟩ := hWn b h6
            exact hb.mem.apart k k' ab ab' v v' b h3 g4 h4 g5 (fun e => h5 (e ▸ g1)) h1 g2 h2 g3
          have hksn : ∀ k, k ∈ ks → ¬ (kb ≤ k ∧ k < kb + q) := by
            intro k hk hh
            obtain ⟨j, hj⟩ := List.getElem?_of_mem hk
            obtain ⟨_, v, _, _, h4, _⟩ := hks k j hj
            rw [hb.fresh k hh.1 (by omega)] at h4; cases h4
          let r3 : Ren := renN kb n q ++ ren2 0 ks
          have hr3 : ∀ k, rlook r3 k = if kb ≤ k ∧ k < kb + q then some (some (n + (k - kb))) else (idxOf k 0 ks).map some := fun k => by
            show rlook (renN kb n q ++ ren2 0 ks) k = _
            rw [renN_look, ren2_look]
          have hsame : sameAll r3 (gname n q kb ks) := by
            intro k j hkj
            unfold gname at hkj
            split at hkj
            · rename_i hlt
              have hkn' : k < n := Nat.le_of_ble_eq_true hlt
              rw [nth_get] at hkj
              rw [hr3, if_neg (hksn j (List.mem_of_getElem? hkj)), idxOf_of ks 0 j k hnd hkj]
              simp
            · rename_i hlt
              have hkn' : ¬ k < n := fun hh => by rw [show Nat.blt k n = true from Nat.ble_eq_true_of_le hh] at hlt; cases hlt
              split at hkj
              · rename_i hlt2
                have hkn2 : k < n + q := Nat.le_of_ble_eq_true hlt2
                cases hkj
                rw [hr3, if_pos (by omega)]
                congr 2; omega
              · cases hkj
          let mc : Hd := hrens (hrens m2 r) r3
          let m' : Hd := ⟨fun k => if kb ≤ k ∧ k < kb + q then (hren m2 r) (n + (k - kb)) else m k, m.ok, m2.pub⟩
          have hm'n : ∀ k, kb ≤ k ∧ k < kb + q → m' k = (hren m2 r) (n + (k - kb)) := fun k hk => if_pos hk
          have hm'o : ∀ k, ¬ (kb ≤ k ∧ k < kb + q) → m' k = m k := fun k hk => if_neg hk
          have hT1 : ∀ k j, ks[j]? = some k → ∃ v, m k = some v ∧ (hren m2 r) j = some v := by
            intro k j hj
            obtain ⟨ab0, v, h1, h2, h4, h5, h6, h7⟩ := hks k j hj
            exact ⟨v, h4, by rw [hren_apply, hpinr j h7]; exact h6⟩
          have hmc : ∀ k v, mc k = some v → m' k = some v := by
            intro k v hk
            have hk : (hren (hren m2 r) r3) k = some v := hk
            rw [hren_apply, hr3] at hk
            by_cases hn : kb ≤ k ∧ k < kb + q
            · rw [if_pos hn] at hk
              rw [hm'n k hn]; exact hk
            · rw [if_neg hn] at hk
              rw [hm'o k hn]
              cases hq : idxOf k 0 ks with
              | none => rw [hq] at hk; simp at hk
              | some j =>
                rw [hq] at hk
                simp only [Option.map_some] at hk
                have h1 := (idxOf_get ks 0 k j hq).2
                simp only [Nat.sub_zero] at h1
                obtain ⟨v0, h2, h3⟩ := hT1 k j h1
                rw [h3] at hk; cases hk
                exact h2
          -- names that the contract speaks of
          have hdom : ∀ k, (kb ≤ k ∧ k < kb + q) ∨ k ∈ ks → ∃ j, rlook r3 k = some (some j) ∧ m' k = (hren m2 r) j ∧ ((kb ≤ k ∧ k < kb + q ∧ j = n + (k - kb)) ∨ (ks[j]? = some k ∧ j < n)) := by
            intro k hk
            by_cases hn : kb ≤ k ∧ k < kb + q
            · exact ⟨n + (k - kb), by rw [hr3, if_pos hn], hm'n k hn, .inl ⟨hn.1, hn.2, rfl⟩⟩
            · rcases hk with hk | hk
              · exact absurd hk hn
              · obtain ⟨j, hj⟩ := List.getElem?_of_mem hk
                obtain ⟨v, h1, h2⟩ := hT1 k j hj
                have hjn := (List.getElem?_eq_some_iff.1 hj).1
                exact ⟨j, by rw [hr3, if_neg hn, idxOf_of ks 0 k j hnd hj]; simp, by rw [hm'o k hn, h1, h2], .inr ⟨hj, by omega⟩⟩
          have hlook : ∀ k, mlook (mputs (mapp (zipMe kb news') (zipKs ks ch')) me) k = if kb ≤ k ∧ k < kb + q then news'[k - kb]? else match idxOf k 0 ks with
              | some j => ch'[j]?
              | none => mlook me k := by
            intro k
            rw [mputs_mapp, mlook_mputs, zipMe_look, mlook_mputs, zipKs_look ks ch' 0 k (by omega)]
            by_cases hn : kb ≤ k ∧ k < kb + q
            · rw [if_pos hn.1, if_pos hn]
              rw [List.getElem?_eq_getElem (by omega)]
            · rw [if_neg hn]
              have : (if kb ≤ k then news'[k - kb]? else none) = none := by
                split
                · exact List.getElem?_eq_none (by omega)
                · rfl
              rw [this]
              cases hq : idxOf k 0 ks with
              | none => rfl
              | some j =>
                simp only [Nat.sub_zero]
                have h1 := (idxOf_get ks 0 k j hq).2
                simp only [Nat.sub_zero] at h1
                have h2 := (List.getElem?_eq_some_iff.1 h1).1
                rw [List.getElem?_eq_getElem (by omega)]
          have hfin : ∀ k ab, (kb ≤ k ∧ k < kb + q) ∨ k ∈ ks → mlook (mputs (mapp (zipMe kb news') (zipKs ks ch')) me) k = some ab → ab.live = true →
              ∃ j ab0, rlook r3 k = some (some j) ∧ m' k = (hren m2 r) j ∧ mlook (tgMem T) j = some ab0 ∧ ab0.live = true ∧ abLe r3 ab0 ab ∧ ((kb ≤ k ∧ k < kb + q ∧ j = n + (k - kb)) ∨ (ks[j]? = some k ∧ j < n)) := by
            intro k ab hk hab hlv
            obtain ⟨j, h1, h2, h3⟩ := hdom k hk
            rw [hlook] at hab
            rcases h3 with ⟨h3, h4, h5⟩ | ⟨h3, h4⟩
            · rw [if_pos ⟨h3, h4⟩] at hab
              obtain ⟨x', hx1, hx2⟩ := hnget _ ab hab
              obtain ⟨g1, g2, g3⟩ := rnb_le hsame x' ab hx2
              refine ⟨j, x', h1, h2, hTlook j x' ?_ g2, g2, g1, .inl ⟨h3, h4, h5⟩⟩
              rw [List.getElem?_append_right (by omega), h5, show n + (k - kb) - ch.length = k - kb by omega]
              exact hx1
            · have hkk := List.mem_of_getElem? h3
              rw [if_neg (hksn k hkk), idxOf_of ks 0 k j hnd h3, Nat.zero_add] at hab
              simp only at hab
              obtain ⟨x', hx1, hx2⟩ := hcget j ab hab
              have hxd : x' ≠ .dead := by
                rintro rfl
                simp only [rnABd, Option.some.injEq] at hx2
                subst hx2; cases hlv
              have hx3 : rnAB (gname n q kb ks) x' = some ab := by cases x' <;> first | exact absurd rfl hxd | exact hx2
              obtain ⟨g1, g2, g3⟩ := rnb_le hsame x' ab hx3
              refine ⟨j, x', h1, h2, hTlook j x' ?_ g2, g2, g1, .inr ⟨h3, h4⟩⟩
              rw [List.getElem?_append_left (List.getElem?_eq_some_iff.1 hx1).1]
              exact hx1
          have holdl : ∀ k ab, ¬ ((kb ≤ k ∧ k < kb + q) ∨ k ∈ ks) → mlook (mputs (mapp (zipMe kb news') (zipKs ks ch')) me) k = some ab → mlook me k = some ab ∧ m' k = m k := by
            intro k ab hk hab
            have hk1 : ¬ (kb ≤ k ∧ k < kb + q) := fun h => hk (.inl h)
            rw [hlook, if_neg hk1] at hab
            cases hq : idxOf k 0 ks with
            | none => rw [hq] at hab; exact ⟨hab, hm'o k hk1⟩
            | some j => exact absurd (.inr (List.mem_of_getElem? (idxOf_get ks 0 k j hq).2)) hk
          have hpub : ∀ b, m2.pub b → m.pub b ∨ b ∈ E.W ∨ w.heap.size ≤ b := by
            intro b hp
            by_cases h1 : b < w.heap.size
            · by_cases h2 : b ∈ E.W
              · exact .inr (.inl h2)
              · exact .inl (k3.fr.pub b hp h1 h2)
            · exact .inr (.inr (by omega))
          have tr : Tr m w m' w2 := by
            refine ⟨fun k v hk => ?_, rfl, fun b hp => k3.fr.pubm b hp, fun b hp => ?_, hsz, fun b hb' hno => hblk b hb' (fun hm => ?_), fun k v b hk hv => ?_, k3.fr.os, k3.fr.tape, k3.fr.output⟩
            · rw [hm'o k (fun hh => by rw [hb.fresh k hh.1 (by omega)] at hk; cases hk)]; exact hk
            · rcases hpub b hp with h | h | h
              · exact .inl h
              · obtain ⟨k, v, _, _, h2, h3, _⟩ := hWn b h
                exact .inr (.inl ⟨k, v, h2, h3⟩)
              · exact .inr (.inr h)
            · obtain ⟨k, v, ab0, _, h2, h3, h4, h5⟩ := hWn b hm
              exact hno.elim (hb.mem.live k ab0 v b h4 h5 h2 h3) (fun hno => hno k v h2 h3)
            · by_cases hn : kb ≤ k ∧ k < kb + q
              · rw [hm'n k hn] at hk
                rcases (hown _ v b hk hv).1 with h | h
                · exact .inr h
                · obtain ⟨k', v', _, _, h2, h3, _⟩ := hWn b h
                  exact .inl ⟨k', v', h2, h3⟩
              · rw [hm'o k hn] at hk
                exact .inl ⟨k, v, hk, hv⟩
          have hpc : Pres mc w2 m' w2 := by
            refine ⟨hmc, fun b hs => ⟨rfl, ?_⟩⟩
            have hok2 : m2.ok b ∧ (m2.pub b ∨ ∀ k v, m2 k = some v → blk v ≠ some b) := hs.2.1.1
            have hok3 : okS b := by
              have := hok2.1
              rw [k3.fr.ok] at this
              exact this
            have hokm : m.ok b := by
              rcases hok3 with h | h | ⟨k, v, hk, h1, h2⟩
              · exact h.2.1
              · exact hb.mem.okn b h
              · obtain ⟨j, hj⟩ := List.getElem?_of_mem hk
                obtain ⟨ab0, v', q1, q2, q3, _⟩ := hks k j hj
                rw [q3] at h1; cases h1
                exact hb.mem.okl k ab0 _ b q1 q2 q3 h2
            refine ⟨hs.1, hokm, ?_⟩
            rcases hok2.2 with hp | hno
            · exact .inl hp
            · rcases hok3 with h | h | ⟨k, v, hk, h1, h2⟩
              · rcases h.2.2 with h4 | h4
                · exact .inl (k3.fr.pubm b h4)
                · refine .inr fun k v hk hv => ?_
                  by_cases hn : kb ≤ k ∧ k < kb + q
                  · rw [hm'n k hn] at hk
                    obtain ⟨_, _, o, ho⟩ := hown _ v b hk hv
                    exact hno o v ho hv
                  · rw [hm'o k hn] at hk
                    exact h4 k v hk hv
              · refine .inr fun k v hk hv => ?_
                by_cases hn : kb ≤ k ∧ k < kb + q
                · rw [hm'n k hn] at hk
                  obtain ⟨_, _, o, ho⟩ := hown _ v b hk hv
                  exact hno o v ho hv
                · rw [hm'o k hn] at hk
                  have := hb.bd k v b hk hv; omega
              · obtain ⟨j, hj⟩ := List.getElem?_of_mem hk
                obtain ⟨ab0, v', q1, q2, q3, q4, q5, _⟩ := hks k j hj
                rw [q3] at h1; cases h1
                exact absurd h2 (hno j _ q5)
          refine ⟨_, rfl, m', tr, tupAV_sound (RVs_mono hpc rs' vs (RVs_leG .hrens rs rs' vs (rnl_le hsame rs rs' hrs) (RVs_leG .hrens avs rs vs k2a k1))), ?_, fun k hk => ?_, fun k v b hk hv => ?_⟩
          · refine ⟨fun t ab hab => ?_, fun t t' ab ab' v v' b hab hab' hl hl' hne hv hv' hbk => ?_, k3.mem.pubs, fun t ab v b hab hl hv hbk hp => ?_, fun t ab v b hab hl hv hbk => ?_, fun b h => hb.mem.okn b (Nat.le_trans hsz h)⟩
            · by_cases hd : (kb ≤ t ∧ t < kb + q) ∨ t ∈ ks
              · cases hlv : ab.live with
                | false => cases ab with
                  | dead => trivial
                  | _ => simp [AB.live] at hlv
                | true =>
                  obtain ⟨j, ab0, h1, h2, h3, h4, h5, _⟩ := hfin t ab hd hab hlv
                  exact ABR_keep (ABR_leG .hrens h1 h5 (hTabr j ab0 h3)) (hmc t) (fun _ _ _ _ => rfl) hpc
              · obtain ⟨h1, h2⟩ := holdl t ab hd hab
                cases hlv : ab.live with
                | false => cases ab with
                  | dead => trivial
                  | _ => simp [AB.live] at hlv
                | true =>
                  exact ABR_keep (hb.mem.at_ t ab h1) (fun v hv => h2.trans hv) (fun v b hv hbk => hblk b (hb.bd t v b hv hbk) (hnot t v b ab hv hbk h1 hlv (fun h => hd (.inr h)))) tr.pres
            · intro hbq
              by_cases hd : (kb ≤ t ∧ t < kb + q) ∨ t ∈ ks <;> by_cases hd' : (kb ≤ t' ∧ t' < kb + q) ∨ t' ∈ ks
              · obtain ⟨j, ab0, h1, h2, h3, h4, _, h6⟩ := hfin t ab hd hab hl
                obtain ⟨j', ab0', h1', h2', h3', h4', _, h6'⟩ := hfin t' ab' hd' hab' hl'
                rw [h2] at hv; rw [h2'] at hv'
                refine hT.apart j j' ab0 ab0' v v' b h3 h3' h4 h4' (fun e => hne ?_) hv hv' hbk hbq
                subst e
                rcases h6 with ⟨a1, a2, a3⟩ | ⟨a1, a2⟩ <;> rcases h6' with ⟨b1, b2, b3⟩ | ⟨b1, b2⟩
                · omega
                · omega
                · omega
                · rw [a1] at b1; exact Option.some.inj b1
              · obtain ⟨j, ab0, h1, h2, h3, h4, _, h6⟩ := hfin t ab hd hab hl
                obtain ⟨g1, g2⟩ := holdl t' ab' hd' hab'
                rw [h2] at hv; rw [g2] at hv'
                rcases (hown j v b hv hbk).1 with h | h
                · have := hb.bd t' v' b hv' hbq; omega
                · exact hnot t' v' b ab' hv' hbq g1 hl' (fun h => hd' (.inr h)) h
              · obtain ⟨j, ab0, h1, h2, h3, h4, _, h6⟩ := hfin t' ab' hd' hab' hl'
                obtain ⟨g1, g2⟩ := holdl t ab hd hab
                rw [h2] at hv'; rw [g2] at hv
                rcases (hown j v' b hv' hbq).1 with h | h
                · have := hb.bd t v b hv hbk; omega
                · exact hnot t v b ab hv hbk g1 hl (fun h => hd (.inr h)) h
              · obtain ⟨g1, g2⟩ := holdl t ab hd hab
                obtain ⟨g1', g2'⟩ := holdl t' ab' hd' hab'
                rw [g2] at hv; rw [g2'] at hv'
                exact hb.mem.apart t t' ab ab' v v' b g1 g1' hl hl' hne hv hv' hbk hbq
            · by_cases hd : (kb ≤ t ∧ t < kb + q) ∨ t ∈ ks
              · obtain ⟨j, ab0, h1, h2, h3, h4, _, h6⟩ := hfin t ab hd hab hl
                rw [h2] at hv
                exact hT.live j ab0 v b h3 h4 hv hbk hp
              · obtain ⟨g1, g2⟩ := holdl t ab hd hab
                rw [g2] at hv
                rcases hpub b hp with h | h | h
                · exact hb.mem.live t ab v b g1 hl hv hbk h
                · exact hnot t v b ab hv hbk g1 hl (fun h => hd (.inr h)) h
                · have := hb.bd t v b hv hbk; omega
            · by_cases hd : (kb ≤ t ∧ t < kb + q) ∨ t ∈ ks
              · obtain ⟨j, ab0, h1, h2, h3, h4, _, h6⟩ := hfin t ab hd hab hl
                rw [h2] at hv
                rcases (hown j v b hv hbk).1 with h | h
                · exact hb.mem.okn b h
                · obtain ⟨k, v', ab', _, q2, q3, q4, q5⟩ := hWn b h
                  exact hb.mem.okl k ab' v' b q4 q5 q2 q3
              · obtain ⟨g1, g2⟩ := holdl t ab hd hab
                rw [g2] at hv
                exact hb.mem.okl t ab v b g1 hl hv hbk
          · by_cases hn : kb ≤ k ∧ k < kb + q
            · exact .inr ⟨hn.1, by omega⟩
            · rw [hm'o k hn] at hk
              exact .inl hk
          · by_cases hn : kb ≤ k ∧ k < kb + q
            · rw [hm'n k hn] at hk
              exact (hown _ v b hk hv).2.1
            · rw [hm'o k hn] at hk
              exact Nat.lt_of_lt_of_le (hb.bd k v b hk hv) hsz
        · exact (Look.run_no he).elim
      · exact (Look.run_no he).elim
    · exact (Look.run_no he).elim
  · exact (Look.run_no he).elim
end
/-- one contract for each form of the i-th argument -/
def bySpec (i : Nat) (n b r s : Spec) : Spec := fun args kb => match lget args i with
  | .nl => n args kb
  | .rb _ _ => b args kb
  | .rw _ => r args kb
  | .sl _ _ _ _ _ _ => s args kb
  | _ => .no
theorem by_ok {P : Program} {f i : Nat} {n b r s : Spec} (hn : SpecOK P f n) (hb : SpecOK P f b) (hr : SpecOK P f r) (hs : SpecOK P f s) : SpecOK P f (bySpec i n b r s) := by
  intro m w me kb args vals e hgi h1 h2 h3 h4
  unfold bySpec at h3
  split at h3
  · exact hn m w me kb args vals e hgi h1 h2 h3 h4
  · exact hb m w me kb args vals e hgi h1 h2 h3 h4
  · exact hr m w me kb args vals e hgi h1 h2 h3 h4
  · exact hs m w me kb args vals e hgi h1 h2 h3 h4
  · exact (Look.run_no h3).elim
end Go.Vc
set_option linter.unusedVariables false
set_option linter.unusedSimpArgs false
namespace Go.Vc
open Go Go.RowKit

/-! ## A contract that asks for content that stays, met by a row of the caller's own -/
mutual
/-- no reference to what merely stays -/
def AV.ns : AV → Bool
  | .rb _ _ => false
  | .pr _ => false
  | .tup _ => false
  | .ag _ c => AC.ns c
  | .fv _ l => AL.ns l
  | _ => true
def AC.ns : AC → Bool
  | .vs l => AL.ns l
  | .fn _ _ _ => false
  | .ds s _ => s.plain
  | _ => true
def AL.ns : List AV → Bool
  | [] => true
  | a :: l => match AV.ns a with
    | true => AL.ns l
    | false => false
end
def segsNs : List Seg → Bool
  | [] => true
  | (_, c) :: l => match AC.ns c with
    | true => segsNs l
    | false => false
def AB.ns : AB → Bool
  | .dead => true
  | .bk _ s => segsNs s
  | .row _ _ c => c.ns
  | .mp _ _ vs _ => vs.plain
  | .it _ _ _ _ => true
def abNs : List AB → Bool
  | [] => true
  | a :: l => match a.ns with
    | true => abNs l
    | false => false
def memNs : Mem → Bool
  | [] => true
  | (_, a) :: l => match a.ns with
    | true => memNs l
    | false => false
def AV.nsv : AV → Bool
  | .tup l => AL.ns l
  | a => a.ns
def idk (ks : List Nat) (k : Nat) : Option Nat := match lmem k ks with
  | true => some k
  | false => none
def ren0 : List Nat → Ren
  | [] => []
  | k :: ks => (k, some k) :: ren0 ks
def nameV : AV → Option Nat
  | .rw k => some k
  | .sl k _ _ _ _ _ => some k
  | _ => none
/-- the arguments, rows of the caller's own told by what lies in them; which rows these are -/
def convs (F : Fs) : List PT → List AV → List Nat → (List AV → List Nat → Look) → Look
  | [], [], us, K => K [] us
  | .keep :: ts, a :: r, us, K => convs F ts r us fun l us' => K (a :: l) us'
  | .row k :: ts, a :: r, us, K => match nameV a with
    | some j => .look j fun ab => match ab.live with
      | true => withContent F a k.esz fun c => match k.fits c, AC.nk false c with
        | true, true => convs F ts r (j :: us) fun l us' => K (.rb k.esz c :: l) us'
        | _, _ => .no
      | false => .no
    | none => match a with
      | .nl => convs F ts r us fun l us' => K (.rb k.esz k.nil :: l) us'
      | .z => convs F ts r us fun l us' => K (.rb k.esz k.nil :: l) us'
      | a => convs F ts r us fun l us' => K (a :: l) us'
  | _, _, _, _ => .no
def disj : List Nat → List Nat → Bool
  | [], _ => true
  | k :: us, ks => match lmem k ks with
    | true => false
    | false => disj us ks
def rbSpec (F : Fs) (ts : List PT) (s : Spec) : Spec := fun args kb =>
  convs F ts args [] fun args1 us =>
    match us with
    | [] => s args1 kb
    | us => gather 40 (keysL args1 []) 0 [] fun ks abs =>
      match rnAL (idk ks) args1, rnABs (idk ks) abs, disj us ks, abNs abs with
      | some l, some mm, true, true => match (s l kb).run (zipKs ks abs) with
        | some e => match e.v.nsv, memNs e.puts with
          | true, true => .ret e
          | _, _ => .no
        | none => .no
      | _, _, _, _ => .no

theorem disj_spec : ∀ {us ks : List Nat}, disj us ks = true → ∀ k, k ∈ us → k ∉ ks
  | [], ks, h, k, hk => by simp at hk
  | u :: us, ks, h, k, hk => by
    simp only [disj] at h
    split at h
    · cases h
    · rename_i hm
      rcases List.mem_cons.1 hk with rfl | hk
      · exact lmem_spec hm
      · exact disj_spec h k hk
theorem idk_eq {ks : List Nat} {k j : Nat} (h : idk ks k = some j) : j = k ∧ k ∈ ks := by
  unfold idk at h
  split at h
  · rename_i hm
    refine ⟨(Option.some.inj h).symm, ?_⟩
    clear h
    induction ks with
    | nil => simp [lmem] at hm
    | cons a r ih =>
      simp only [lmem] at hm
      split at hm
      · rename_i e; rw [beq_nat e]; exact List.mem_cons_self
      · exact List.mem_cons_of_mem _ (ih hm)
  · cases h
theorem ren0_look : ∀ (ks : List Nat) (t : Nat), rlook (ren0 ks) t = if t ∈ ks then some (some t) else none
  | [], t => by simp [ren0, rlook]
  | k :: ks, t => by
    rw [ren0, rlook_cons, ren0_look ks t]
    by_cases e : k = t
    · subst e; simp
    · rw [if_neg e]
      have : t ∈ k :: ks ↔ t ∈ ks := ⟨fun h => (List.mem_cons.1 h).resolve_left (fun h => e h.symm), List.mem_cons_of_mem _⟩
      simp only [this]
theorem same0 (ks : List Nat) : sameAll (ren0 ks) (idk ks) := by
  intro k j h
  obtain ⟨rfl, h2⟩ := idk_eq h
  rw [ren0_look, if_pos h2]
section
variable {f : Nat → Option Nat}
mutual
theorem rnAV_id (hf : ∀ k j, f k = some j → j = k) : ∀ (a b : AV), rnAV f a = some b → b = a
  | .i _, b, h => by simp only [rnAV, Option.some.injEq] at h; exact h.symm
  | .w8 _, b, h => by simp only [rnAV, Option.some.injEq] at h; exact h.symm
  | .w16 _, b, h => by simp only [rnAV, Option.some.injEq] at h; exact h.symm
  | .w32 _, b, h => by simp only [rnAV, Option.some.injEq] at h; exact h.symm
  | .w64 _, b, h => by simp only [rnAV, Option.some.injEq] at h; exact h.symm
  | .b _, b, h => by simp only [rnAV, Option.some.injEq] at h; exact h.symm
  | .kb _, b, h => by simp only [rnAV, Option.some.injEq] at h; exact h.symm
  | .s _, b, h => by simp only [rnAV, Option.some.injEq] at h; exact h.symm
  | .nl, b, h => by simp only [rnAV, Option.some.injEq] at h; exact h.symm
  | .pn, b, h => by simp only [rnAV, Option.some.injEq] at h; exact h.symm
  | .z, b, h => by simp only [rnAV, Option.some.injEq] at h; exact h.symm
  | .mn, b, h => by simp only [rnAV, Option.some.injEq] at h; exact h.symm
  | .ag n c, b, h => by
    simp only [rnAV] at h
    split at h
    · rename_i d hd; cases h; rw [rnAC_id hf c d hd]
    · cases h
  | .rb e c, b, h => by
    simp only [rnAV] at h
    split at h
    · cases h; rfl
    · cases h
  | .pr a, b, h => by
    simp only [rnAV] at h
    split at h
    · cases h; rfl
    · cases h
  | .rw k, b, h => by
    simp only [rnAV] at h
    split at h
    · rename_i j hj; cases h; rw [hf k j hj]
    · cases h
  | .p k g o, b, h => by
    simp only [rnAV] at h
    split at h
    · rename_i j hj; cases h; rw [hf k j hj]
    · cases h
  | .sl k g o e a n, b, h => by
    simp only [rnAV] at h
    split at h
    · rename_i j hj; cases h; rw [hf k j hj]
    · cases h
  | .cl k, b, h => by
    simp only [rnAV] at h
    split at h
    · rename_i j hj; cases h; rw [hf k j hj]
    · cases h
  | .mh k, b, h => by
    simp only [rnAV] at h
    split at h
    · rename_i j hj; cases h; rw [hf k j hj]
    · cases h
  | .fv g l, b, h => by
    simp only [rnAV] at h
    split at h
    · rename_i l' hl; cases h; rw [rnAL_id hf l l' hl]
    · cases h
  | .u, b, h => by simp [rnAV] at h
  | .tup _, b, h => by simp [rnAV] at h
  | .pe _ _ _ _ _, b, h => by simp [rnAV] at h
  | .pf _ _ _ _ _ _ _, b, h => by simp [rnAV] at h
theorem rnAC_id (hf : ∀ k j, f k = some j → j = k) : ∀ (a b : AC), rnAC f a = some b → b = a
  | .bt _, b, h => by simp only [rnAC, Option.some.injEq] at h; exact h.symm
  | .wh _, b, h => by simp only [rnAC, Option.some.injEq] at h; exact h.symm
  | .wd _, b, h => by simp only [rnAC, Option.some.injEq] at h; exact h.symm
  | .ww _, b, h => by simp only [rnAC, Option.some.injEq] at h; exact h.symm
  | .is _, b, h => by simp only [rnAC, Option.some.injEq] at h; exact h.symm
  | .ss _, b, h => by simp only [rnAC, Option.some.injEq] at h; exact h.symm
  | .ds _ _, b, h => by simp only [rnAC, Option.some.injEq] at h; exact h.symm
  | .vs l, b, h => by
    simp only [rnAC] at h
    split at h
    · rename_i l' hl; cases h; rw [rnAL_id hf l l' hl]
    · cases h
  | .fn _ _ _, b, h => by simp [rnAC] at h
theorem rnAL_id (hf : ∀ k j, f k = some j → j = k) : ∀ (a b : List AV), rnAL f a = some b → b = a
  | [], b, h => by simp only [rnAL, Option.some.injEq] at h; exact h.symm
  | a :: l, b, h => by
    simp only [rnAL] at h
    split at h
    · rename_i a' l' h1 h2; cases h; rw [rnAV_id hf a a' h1, rnAL_id hf l l' h2]
    · cases h
end
theorem rnSegs_id (hf : ∀ k j, f k = some j → j = k) : ∀ (a b : List Seg), rnSegs f a = some b → b = a
  | [], b, h => by simp only [rnSegs, Option.some.injEq] at h; exact h.symm
  | (n, c) :: l, b, h => by
    simp only [rnSegs] at h
    split at h
    · rename_i a' l' h1 h2; cases h; rw [rnAC_id hf c a' h1, rnSegs_id hf l l' h2]
    · cases h
theorem rnAB_id (hf : ∀ k j, f k = some j → j = k) (a b : AB) (h : rnAB f a = some b) : b = a := by
  cases a with
  | dead => simp [rnAB] at h
  | bk T s =>
    simp only [rnAB] at h
    split at h
    · rename_i s' hs; cases h; rw [rnSegs_id hf s s' hs]
    · cases h
  | row T e c =>
    simp only [rnAB] at h
    split at h
    · rename_i d hd; cases h; rw [rnAC_id hf c d hd]
    · cases h
  | mp T kk vs M => simp only [rnAB, Option.some.injEq] at h; exact h.symm
  | it k a b c =>
    simp only [rnAB] at h
    split at h
    · rename_i j hj; cases h; rw [hf k j hj]
    · cases h
end
section
variable {m m' : Hd} {w : World}
mutual
theorem CR_ns (h : ∀ k v, m k = some v → m' k = some v) : ∀ (a : AV) (cs : List Value), a.ns = true → CR m w a cs → CR m' w a cs
  | .u, cs, hn, hc => by simpa only [CR] using hc
  | .i n, cs, hn, hc => by simpa only [CR] using hc
  | .w8 x, cs, hn, hc => by simpa only [CR] using hc
  | .w16 x, cs, hn, hc => by simpa only [CR] using hc
  | .w32 x, cs, hn, hc => by simpa only [CR] using hc
  | .w64 x, cs, hn, hc => by simpa only [CR] using hc
  | .b x, cs, hn, hc => by simpa only [CR] using hc
  | .kb x, cs, hn, hc => by simpa only [CR] using hc
  | .s x, cs, hn, hc => by simpa only [CR] using hc
  | .ag n c, cs, hn, hc => by simp only [AV.ns] at hn; simp only [CR] at hc ⊢; exact ⟨hc.1, RC_ns h c cs hn hc.2⟩
  | .tup l, cs, hn, hc => by simp [AV.ns] at hn
  | .p k g o, cs, hn, hc => by simp only [CR] at hc ⊢; obtain ⟨g, h1, h2⟩ := hc; exact ⟨g, h _ _ h1, h2⟩
  | .pe k g o e i, cs, hn, hc => by simp only [CR] at hc ⊢; obtain ⟨v, g, h1, h2⟩ := hc; exact ⟨v, g, h _ _ h1, h2⟩
  | .pr a, cs, hn, hc => by simp [AV.ns] at hn
  | .sl k g o e a n, cs, hn, hc => by simp only [CR] at hc ⊢; obtain ⟨v, ad, cap, h1, h2⟩ := hc; exact ⟨v, ad, cap, h _ _ h1, h2⟩
  | .rb e c, cs, hn, hc => by simp [AV.ns] at hn
  | .rw k, cs, hn, hc => by simp only [CR] at hc ⊢; obtain ⟨v, h1, h2⟩ := hc; exact ⟨v, h _ _ h1, h2⟩
  | .nl, cs, hn, hc => by simpa only [CR] using hc
  | .pn, cs, hn, hc => by simpa only [CR] using hc
  | .cl k, cs, hn, hc => by simp only [CR] at hc ⊢; obtain ⟨v, h1, h2⟩ := hc; exact ⟨v, h _ _ h1, h2⟩
  | .z, cs, hn, hc => by simpa only [CR] using hc
  | .mh k, cs, hn, hc => by simp only [CR] at hc ⊢; obtain ⟨v, h1, h2⟩ := hc; exact ⟨v, h _ _ h1, h2⟩
  | .mn, cs, hn, hc => by simpa only [CR] using hc
  | .pf k g o e i j c, cs, hn, hc => by simp only [CR] at hc ⊢; obtain ⟨v, g, h1, h2⟩ := hc; exact ⟨v, g, h _ _ h1, h2⟩
  | .fv f l, cs, hn, hc => by simp only [AV.ns] at hn; simp only [CR] at hc ⊢; obtain ⟨vs, h1, h2⟩ := hc; exact ⟨vs, h1, LR_ns h l vs hn h2⟩
theorem RC_ns (h : ∀ k v, m k = some v → m' k = some v) : ∀ (c : AC) (cs : List Value), c.ns = true → RC m w c cs → RC m' w c cs
  | .bt xs, cs, hn, hc => by simpa only [RC] using hc
  | .wh xs, cs, hn, hc => by simpa only [RC] using hc
  | .wd xs, cs, hn, hc => by simpa only [RC] using hc
  | .ww xs, cs, hn, hc => by simpa only [RC] using hc
  | .is xs, cs, hn, hc => by simpa only [RC] using hc
  | .ss xs, cs, hn, hc => by simpa only [RC] using hc
  | .vs l, cs, hn, hc => by simp only [AC.ns] at hn; simp only [RC] at hc ⊢; exact LR_ns h l cs hn hc
  | .fn e n f, cs, hn, hc => by simp [AC.ns] at hn
  | .ds sh xs, cs, hn, hc => by
    simp only [AC.ns] at hn
    simp only [RC] at hc ⊢
    obtain ⟨css, h1, h2, h3⟩ := hc
    exact ⟨css, h1, h2, fun j x y hx hy => ⟨(h3 j x y hx hy).1, DR_move (sh := false) (fun h => by cases h) sh y x (.inr hn) (h3 j x y hx hy).2⟩⟩
theorem LR_ns (h : ∀ k v, m k = some v → m' k = some v) : ∀ (l : List AV) (cs : List Value), AL.ns l = true → LR m w l cs → LR m' w l cs
  | [], cs, hn, hc => by simpa only [LR] using hc
  | a :: l, cs, hn, hc => by
    simp only [AL.ns] at hn
    split at hn
    · rename_i ha
      simp only [LR] at hc ⊢
      obtain ⟨c1, c2, h1, h2, h3⟩ := hc
      exact ⟨c1, c2, h1, CR_ns h a c1 ha h2, LR_ns h l c2 hn h3⟩
    · cases hn
end
theorem RV_ns1 (h : ∀ k v, m k = some v → m' k = some v) (a : AV) (v : Value) (hn : a.ns = true) (hv : RV m w a v) : RV m' w a v := by
  cases a with
  | ag n c =>
    simp only [AV.ns] at hn
    simp only [RV] at hv ⊢
    obtain ⟨cs, h1, h2, h3⟩ := hv
    exact ⟨cs, h1, h2, RC_ns h c cs hn h3⟩
  | tup l => simp [AV.ns] at hn
  | u => simp [RV]
  | _ => simp only [RV] at hv ⊢; exact CR_ns h _ _ hn hv
theorem RVs_ns (h : ∀ k v, m k = some v → m' k = some v) : ∀ (l : List AV) (vs : List Value), AL.ns l = true → RVs m w l vs → RVs m' w l vs
  | [], vs, hn, hv => by simpa only [RVs] using hv
  | a :: l, vs, hn, hv => by
    simp only [AL.ns] at hn
    split at hn
    · rename_i ha
      simp only [RVs] at hv ⊢
      obtain ⟨v, r, h1, h2, h3⟩ := hv
      exact ⟨v, r, h1, RV_ns1 h a v ha h2, RVs_ns h l r hn h3⟩
    · cases hn
theorem RV_nsv (h : ∀ k v, m k = some v → m' k = some v) (a : AV) (v : Value) (hn : a.nsv = true) (hv : RV m w a v) : RV m' w a v := by
  cases a with
  | tup l =>
    simp only [AV.nsv] at hn
    simp only [RV] at hv ⊢
    obtain ⟨vs, h1, h2⟩ := hv
    exact ⟨vs, h1, RVs_ns h l vs hn h2⟩
  | _ => exact RV_ns1 h _ _ hn hv
theorem SegsR_ns (h : ∀ k v, m k = some v → m' k = some v) : ∀ (l : List Seg) (cs : List Value), segsNs l = true → SegsR m w l cs → SegsR m' w l cs
  | [], cs, hn, hc => by simpa only [SegsR] using hc
  | (n, c) :: l, cs, hn, hc => by
    simp only [segsNs] at hn
    split at hn
    · rename_i ha
      simp only [SegsR] at hc ⊢
      obtain ⟨c1, c2, h1, h2, h3, h4⟩ := hc
      exact ⟨c1, c2, h1, h2, RC_ns h c c1 ha h3, SegsR_ns h l c2 hn h4⟩
    · cases hn
theorem ER_ns {kk : KK} {vs : Sh} (hn : vs.plain = true) : ∀ (l : List (Nat × D × D)) (es : List MapEntry), ER m w kk vs l es → ER m' w kk vs l es
  | [], es, he => he
  | (b, k, d) :: l, es, he => by
    obtain ⟨e, r, h1, h2, h3, ⟨cs, g1, g2⟩, h5⟩ := he
    exact ⟨e, r, h1, h2, h3, ⟨cs, DR_move (sh := false) (fun h => by cases h) vs d cs (.inr hn) g1, g2⟩, ER_ns hn l r h5⟩
theorem ABR_ns (h : ∀ k v, m k = some v → m' k = some v) {k : Nat} {ab : AB} (hn : ab.ns = true) (ha : ABR m w k ab) : ABR m' w k ab := by
  cases ab with
  | dead => trivial
  | bk T segs =>
    obtain ⟨g, cs, fz, h1, h2, h3, h4⟩ := ha
    exact ⟨g, cs, fz, h _ _ h1, h2, h3, SegsR_ns h segs _ hn h4⟩
  | row T e c =>
    obtain ⟨v, n, cs, h1, h2, h3⟩ := ha
    exact ⟨v, n, cs, h _ _ h1, h2, RC_ns h c cs hn h3⟩
  | mp T kk vs M =>
    obtain ⟨r, es, h1, h2, h3, h4⟩ := ha
    exact ⟨r, es, h _ _ h1, h2, ER_ns hn _ _ h3, h4⟩
  | it k0 a b c =>
    obtain ⟨r, rm, h1, h2, h3⟩ := ha
    exact ⟨r, rm, h _ _ h1, h _ _ h2, h3⟩
end
theorem abNs_get : ∀ {l : List AB}, abNs l = true → ∀ (j : Nat) a, l[j]? = some a → a.ns = true
  | [], h, j, a, hj => by simp at hj
  | b :: l, h, j, a, hj => by
    simp only [abNs] at h
    split at h
    · rename_i hb
      cases j with
      | zero => simp only [List.getElem?_cons_zero, Option.some.injEq] at hj; subst hj; exact hb
      | succ j => exact abNs_get h j a (by simpa using hj)
    · cases h
theorem memNs_look : ∀ {l : Mem}, memNs l = true → ∀ k a, mlook l k = some a → a.ns = true
  | [], h, k, a, hj => by simp [mlook] at hj
  | (t, b) :: l, h, k, a, hj => by
    simp only [memNs] at h
    split at h
    · rename_i hb
      rw [mlook_cons] at hj
      split at hj
      · cases hj; exact hb
      · exact memNs_look h k a hj
    · cases h
end Go.Vc
set_option linter.unusedVariables false
set_option linter.unusedSimpArgs false
namespace Go.Vc
open Go Go.RowKit

/-- an argument: as it is; a row of the caller's own, told by what lies in it -/
def ArgR (m : Hd) (w : World) (me : Mem) (us : List Nat) (a : AV) (v : Value) : Prop :=
  RV m w a v ∨ ∃ e c, a = .rb e c ∧ AC.nk false c = true ∧ ∃ ad n cap cs, v = .slice ad n cap ∧ RC m w c cs ∧ cs.length = n * e ∧ n ≤ cap ∧
    (0 < n → ∃ b, ad = some b ∧ b.block < w.heap.size ∧ (∀ j x, cs[j]? = some x → w.cell? (b.add j) = some x) ∧ ∃ k v0 ab, k ∈ us ∧ m k = some v0 ∧ blk v0 = some b.block ∧ mlook me k = some ab ∧ ab.live = true)
def ArgsR (m : Hd) (w : World) (me : Mem) (us : List Nat) : List AV → List Value → Prop
  | [], vs => vs = []
  | a :: l, vs => ∃ v r, vs = v :: r ∧ ArgR m w me us a v ∧ ArgsR m w me us l r
section
variable {P : Program} {m : Hd} {w : World} {me : Mem} {kb : Nat}
theorem ArgR_more {us us' : List Nat} (h : ∀ k, k ∈ us → k ∈ us') {a : AV} {v : Value} (ha : ArgR m w me us a v) : ArgR m w me us' a v := by
  rcases ha with ha | ⟨e, c, h1, h2, ad, n, cap, cs, h3, h4, h5, h6, h7⟩
  · exact .inl ha
  · refine .inr ⟨e, c, h1, h2, ad, n, cap, cs, h3, h4, h5, h6, fun hn => ?_⟩
    obtain ⟨b, g1, g2, g3, k, v0, ab, g4, g5⟩ := h7 hn
    exact ⟨b, g1, g2, g3, k, v0, ab, h k g4, g5⟩
theorem ArgsR_nil : ∀ {l : List AV} {vs : List Value}, ArgsR m w me [] l vs → RVs m w l vs
  | [], vs, h => by simp only [RVs]; exact h
  | a :: l, vs, h => by
    obtain ⟨v, r, h1, h2, h3⟩ := h
    simp only [RVs]
    refine ⟨v, r, h1, ?_, ArgsR_nil h3⟩
    rcases h2 with h2 | ⟨e, c, rfl, g2, ad, n, cap, cs, rfl, g4, g5, g6, g7⟩
    · exact h2
    · simp only [RV, CR]
      refine ⟨ad, n, cap, cs, rfl, g4, g5, g6, fun hn => ?_⟩
      obtain ⟨b, _, _, _, k, _, _, hk, _⟩ := g7 hn
      simp at hk
theorem name_blk {a : AV} {j : Nat} (hn : nameV a = some j) {b : Addr} {n cap : Nat} (hv : RV m w a (.slice (some b) n cap)) (h0 : 0 < n) (hc : n ≤ cap) : ∃ v0, m j = some v0 ∧ blk v0 = some b.block := by
  cases a <;> simp only [nameV, Option.some.injEq, reduceCtorEq] at hn
  · subst hn
    simp only [RV, CR] at hv
    obtain ⟨v0, ad, cap', h1, h2, h3, h4, _⟩ := hv
    simp only [List.cons.injEq, and_true, Value.slice.injEq] at h2
    obtain ⟨rfl, rfl, rfl⟩ := h2
    obtain ⟨g, g1, g2⟩ := h4 (by omega)
    refine ⟨v0, h1, ?_⟩
    rw [g1]
    have := Option.some.inj g2
    rw [this]
  · subst hn
    simp only [RV, CR] at hv
    obtain ⟨v0, h1, h2, _⟩ := hv
    simp only [List.cons.injEq, and_true] at h2
    subst h2
    exact ⟨_, h1, blk_slice (by omega)⟩
theorem convs_sound (hb : Base m w me kb) : ∀ (ts : List PT) (args : List AV) (us : List Nat) (vals : List Value) (K : List AV → List Nat → Look) (e : Eff), RVs m w args vals → (convs real ts args us K).run me = some e → e.c →
    ∃ l us' e0, (K l us').run me = some e0 ∧ e0.c ∧ e0.v = e.v ∧ e0.puts = e.puts ∧ (∀ k, k ∈ us → k ∈ us') ∧ ArgsR m w me us' l vals
  | [], [], us, vals, K, e, hv, h, hc => ⟨[], us, e, h, hc, rfl, rfl, fun _ h => h, by simp only [RVs] at hv; exact hv⟩
  | .keep :: ts, a :: r, us, vals, K, e, hv, h, hc => by
    simp only [convs] at h
    simp only [RVs] at hv
    obtain ⟨v, q, rfl, h1, h2⟩ := hv
    obtain ⟨l, us', e0, g1, g2, g3, g4, g5, g6⟩ := convs_sound hb ts r us q _ e h2 h hc
    exact ⟨a :: l, us', e0, g1, g2, g3, g4, g5, v, q, rfl, .inl h1, g6⟩
  | .row k :: ts, a :: r, us, vals, K, e, hv, h, hc => by
    simp only [RVs] at hv
    obtain ⟨v, q, rfl, h1, h2⟩ := hv
    have empty : ∀ ad, v = .slice ad 0 0 → RV m w (.rb k.esz k.nil) v := by
      rintro ad rfl
      simp only [RV, CR]
      exact ⟨ad, 0, 0, [], rfl, by cases k <;> simp [EK.nil, RC], by simp, by omega, fun h => by omega⟩
    simp only [convs] at h
    split at h
    · rename_i j hj
      obtain ⟨ab, hab, h⟩ := Look.run_look h
      split at h
      · rename_i hlv
        obtain ⟨c, cs, e1, k1, k2, k3, k4, k5, k6, k6b, k7⟩ := content_sound hb h1 h hc
        split at k1
        · rename_i hf hnk
          obtain ⟨l, us', e0, g1, g2, g3, g4, g5, g6⟩ := convs_sound hb ts r (j :: us) q _ e1 h2 k1 k2
          refine ⟨_ :: l, us', e0, g1, g2, g3.trans k3, g4.trans k4, fun t ht => g5 t (List.mem_cons_of_mem _ ht), v, q, rfl, .inr ?_, g6⟩
          obtain ⟨ad, cap, rfl, q1, q2, q3⟩ := k7
          refine ⟨_, c, rfl, hnk, ad, _, cap, cs, rfl, k5, q1, q2, fun hn => ?_⟩
          obtain ⟨b, rfl, hb2⟩ := q3 hn
          obtain ⟨v0, p1, p2⟩ := name_blk hj h1 hn q2
          refine ⟨b, rfl, ?_, hb2, j, v0, ab, g5 j List.mem_cons_self, p1, p2, hab, hlv⟩
          exact hb.bd _ _ _ p1 p2
        · exact (Look.run_no k1).elim
      · exact (Look.run_no h).elim
    · split at h
      · obtain ⟨l, us', e0, g1, g2, g3, g4, g5, g6⟩ := convs_sound hb ts r us q _ e h2 h hc
        refine ⟨_ :: l, us', e0, g1, g2, g3, g4, g5, v, q, rfl, .inl ?_, g6⟩
        simp only [RV, CR, List.cons.injEq, and_true] at h1
        exact empty none h1
      · obtain ⟨l, us', e0, g1, g2, g3, g4, g5, g6⟩ := convs_sound hb ts r us q _ e h2 h hc
        refine ⟨_ :: l, us', e0, g1, g2, g3, g4, g5, v, q, rfl, .inl ?_, g6⟩
        simp only [RV, CR, List.cons.injEq, and_true] at h1
        obtain ⟨ad, h1⟩ := h1
        exact empty ad h1
      · obtain ⟨l, us', e0, g1, g2, g3, g4, g5, g6⟩ := convs_sound hb ts r us q _ e h2 h hc
        exact ⟨_ :: l, us', e0, g1, g2, g3, g4, g5, v, q, rfl, .inl h1, g6⟩
  | [], _ :: _, us, vals, K, e, hv, h, hc => by simp only [convs] at h; exact (Look.run_no h).elim
  | .keep :: _, [], us, vals, K, e, hv, h, hc => by simp only [convs] at h; exact (Look.run_no h).elim
  | .row _ :: _, [], us, vals, K, e, hv, h, hc => by simp only [convs] at h; exact (Look.run_no h).elim

theorem rb_ok {f : Nat} {ts : List PT} {s : Spec} (hs : SpecOK P f s) : SpecOK P f (rbSpec real ts s) := by
  intro m w me kb args vals e hgi hb hv he hc
  unfold rbSpec at he
  obtain ⟨args1, us, e1, he1, hc1, ev, ep, _, ha⟩ := convs_sound hb ts args [] vals _ e hv he hc
  have back : (Calls P f vals.toArray w fun en w' => ∃ v, en = .returned v ∧ ∃ m', OkE m w me kb e1.v e1.puts v m' w') → Calls P f vals.toArray w fun en w' => ∃ v, en = .returned v ∧ ∃ m', OkE m w me kb e.v e.puts v m' w' := by
    rw [ev, ep]; exact id
  refine back ?_
  clear back ev ep hc he hv e
  have he := he1
  clear he1
  split at he
  · exact hs m w me kb args1 vals e1 hgi hb (ArgsR_nil ha) he hc1
  · obtain ⟨ks, abs, hnd, hal, habs, he⟩ := gather_sound 40 (keysL args1 []) 0 [] (keysL_nodup args1 [] List.nodup_nil).1 rfl (fun j ab hj => by simp at hj) (Nat.zero_le _) he
    split at he
    · rename_i l mm hl hmm hdj hns
      split at he
      · rename_i e2 hrun
        split at he
        · rename_i hnv hnp
          simp only [Look.run, Option.some.injEq] at he
          subst he
          have hidf : ∀ k j, idk ks k = some j → j = k := fun k j h => (idk_eq h).1
          have hl1 := rnAL_id hidf _ _ hl
          subst hl1
          obtain ⟨hmml, hmmg⟩ := rnABs_get hmm
          -- the callee's names
          let m1 : Hd := ⟨(hren m (ren0 ks)).mu, fun _ => True, m.pub⟩
          have hm1 : ∀ k, m1 k = if k ∈ ks then m k else none := by
            intro k
            show (hren m (ren0 ks)) k = _
            rw [hren_apply, ren0_look]
            by_cases h : k ∈ ks
            · rw [if_pos h, if_pos h]
            · rw [if_neg h, if_neg h]
          have hent : ∀ k, k ∈ ks → ∃ (j : Nat) (ab : AB) (v : Value), ks[j]? = some k ∧ abs[j]? = some ab ∧ mlook me k = some ab ∧ ab.live = true ∧ ab.ns = true ∧ rnAB (idk ks) ab = some ab ∧ m k = some v := by
            intro k hk
            obtain ⟨j, hj⟩ := List.getElem?_of_mem hk
            have hjl := (List.getElem?_eq_some_iff.1 hj).1
            obtain ⟨ab, hab⟩ : ∃ ab, abs[j]? = some ab := ⟨_, List.getElem?_eq_getElem (by omega)⟩
            obtain ⟨k', h1, h2⟩ := habs j ab hab
            rw [hj] at h1; cases h1
            obtain ⟨y, hy⟩ : ∃ y, mm[j]? = some y := ⟨_, List.getElem?_eq_getElem (by omega)⟩
            obtain ⟨x, hx1, hx2⟩ := hmmg j y hy
            rw [hab] at hx1; cases hx1
            have hyx := rnAB_id hidf _ _ hx2
            subst hyx
            obtain ⟨_, h5, _⟩ := rnb_le (same0 ks) _ _ hx2
            obtain ⟨v, h6⟩ := ABR_live (hb.mem.at_ k _ h2) h5
            exact ⟨j, _, v, hj, hab, h2, h5, abNs_get hns j _ hab, hx2, h6⟩
          have hlkS : ∀ k, mlook (zipKs ks abs) k = if k ∈ ks then mlook me k else none := by
            intro k
            rw [zipKs_look ks abs 0 k hal]
            by_cases h : k ∈ ks
            · obtain ⟨j, ab, v, h1, h2, h3, _⟩ := hent k h
              rw [if_pos h, idxOf_of ks 0 k j hnd h1, h3]
              simpa using h2
            · rw [if_neg h]
              cases hq : idxOf k 0 ks with
              | none => rfl
              | some j => exact absurd (List.mem_of_getElem? (idxOf_get ks 0 k j hq).2) h
          have hsub : ∀ k v, m1 k = some v → m k = some v ∧ k ∈ ks := by
            intro k v h
            rw [hm1] at h
            split at h
            · exact ⟨h, by assumption⟩
            · cases h
          have hpr : Pres (hren m (ren0 ks)) w m1 w := ⟨fun _ _ h => h, fun b hb => ⟨rfl, hb.1, trivial, hb.2.2⟩⟩
          have hdis := disj_spec hdj
          -- arguments
          have hvS : ∀ (l0 : List AV) (vs : List Value), ArgsR m w me us l0 vs → rnAL (idk ks) l0 = some l0 → RVs m1 w l0 vs := by
            intro l0
            induction l0 with
            | nil => intro vs h _; simp only [RVs]; exact h
            | cons a r ih =>
              intro vs h hr
              obtain ⟨v, q, rfl, h2, h3⟩ := h
              simp only [rnAL] at hr
              split at hr
              · rename_i a' r' ha' hr'
                have ea := rnAV_id hidf _ _ ha'
                have er := rnAL_id hidf _ _ hr'
                subst ea er
                simp only [RVs]
                refine ⟨v, q, rfl, ?_, ih q h3 hr'⟩
                rcases h2 with h2 | ⟨e0, c, rfl, g2, ad, n, cap, cs, rfl, g4, g5, g6, g7⟩
                · obtain ⟨p1, p2⟩ := rn_le (same0 ks) _ _ ha'
                  exact RV_mono hpr _ _ (RV_le _ _ _ p1 p2 h2)
                · simp only [RV, CR]
                  refine ⟨ad, n, cap, cs, rfl, RC_move (sh := false) (fun h => by cases h) c cs g2 g4, g5, g6, fun hn => ?_⟩
                  obtain ⟨b, rfl, q2, q3, k, v0, ab, q4, q5, q6, q7, q8⟩ := g7 hn
                  refine ⟨b, rfl, ⟨q2, trivial, .inr fun k' v' hk' hv' => ?_⟩, q3⟩
                  obtain ⟨s1, s2⟩ := hsub k' v' hk'
                  obtain ⟨_, ab', _, _, _, s3, s4, _⟩ := hent k' s2
                  exact hb.mem.apart k k' ab ab' v0 v' _ q7 s3 q8 s4 (fun e => hdis k q4 (e ▸ s2)) q5 s1 q6 hv'
              · cases hr
          have hRV := hvS _ _ ha hl
          have hbS : Base m1 w (zipKs ks abs) kb := by
            refine ⟨⟨fun k ab hk => ?_, fun k k' ab ab' v v' b hk hk' hlv hlv' hne hv hv' hbk => ?_, fun b hp => hb.mem.pubs b hp, fun k ab v b hk hlv hv hbk => ?_, fun _ _ _ _ _ _ _ _ => trivial, fun _ _ => trivial⟩, fun k v b hk hbk => hb.bd k v b (hsub k v hk).1 hbk, fun k h1 h2 => ?_⟩
            · rw [hlkS] at hk
              split at hk
              · rename_i hm
                obtain ⟨_, ab', _, _, _, s3, s4, _, s6, _⟩ := hent k hm
                rw [s3] at hk; cases hk
                refine ABR_keep (ABR_le (r := ren0 ks) (k := k) (o := k) (by rw [ren0_look, if_pos hm]) (rnb_le (same0 ks) _ _ s6).1 (hb.mem.at_ k _ s3)) (fun _ h => h) (fun _ _ _ _ => rfl) hpr
              · cases hk
            · rw [hlkS] at hk hk'
              split at hk
              · split at hk'
                · exact hb.mem.apart k k' ab ab' v v' b hk hk' hlv hlv' hne (hsub _ _ hv).1 (hsub _ _ hv').1 hbk
                · cases hk'
              · cases hk
            · rw [hlkS] at hk
              split at hk
              · exact hb.mem.live k ab v b hk hlv (hsub _ _ hv).1 hbk
              · cases hk
            · rw [hm1, hb.fresh k h1 h2]; simp
          have hgi1 : GInv P m1 w := by
            obtain ⟨w0, hs0, hg0⟩ := hgi
            refine ⟨w0, hs0, fun g o h1 h2 => ?_⟩
            obtain ⟨⟨a1, a2, a3⟩, a4⟩ := hg0 g o h1 h2
            exact ⟨⟨a1, trivial, a3.imp id fun h k v hk => h k v (hsub k v hk).1⟩, a4⟩
          refine (hs m1 w (zipKs ks abs) kb _ vals e2 hgi1 hbS hRV hrun hc1).mono ?_
          rintro en w' ⟨v, rfl, m', ⟨tr, rv, mem, keys, bd⟩⟩
          refine ⟨v, rfl, ?_⟩
          let m2 : Hd := ⟨fun k => match m k with
            | some v => some v
            | none => m' k, m.ok, m'.pub⟩
          have hm2o : ∀ k v, m k = some v → m2 k = some v := by
            intro k v h
            show (match m k with
              | some v => some v
              | none => m' k) = _
            rw [h]
          have hm2n : ∀ k, m k = none → m2 k = m' k := by
            intro k h
            show (match m k with
              | some v => some v
              | none => m' k) = _
            rw [h]
          have hext : ∀ k v, m' k = some v → m2 k = some v := by
            intro k v h
            cases hq : m k with
            | none => rw [hm2n k hq]; exact h
            | some v0 =>
              rw [hm2o k v0 hq]
              have h1 : m1 k ≠ none := by
                rcases keys k (by rw [h]; simp) with h1 | h1
                · exact h1
                · rw [hb.fresh k h1.1 h1.2] at hq; cases hq
              cases hq1 : m1 k with
              | none => exact absurd hq1 h1
              | some v1 =>
                have e1 := (hsub k v1 hq1).1
                have e2 := tr.mu k v1 hq1
                rw [e2] at h; cases h
                rw [hq] at e1; exact e1
          have hm2c : ∀ k v, m2 k = some v → m k = some v ∨ (m k = none ∧ m' k = some v) := by
            intro k v h
            cases hq : m k with
            | none => exact .inr ⟨rfl, by rw [hm2n k hq] at h; exact h⟩
            | some v0 => rw [hm2o k v0 hq] at h; exact .inl h
          have tr2 : Tr m w m2 w' := by
            refine ⟨hm2o, rfl, fun b h => tr.pub b h, fun b h => ?_, tr.size, fun b h hn => ?_, fun k v b hk hv => ?_, tr.os, tr.tape, tr.output⟩
            · rcases tr.pubn b h with h1 | ⟨k, v, h1, h2⟩ | h1
              · exact .inl h1
              · exact .inr (.inl ⟨k, v, (hsub k v h1).1, h2⟩)
              · exact .inr (.inr h1)
            · refine tr.old b h ?_
              rcases hn with hn | hn
              · exact .inl hn
              · exact .inr fun k v hk hv => hn k v (hsub k v hk).1 hv
            · rcases hm2c k v hk with h1 | ⟨_, h1⟩
              · exact .inl ⟨k, v, h1, hv⟩
              · rcases tr.own k v b h1 hv with ⟨k0, v0, h2, h3⟩ | h2
                · exact .inl ⟨k0, v0, (hsub k0 v0 h2).1, h3⟩
                · exact .inr h2
          -- each entry: the callee's, or as it was
          have hcase : ∀ t ab, mlook (mputs e2.puts me) t = some ab → (mlook (mputs e2.puts (zipKs ks abs)) t = some ab ∧ ab.ns = true) ∨ (t ∉ ks ∧ mlook me t = some ab) := by
            intro t ab h
            rw [mlook_mputs] at h ⊢
            cases hq : mlook e2.puts t with
            | some a => rw [hq] at h; cases h; exact .inl ⟨rfl, memNs_look hnp t _ hq⟩
            | none =>
              rw [hq] at h
              by_cases hm : t ∈ ks
              · refine .inl ⟨?_, ?_⟩
                · simp only; rw [hlkS, if_pos hm]; exact h
                · obtain ⟨_, ab', _, _, _, s3, _, s5, _⟩ := hent t hm
                  have h' : mlook me t = some ab := h
                  rw [s3] at h'; cases h'; exact s5
              · exact .inr ⟨hm, h⟩
          have hcov : ∀ t ab, mlook (mputs e2.puts (zipKs ks abs)) t = some ab → ab.live = true → ∃ v, m' t = some v ∧ m2 t = some v := by
            intro t ab h hl
            obtain ⟨v, hv⟩ := ABR_live (mem.at_ t ab h) hl
            exact ⟨v, hv, hext t v hv⟩
          have hold : ∀ t ab, t ∉ ks → mlook me t = some ab → ab.live = true → ∃ v, m t = some v ∧ m2 t = some v ∧ ∀ b, blk v = some b → b < w.heap.size ∧ ∀ k0 v0, m1 k0 = some v0 → blk v0 ≠ some b := by
            intro t ab hm h hl
            obtain ⟨v, hv⟩ := ABR_live (hb.mem.at_ t ab h) hl
            refine ⟨v, hv, hm2o t v hv, fun b hbk => ⟨hb.bd t v b hv hbk, fun k0 v0 h0 hb0 => ?_⟩⟩
            obtain ⟨s1, s2⟩ := hsub k0 v0 h0
            obtain ⟨_, ab0, _, _, _, s3, s4, _⟩ := hent k0 s2
            exact hb.mem.apart t k0 ab ab0 v v0 b h s3 hl s4 (fun e => hm (e ▸ s2)) hv s1 hbk hb0
          refine ⟨m2, tr2, RV_nsv hext _ _ hnv rv, ?_, fun k hk => ?_, fun k v b hk hv => ?_⟩
          · refine ⟨fun t ab hab => ?_, fun t t' ab ab' v v' b hab hab' hl hl' hne hv hv' hbk => ?_, mem.pubs, fun t ab v b hab hl hv hbk hp => ?_, fun t ab v b hab hl hv hbk => ?_, fun b h => hb.mem.okn b (Nat.le_trans tr.size h)⟩
            · rcases hcase t ab hab with ⟨h1, h2⟩ | ⟨h1, h2⟩
              · exact ABR_ns hext h2 (mem.at_ t ab h1)
              · cases hlv : ab.live with
                | false => cases ab with
                  | dead => trivial
                  | _ => simp [AB.live] at hlv
                | true =>
                  obtain ⟨v, g1, g2, g3⟩ := hold t ab h1 h2 hlv
                  refine ABR_keep (hb.mem.at_ t ab h2) (fun v hv => hm2o t v hv) (fun v1 b hv hbk => ?_) tr2.pres
                  rw [g1] at hv; cases hv
                  obtain ⟨p1, p2⟩ := g3 b hbk
                  exact tr.old b p1 (.inr p2)
            · intro hbq
              rcases hcase t ab hab with ⟨h1, h2⟩ | ⟨h1, h2⟩ <;> rcases hcase t' ab' hab' with ⟨h1', h2'⟩ | ⟨h1', h2'⟩
              · obtain ⟨u, g1, g2⟩ := hcov t ab h1 hl
                obtain ⟨u', g1', g2'⟩ := hcov t' ab' h1' hl'
                rw [g2] at hv; cases hv
                rw [g2'] at hv'; cases hv'
                exact mem.apart t t' ab ab' v v' b h1 h1' hl hl' hne g1 g1' hbk hbq
              · obtain ⟨u, g1, g2⟩ := hcov t ab h1 hl
                obtain ⟨u', g1', g2', g3'⟩ := hold t' ab' h1' h2' hl'
                rw [g2] at hv; cases hv
                rw [g2'] at hv'; cases hv'
                obtain ⟨p1, p2⟩ := g3' b hbq
                rcases tr.own t v b g1 hbk with ⟨k0, v0, q1, q2⟩ | q1
                · exact p2 k0 v0 q1 q2
                · omega
              · obtain ⟨u, g1, g2, g3⟩ := hold t ab h1 h2 hl
                obtain ⟨u', g1', g2'⟩ := hcov t' ab' h1' hl'
                rw [g2] at hv; cases hv
                rw [g2'] at hv'; cases hv'
                obtain ⟨p1, p2⟩ := g3 b hbk
                rcases tr.own t' v' b g1' hbq with ⟨k0, v0, q1, q2⟩ | q1
                · exact p2 k0 v0 q1 q2
                · omega
              · obtain ⟨u, g1, g2, g3⟩ := hold t ab h1 h2 hl
                obtain ⟨u', g1', g2', g3'⟩ := hold t' ab' h1' h2' hl'
                rw [g2] at hv; cases hv
                rw [g2'] at hv'; cases hv'
                exact hb.mem.apart t t' ab ab' v v' b h2 h2' hl hl' hne g1 g1' hbk hbq
            · rcases hcase t ab hab with ⟨h1, h2⟩ | ⟨h1, h2⟩
              · obtain ⟨u, g1, g2⟩ := hcov t ab h1 hl
                rw [g2] at hv; cases hv
                exact mem.live t ab v b h1 hl g1 hbk hp
              · obtain ⟨u, g1, g2, g3⟩ := hold t ab h1 h2 hl
                rw [g2] at hv; cases hv
                obtain ⟨p1, p2⟩ := g3 b hbk
                rcases tr.pubn b hp with q | ⟨k0, v0, q1, q2⟩ | q
                · exact hb.mem.live t ab v b h2 hl g1 hbk q
                · exact p2 k0 v0 q1 q2
                · omega
            · rcases hcase t ab hab with ⟨h1, h2⟩ | ⟨h1, h2⟩
              · obtain ⟨u, g1, g2⟩ := hcov t ab h1 hl
                rw [g2] at hv; cases hv
                rcases tr.own t v b g1 hbk with ⟨k0, v0, q1, q2⟩ | q1
                · obtain ⟨s1, s2⟩ := hsub k0 v0 q1
                  obtain ⟨_, ab0, _, _, _, s3, s4, _⟩ := hent k0 s2
                  exact hb.mem.okl k0 ab0 v0 b s3 s4 s1 q2
                · exact hb.mem.okn b q1
              · obtain ⟨u, g1, g2, g3⟩ := hold t ab h1 h2 hl
                rw [g2] at hv; cases hv
                exact hb.mem.okl t ab v b h2 hl g1 hbk
          · cases hq : m k with
            | some v0 => exact .inl (by simp)
            | none =>
              rw [hm2n k hq] at hk
              rcases keys k hk with h1 | h1
              · exfalso
                apply h1
                rw [hm1, hq]; simp
              · exact .inr h1
          · rcases hm2c k v hk with h1 | ⟨_, h1⟩
            · exact Nat.lt_of_lt_of_le (hb.bd k v b h1 hv) tr.size
            · exact bd k v b h1 hv
        · exact (Look.run_no he).elim
      · exact (Look.run_no he).elim
    · exact (Look.run_no he).elim
end
end Go.Vc
set_option linter.unusedVariables false
set_option linter.unusedSimpArgs false
namespace Go.Vc
/-! ## Lists, bytes, words: plain laws -/
theorem fill_zero {α : Type} (zs : List α) (n : Nat) (d : α) : zs.take 0 ++ List.replicate (n - 0) d = List.replicate n d := by simp
theorem fill_full {α : Type} (zs : List α) (n : Nat) (d : α) (h : zs.length = n) : zs.take n ++ List.replicate (n - n) d = zs := by simp [← h]
theorem fill_step {α : Type} (zs : List α) (n i : Nat) (d e x : α) (h : zs.length = n) (hi : i < n) (hx : zs.getD i e = x) : (zs.take i ++ List.replicate (n - i) d).set i x = zs.take (i + 1) ++ List.replicate (n - (i + 1)) d := by
  have h1 : (zs.take i).length = i := by simp; omega
  have h2 : n - i = (n - (i + 1)) + 1 := by omega
  rw [List.set_append_right _ _ (by omega), h1, Nat.sub_self, h2, List.replicate_succ, List.set_cons_zero, List.take_add_one]
  have : zs[i]? = some x := by
    rw [← hx, List.getD_eq_getElem?_getD, List.getElem?_eq_getElem (by omega)]; simp
  rw [this]; simp
theorem fill_len {α : Type} (zs : List α) (n i : Nat) (d : α) (h : zs.length = n) (hi : i ≤ n) : (zs.take i ++ List.replicate (n - i) d).length = n := by simp; omega
theorem fill_getD {α : Type} (zs : List α) (n i j : Nat) (d e : α) (h : zs.length = n) (hj : j < i) (hi : i ≤ n) : (zs.take i ++ List.replicate (n - i) d).getD j e = zs.getD j e := by
  simp only [List.getD_eq_getElem?_getD]
  rw [List.getElem?_append_left (by simp; omega), List.getElem?_take]
  simp [hj]
theorem zipWith_getD {α β γ : Type} (f : α → β → γ) (xs : List α) (ys : List β) (i : Nat) (a : α) (b : β) (c : γ) (h1 : i < xs.length) (h2 : i < ys.length) : (List.zipWith f xs ys).getD i c = f (xs.getD i a) (ys.getD i b) := by
  simp [List.getD_eq_getElem?_getD, List.getElem?_zipWith, List.getElem?_eq_getElem h1, List.getElem?_eq_getElem h2]
theorem nint_nat (n : Nat) : ((n : Int)).toNat = n := rfl
theorem min_if (a b : Nat) : (if (b : Int) < (a : Int) then (b : Int) else (a : Int)).toNat = min a b := by
  split <;> omega
theorem wrap_sm {a : Int} (h1 : -9223372036854775808 ≤ a) (h2 : a ≤ 9223372036854775807) : IntKind.i64.wrap a = a := by
  simp [IntKind.wrap, IntKind.signed, IntKind.bits]
  omega
theorem take_succ_getD {α : Type} (xs : List α) (i : Nat) (d : α) (h : i < xs.length) : xs.take (i + 1) = xs.take i ++ [xs.getD i d] := by
  rw [List.take_add_one]
  have : xs[i]? = some (xs.getD i d) := by rw [List.getD_eq_getElem?_getD, List.getElem?_eq_getElem h]; simp
  rw [this]; rfl
theorem xor_twice : ∀ a b : List UInt8, List.zipWith (· ^^^ ·) (List.zipWith (· ^^^ ·) a b) b = a.take (min a.length b.length)
  | [], b => by simp
  | a :: l, [] => by simp
  | a :: l, b :: r => by
    have := xor_twice l r
    simp only [List.zipWith_cons_cons, this, List.length_cons, Nat.add_min_add_right, List.take_succ_cons, List.cons.injEq, and_true]
    rw [UInt8.xor_assoc, UInt8.xor_self, UInt8.xor_zero]
theorem xor_flip : ∀ a b : List UInt8, List.zipWith (· ^^^ ·) b a = List.zipWith (· ^^^ ·) a b
  | [], b => by simp
  | a :: l, [] => by simp
  | a :: l, b :: r => by simp [xor_flip l r, UInt8.xor_comm]
end Go.Vc
set_option linter.unusedVariables false
set_option linter.unusedSimpArgs false
namespace Go.Vc
open Go Go.RowKit
section
variable {P : Program} {T : Nat}
/-- what the program's table has of a type: size, bytes, zero value -/
def facts (P : Program) (T : Nat) : Option (Nat × Nat × Option Value) := (P.info? T).map fun i => (i.size, i.bytes, i.zero)
theorem facts_info {s b : Nat} {z : Value} (h : facts P T = some (s, b, some z)) : ∃ i, P.info? T = some i ∧ i.size = s ∧ i.bytes = b ∧ i.zero = some z := by
  unfold facts at h
  cases hi : P.info? T with
  | none => rw [hi] at h; cases h
  | some i => rw [hi] at h; simp only [Option.map_some, Option.some.injEq, Prod.mk.injEq] at h; exact ⟨i, rfl, h⟩
theorem TIok.one {d : TypeDesc} {k : TK} {b : Nat} {z : Value} {a : AV} {ek : Option EK} (hu : P.underlying T = some d) (hd : aggD d = false) (hk : TKok P T k) (hf : facts P T = some (1, b, some z)) (hz : z.cells = #[z]) (ho : z.oneCell' = true)
    (ha : ∀ m w, CR m w a [z]) (he : ∀ q, ek = some q → q.esz = 1 ∧ ∀ m w n, RC m w (q.rep real n) (List.replicate n z)) : TIok P T ⟨k, 1, b, .one a, ek⟩ := by
  obtain ⟨i, h1, h2, h3, h4⟩ := facts_info hf
  have hflat : ∀ n, (List.replicate n [z]).flatten = List.replicate n z := fun n => by
    induction n with
    | zero => rfl
    | succ n ih => rw [List.replicate_succ, List.flatten_cons, ih, List.replicate_succ]; rfl
  refine ⟨fun fs h => (by obtain ⟨gs, h1, _⟩ : TKok P T (.st fs) := h ▸ hk; rw [hu] at h1; cases h1; cases hd), fun fs lays h1 h2 => (by cases h2), hk, by rw [hu]; simp [hd, Lay.isAgg], rfl, i, z, h1, h2, h3, h4, by rw [hz]; rfl, fun m w => ?_, fun q hq => ⟨(he q hq).1, by rw [hz]; simpa using ho, fun m w n => by rw [hz]; show RC m w _ (List.replicate n [z]).flatten; rw [hflat]; exact (he q hq).2 m w n⟩⟩
  rw [hz]
  simp only [Lay.segs, SegsR]
  refine ⟨[z], [], rfl, rfl, ?_, rfl⟩
  simp only [RC, LR]
  exact ⟨[z], [], rfl, ha m w, rfl⟩
theorem ti_i64 (hu : P.underlying T = some (.int .i64)) (hf : facts P T = some (1, 8, some (.int .i64 0))) : TIok P T ⟨.int .i64, 1, 8, .one (.i 0), some .kI⟩ :=
  .one hu rfl hu hf rfl rfl (fun m w => by simp [CR]) (fun q hq => by cases hq; exact ⟨rfl, fun m w n => by simp [EK.rep, RC, real, List.map_replicate]⟩)
theorem ti_u8 (hu : P.underlying T = some (.int .u8)) (hf : facts P T = some (1, 1, some (.int .u8 0))) : TIok P T ⟨.int .u8, 1, 1, .one (.w8 (real.ofI8 0)), some .kB⟩ :=
  .one hu rfl hu hf rfl rfl (fun m w => by simp [CR, real]) (fun q hq => by cases hq; exact ⟨rfl, fun m w n => by simp [EK.rep, RC, real, List.map_replicate]⟩)
theorem ti_u16 (hu : P.underlying T = some (.int .u16)) (hf : facts P T = some (1, 2, some (.int .u16 0))) : TIok P T ⟨.int .u16, 1, 2, .one (.w16 (real.ofI16 0)), some .kH⟩ :=
  .one hu rfl hu hf rfl rfl (fun m w => by simp [CR, real]) (fun q hq => by cases hq; exact ⟨rfl, fun m w n => by simp [EK.rep, RC, real, List.map_replicate]⟩)
theorem ti_u32 (hu : P.underlying T = some (.int .u32)) (hf : facts P T = some (1, 4, some (.int .u32 0))) : TIok P T ⟨.int .u32, 1, 4, .one (.w32 (real.ofI32 0)), some .kW⟩ :=
  .one hu rfl hu hf rfl rfl (fun m w => by simp [CR, real]) (fun q hq => by cases hq; exact ⟨rfl, fun m w n => by simp [EK.rep, RC, real, List.map_replicate]⟩)
theorem ti_u64 (hu : P.underlying T = some (.int .u64)) (hf : facts P T = some (1, 8, some (.int .u64 0))) : TIok P T ⟨.int .u64, 1, 8, .one (.w64 (real.ofI64 0)), some .kQ⟩ :=
  .one hu rfl hu hf rfl rfl (fun m w => by simp [CR, real]) (fun q hq => by cases hq; exact ⟨rfl, fun m w n => by simp [EK.rep, RC, real, List.map_replicate]⟩)
theorem ti_bool (hu : P.underlying T = some .bool) (hf : facts P T = some (1, 1, some (.bool false))) : TIok P T ⟨.bool, 1, 1, .one (.b false), none⟩ :=
  .one hu rfl hu hf rfl rfl (fun m w => by simp [CR]) (fun q hq => by cases hq)
theorem ti_str (hu : P.underlying T = some .string) (hf : facts P T = some (1, 16, some (.string ⟨#[]⟩))) : TIok P T ⟨.str, 1, 16, .one (.s []), some .kS⟩ :=
  .one hu rfl hu hf rfl rfl (fun m w => by simp [CR]) (fun q hq => by cases hq; exact ⟨rfl, fun m w n => by simp [EK.rep, RC, real, List.map_replicate]⟩)
theorem ti_slice {e : Nat} (hu : P.underlying T = some (.slice e)) (hf : facts P T = some (1, 24, some (.slice none 0 0))) : TIok P T ⟨.slice e, 1, 24, .one .nl, none⟩ :=
  .one hu rfl hu hf rfl rfl (fun m w => by simp [CR]) (fun q hq => by cases hq)
theorem ti_ptr {e : Nat} (hu : P.underlying T = some (.pointer e)) (hf : facts P T = some (1, 8, some (.pointer none))) : TIok P T ⟨.ptr e, 1, 8, .one .pn, none⟩ :=
  .one hu rfl hu hf rfl rfl (fun m w => by simp [CR]) (fun q hq => by cases hq)
/-- arrays of numbers, of texts -/
def EK.zero : EK → Value
  | .kB => .int .u8 0
  | .kH => .int .u16 0
  | .kW => .int .u32 0
  | .kQ => .int .u64 0
  | .kI => .int .i64 0
  | .kS => .string ⟨#[]⟩
  | .kD _ => .nilFunc
theorem rep_RC (q : EK) (hq : ∀ sh, q ≠ .kD sh) (m : Hd) (w : World) (n : Nat) : RC m w (q.rep real n) (List.replicate n q.zero) := by
  cases q <;> first | exact absurd rfl (hq _) | simp [EK.rep, EK.zero, RC, real, List.map_replicate]
/-- what lies in cells of nought -/
def zc1 : AV → Option Value
  | .i n => some (.int .i64 n)
  | .w8 x => some (E8 x)
  | .w16 x => some (E16 x)
  | .w32 x => some (E32 x)
  | .w64 x => some (E64 x)
  | .b x => some (.bool x)
  | .s x => some (ES x)
  | .nl => some (.slice none 0 0)
  | .pn => some (.pointer none)
  | .mn => some (.map none)
  | _ => none
theorem zc1_CR {m : Hd} {w : World} {a : AV} {v : Value} (h : zc1 a = some v) : CR m w a [v] := by
  cases a <;> simp only [zc1, Option.some.injEq, reduceCtorEq] at h <;> subst h <;> simp [CR]
def zcA : AC → Option (List Value)
  | .bt xs => some (xs.map E8)
  | .wh xs => some (xs.map E16)
  | .wd xs => some (xs.map E32)
  | .ww xs => some (xs.map E64)
  | .is xs => some (xs.map EI)
  | .ss xs => some (xs.map ES)
  | _ => none
theorem zcA_RC {m : Hd} {w : World} {a : AC} {v : List Value} (h : zcA a = some v) : RC m w a v := by
  cases a <;> simp only [zcA, Option.some.injEq, reduceCtorEq] at h <;> subst h <;> simp [RC]
mutual
def Lay.zc : Lay → Option (List Value)
  | .one a => (zc1 a).map fun v => [v]
  | .arr n c => match zcA c with
    | some l => if l.length = n then some l else none
    | none => none
  | .st l => lzc l
def lzc : List Lay → Option (List Value)
  | [] => some []
  | a :: r => match a.zc, lzc r with
    | some x, some y => some (x ++ y)
    | _, _ => none
end
theorem SegsR_append {m : Hd} {w : World} : ∀ {s t : List Seg} {x y : List Value}, SegsR m w s x → SegsR m w t y → SegsR m w (s ++ t) (x ++ y)
  | [], t, x, y, hs, ht => by
    simp only [SegsR] at hs
    subst hs
    exact ht
  | (n, c) :: s, t, x, y, hs, ht => by
    simp only [SegsR, List.cons_append] at hs ⊢
    obtain ⟨d, r, rfl, h1, h2, h3⟩ := hs
    exact ⟨d, r ++ y, by simp, h1, h2, SegsR_append h3 ht⟩
mutual
theorem zc_SegsR {m : Hd} {w : World} : ∀ (l : Lay) {x : List Value}, l.zc = some x → SegsR m w l.segs x
  | .one a, x, h => by
    simp only [Lay.zc, Option.map_eq_some_iff] at h
    obtain ⟨v, h1, rfl⟩ := h
    simp only [Lay.segs, SegsR]
    refine ⟨[v], [], rfl, rfl, ?_, rfl⟩
    simp only [RC, LR]
    exact ⟨[v], [], rfl, zc1_CR h1, rfl⟩
  | .arr n c, x, h => by
    simp only [Lay.zc] at h
    split at h
    · rename_i l hl
      split at h
      · rename_i hn
        cases h
        simp only [Lay.segs, SegsR]
        exact ⟨_, [], (List.append_nil _).symm, hn, zcA_RC hl, rfl⟩
      · cases h
    · cases h
  | .st l, x, h => by
    simp only [Lay.zc, Lay.segs] at h ⊢
    exact lzc_SegsR l h
theorem lzc_SegsR {m : Hd} {w : World} : ∀ (l : List Lay) {x : List Value}, lzc l = some x → SegsR m w (lsegs l) x
  | [], x, h => by
    simp only [lzc, Option.some.injEq] at h
    subst h
    simp only [lsegs, SegsR]
  | a :: r, x, h => by
    simp only [lzc] at h
    split at h
    · rename_i u v h1 h2
      cases h
      simp only [lsegs]
      exact SegsR_append (zc_SegsR a h1) (lzc_SegsR r h2)
    · cases h
end
mutual
def Sh.zc : Sh → List Value
  | .i => [.int .i64 0]
  | .w8 => [.int .u8 0]
  | .w32 => [.int .u32 0]
  | .w64 => [.int .u64 0]
  | .b => [.bool false]
  | .s => [.string ⟨#[]⟩]
  | .l8 n => List.replicate n (.int .u8 0)
  | .ss => [.slice none 0 0]
  | .bs => [.slice none 0 0]
  | .t l => Sh.lzc l
  | .sl _ => [.slice none 0 0]
def Sh.lzc : List Sh → List Value
  | [] => []
  | a :: l => a.zc ++ Sh.lzc l
end
theorem zeros_get : ∀ (l : List Sh) (j : Nat), (Sh.zeros l)[j]? = l[j]?.map Sh.zero
  | [], j => by simp [Sh.zeros]
  | a :: l, 0 => by simp [Sh.zeros]
  | a :: l, j + 1 => by simp [Sh.zeros, zeros_get l j]
mutual
theorem DR_zero {m : Hd} {w : World} : ∀ (sh : Sh), DR m w sh sh.zero sh.zc
  | .i => by simp [DR, Sh.zero, Sh.zc, D.gi]
  | .w8 => by simp [DR, Sh.zero, Sh.zc, D.g8]
  | .w32 => by simp [DR, Sh.zero, Sh.zc, D.g32]
  | .w64 => by simp [DR, Sh.zero, Sh.zc, D.g64]
  | .b => by simp [DR, Sh.zero, Sh.zc, D.gb]
  | .s => by simp [DR, Sh.zero, Sh.zc, D.gs]
  | .l8 n => by simp [DR, Sh.zero, Sh.zc, D.gl8, E8]
  | .ss => by
    simp only [DR, Sh.zero, Sh.zc]
    exact ⟨none, 0, 0, [], rfl, by simp [D.gss], rfl, Nat.le_refl _, fun h => by omega⟩
  | .bs => by
    simp only [DR, Sh.zero, Sh.zc]
    exact ⟨none, 0, 0, [], rfl, by simp [D.gl8], rfl, Nat.le_refl _, fun h => by omega⟩
  | .sl sh => by
    simp only [DR, Sh.zero, Sh.zc]
    exact ⟨none, 0, 0, [], rfl, ⟨[], by simp [D.gt], rfl, fun j x y h => by simp at h⟩, by simp, Nat.le_refl _, fun h => by omega⟩
  | .t l => by
    simp only [DR, Sh.zero, Sh.zc]
    exact DRs_zero l _ 0 (fun j sh hj => by simp [D.fld, D.gt, List.getD_eq_getElem?_getD, zeros_get, hj])
theorem DRs_zero {m : Hd} {w : World} : ∀ (l : List Sh) (d : D) (j : Nat), (∀ i sh, l[i]? = some sh → d.fld (j + i) = sh.zero) → DRs m w l d j (Sh.lzc l)
  | [], d, j, h => by simp [DRs, Sh.lzc]
  | a :: l, d, j, h => by
    simp only [DRs, Sh.lzc]
    refine ⟨a.zc, Sh.lzc l, rfl, ?_, DRs_zero l d (j + 1) (fun i sh hi => ?_)⟩
    · have := h 0 a (by simp)
      rw [Nat.add_zero] at this
      rw [this]
      exact DR_zero a
    · have := h (i + 1) sh (by simpa using hi)
      rw [← this]
      congr 1
      omega
end
mutual
theorem zc_len : ∀ (sh : Sh), sh.zc.length = sh.cells
  | .i => rfl
  | .w8 => rfl
  | .w32 => rfl
  | .w64 => rfl
  | .b => rfl
  | .s => rfl
  | .l8 n => by simp [Sh.zc, Sh.cells]
  | .ss => rfl
  | .bs => rfl
  | .sl sh => rfl
  | .t l => by simp only [Sh.zc, Sh.cells]; exact lzc_len l
theorem lzc_len : ∀ (l : List Sh), (Sh.lzc l).length = Sh.lcells l
  | [] => rfl
  | a :: l => by simp [Sh.lzc, Sh.lcells, zc_len a, lzc_len l]
end
theorem kD_RC {m : Hd} {w : World} (sh : Sh) (n : Nat) : RC m w ((EK.kD sh).rep real n) (List.replicate n sh.zc).flatten := by
  show RC m w (.ds sh (List.replicate n sh.zero)) _
  simp only [RC]
  refine ⟨List.replicate n sh.zc, by simp, rfl, fun j x y hx hy => ?_⟩
  obtain ⟨_, rfl⟩ := List.getElem?_eq_some_iff.1 hx
  obtain ⟨_, rfl⟩ := List.getElem?_eq_some_iff.1 hy
  simp only [List.getElem_replicate]
  exact ⟨zc_len sh, DR_zero sh⟩
theorem ek_kD {z : Value} {sz : Nat} (o : Option Sh) (hz : ∀ sh, o = some sh → sh.cells = sz ∧ z.cells.toList = sh.zc ∧ (sh.zc.all fun v => v.oneCell') = true) : ∀ ek, o.map EK.kD = some ek → ek.esz = sz ∧ (∀ v ∈ z.cells.toList, v.oneCell' = true) ∧ ∀ m w n, RC m w (ek.rep real n) (List.replicate n z.cells.toList).flatten := by
  intro ek hek
  cases o with
  | none => cases hek
  | some sh =>
    cases hek
    obtain ⟨h1, h2, h3⟩ := hz sh rfl
    rw [h2]
    exact ⟨h1, fun v hv => List.all_eq_true.1 h3 v hv, fun m w n => kD_RC sh n⟩
/-- what a kind of elements of many cells asks -/
def shOK (sz : Nat) (zs : List Value) : Option Sh → Prop
  | none => True
  | some sh => sh.cells = sz ∧ zs = sh.zc ∧ (sh.zc.all fun v => v.oneCell') = true
theorem shOK_ek {z : Value} {sz : Nat} {o : Option Sh} {zs : List Value} (h : shOK sz zs o) (hz : z.cells.toList = zs) : ∀ ek, o.map EK.kD = some ek → ek.esz = sz ∧ (∀ v ∈ z.cells.toList, v.oneCell' = true) ∧ ∀ m w n, RC m w (ek.rep real n) (List.replicate n z.cells.toList).flatten :=
  ek_kD o (fun sh hsh => by subst hsh; exact ⟨h.1, hz.trans h.2.1, h.2.2⟩)
theorem ti_arr {n e b k : Nat} (q : EK) (o : Option Sh) (hq : ∀ sh, q ≠ .kD sh) (hu : P.underlying T = some (.array n e)) (hf : facts P T = some (k, b, some (.agg (List.replicate k q.zero).toArray))) (ho : shOK k (List.replicate k q.zero) o) : TIok P T ⟨.arr n e, k, b, .arr k (q.rep real k), o.map .kD⟩ := by
  obtain ⟨i, h1, h2, h3, h4⟩ := facts_info hf
  have hz : (Value.agg (List.replicate k q.zero).toArray).cells.toList = List.replicate k q.zero := by simp [Value.cells]
  refine ⟨fun fs h => (by cases h), fun fs lays h1 h2 => (by cases h2), hu, by rw [hu]; rfl, rfl, i, _, h1, h2, h3, h4, by rw [← Array.length_toList, hz]; simp, fun m w => ?_, shOK_ek ho hz⟩
  rw [hz]
  simp only [Lay.segs, SegsR]
  exact ⟨_, [], (List.append_nil _).symm, by simp, rep_RC q hq m w k, rfl⟩
/-- structs -/
theorem ti_st {b k : Nat} {fs : List (Nat × Nat × Nat)} {lays : List Lay} (o : Option Sh) (hpl : stPlain P T = true) (gs : List Field) (zs : List Value) (hu : P.underlying T = some (.struct gs.toArray)) (hfs : gs.map (fun f => (f.type, f.offset)) = fs.map (fun x => (x.1, x.2.2)))
    (hl : gs.map (fun f => (f.offset, P.cellsOf f.type)) = layOffs 0 lays) (hc : lcells lays = k) (hn : (gs.all fun f => P.cellsOf f.type != 0) = true) (hz : lzc lays = some zs) (hlen : zs.length = k) (hf : facts P T = some (k, b, some (.agg zs.toArray))) (ho : shOK k zs o) : TIok P T ⟨.st fs, k, b, .st lays, o.map .kD⟩ := by
  obtain ⟨i, h1, h2, h3, h4⟩ := facts_info hf
  have hzz : (Value.agg zs.toArray).cells.toList = zs := by simp [Value.cells]
  refine ⟨fun _ _ => hpl, fun fs' lays' e1 e2 => ?_, ⟨_, hu, by simpa using hfs, fun f hf => ?_⟩, by rw [hu]; rfl, hc, i, _, h1, h2, h3, h4, by rw [← Array.length_toList, hzz]; exact hlen, fun m w => ?_, shOK_ek ho hzz⟩
  · cases e2
    exact ⟨_, hu, by simpa using hl⟩
  · simpa using List.all_eq_true.1 hn f (by simpa using hf)
  · rw [hzz]
    simp only [Lay.segs]
    exact lzc_SegsR lays hz
def fieldsOf (P : Program) (T : Nat) : Option (List Field) := match P.underlying T with
  | some (.struct gs) => some gs.toList
  | _ => none
/-- the same, the fields read off the table -/
theorem ti_stK {b k : Nat} {fs : List (Nat × Nat × Nat)} {lays : List Lay} (o : Option Sh) (hpl : stPlain P T = true) (hu : (fieldsOf P T).isSome = true) (hfs : ((fieldsOf P T).getD []).map (fun f => (f.type, f.offset)) = fs.map (fun x => (x.1, x.2.2)))
    (hl : ((fieldsOf P T).getD []).map (fun f => (f.offset, P.cellsOf f.type)) = layOffs 0 lays) (hc : lcells lays = k) (hn : (((fieldsOf P T).getD []).all fun f => P.cellsOf f.type != 0) = true) (hz : (lzc lays).isSome = true) (hlen : ((lzc lays).getD []).length = k)
    (hf : facts P T = some (k, b, some (.agg ((lzc lays).getD []).toArray))) (ho : shOK k ((lzc lays).getD []) o) : TIok P T ⟨.st fs, k, b, .st lays, o.map .kD⟩ := by
  refine ti_st o hpl ((fieldsOf P T).getD []) ((lzc lays).getD []) ?_ hfs hl hc hn ?_ hlen hf ho
  · unfold fieldsOf at hu ⊢
    split at hu
    · rename_i gs h
      rw [h]
      simp
    · cases hu
  · cases h : lzc lays with
    | none => rw [h] at hz; cases hz
    | some x => rfl
theorem ttok_nil : TTok P [] := fun p hp => by simp at hp
theorem ttok_cons {ti : TI} {r : TT} (h : TIok P T ti) (hr : TTok P r) : TTok P ((T, ti) :: r) := fun p hp => by
  rcases List.mem_cons.1 hp with rfl | hp
  · exact h
  · exact hr p hp
theorem sp_nil : SpecsOK P [] := fun p hp => by simp at hp
theorem sp_cons {f : Nat} {s : Spec} {r : Specs} (hr : Ready P f) (h : SpecOK P f s) (hs : SpecsOK P r) : SpecsOK P ((f, s) :: r) := fun p hp => by
  rcases List.mem_cons.1 hp with rfl | hp
  · exact ⟨hr, h⟩
  · exact hs p hp
theorem ks_nil : KSpecsOK P [] := fun p hp => by simp at hp
theorem ks_cons {f : Nat} {s : KSpec} {r : List (Nat × KSpec)} (hr : Ready P f) (h : KSpecOK P f s) (hs : KSpecsOK P r) : KSpecsOK P ((f, s) :: r) := fun p hp => by
  rcases List.mem_cons.1 hp with rfl | hp
  · exact ⟨hr, h⟩
  · exact hs p hp
end
end Go.Vc
set_option linter.unusedVariables false
set_option linter.unusedSimpArgs false
namespace Go.Vc
open Go Go.RowKit
section
variable {P : Program} {f : Nat}
/-- no contract -/
def noSpec : Spec := fun _ _ => .no
theorem no_ok : SpecOK P f noSpec := by
  intro m w me kb args vals e hgi hb hv he hc
  exact (Look.run_no he).elim
/-- a contract for each form of the first argument: nil; a row that stays; a row of the caller's own; a stretch of one -/
def pick4 (n b r s : Spec) : Spec := fun args kb => match args with
  | .nl :: _ => n args kb
  | .rb _ _ :: _ => b args kb
  | .rw _ :: _ => r args kb
  | .sl _ _ _ _ _ _ :: _ => s args kb
  | _ => .no
theorem pick4_ok {n b r s : Spec} (hn : SpecOK P f n) (hb' : SpecOK P f b) (hr : SpecOK P f r) (hs : SpecOK P f s) : SpecOK P f (pick4 n b r s) := by
  intro m w me kb args vals e hgi hb hv he hc
  unfold pick4 at he
  split at he
  · exact hn m w me kb _ vals e hgi hb hv he hc
  · exact hb' m w me kb _ vals e hgi hb hv he hc
  · exact hr m w me kb _ vals e hgi hb hv he hc
  · exact hs m w me kb _ vals e hgi hb hv he hc
  · exact (Look.run_no he).elim
theorem rw_sl {m : Hd} {w : World} {me : Mem} (hm : MemR m w me) {k T : Nat} {xs : List UInt8} (hk : mlook me k = some (.row T 1 (.bt xs))) {v : Value} (hv : RV m w (.rw k) v) : RV m w (.sl k 0 0 1 0 xs.length) v := by
  obtain ⟨v', n', cs, h1, ⟨h2, h3⟩, h4⟩ := hm.at_ k _ hk
  simp only [RV, CR] at hv ⊢
  obtain ⟨u, hu1, hu2, _⟩ := hv
  rw [h1] at hu1; cases hu1
  simp only [List.cons.injEq, and_true] at hu2
  subst hu2
  simp only [RC] at h4
  have hn : n' = xs.length := by rw [h4] at h2; simpa using h2.symm
  subst hn
  rcases h3 with ⟨ad, rfl, h5⟩ | ⟨g, o, cap, cur, fz, rfl, h6, h7, h8, h9, _⟩
  · exact ⟨_, ad, 0, h1, by rw [h5], by omega, by omega, fun c hc => by simp only [capOf, Option.some.injEq] at hc; omega⟩
  · exact ⟨_, some ⟨g, o, none⟩, cap, h1, rfl, h8, fun _ => ⟨g, blk_slice h9, by simp [bof]⟩, fun c hc => by simp only [capOf, Option.some.injEq] at hc; omega⟩
/-- a whole row of the caller's own, told as a stretch -/
def asSl (F : Fs) (s : Spec) : Spec := fun args kb => match args with
  | .rw k :: r => .look k fun
    | .row _ 1 (.bt xs) => s (.sl k 0 0 1 0 (F.lenB xs) :: r) kb
    | _ => .no
  | _ => .no
theorem asSl_ok {s : Spec} (hs : SpecOK P f s) : SpecOK P f (asSl real s) := by
  intro m w me kb args vals e hgi hb hv he hc
  unfold asSl at he
  split at he
  · rename_i k r
    simp only [Look.run] at he
    split at he
    · rename_i ab hk
      split at he
      · rename_i T xs
        refine hs m w me kb _ vals e hgi hb ?_ he hc
        simp only [RVs] at hv ⊢
        obtain ⟨v, q, rfl, h1, h2⟩ := hv
        exact ⟨v, q, rfl, rw_sl hb.mem hk h1, h2⟩
      · exact (Look.run_no he).elim
    · cases he
  · exact (Look.run_no he).elim
end
end Go.Vc
set_option linter.unusedVariables false
set_option linter.unusedSimpArgs false
namespace Go.Vc
open Go Go.RowKit
section
variable {P : Program} {T : Nat}
/-- the value of nought of a shape -/
def Sh.zval (sh : Sh) : Value := match sh.isAgg with
  | true => .agg sh.zc.toArray
  | false => sh.zc.getD 0 .nilFunc
theorem zval_DV (sh : Sh) (h : sh.isAgg = true ∨ sh.zc.length = 1) (m : Hd) (w : World) : DV m w sh sh.zero sh.zval := by
  refine ⟨sh.zc, DR_zero sh, ?_⟩
  unfold Sh.zval
  cases hs : sh.isAgg with
  | true => rfl
  | false =>
    rw [hs] at h
    rcases h with h | h
    · cases h
    · match hz : sh.zc, h with
      | [v], _ => rfl
theorem kk_i {k : Nat} (h : P.underlying k = some (.int .i64)) : KKok P k .i := h
theorem kk_s {k : Nat} (h : P.underlying k = some .string) : KKok P k .s := h
theorem kk_l8 {k n e : Nat} (h : P.underlying k = some (.array n e)) (he : P.underlying e = some (.int .u8)) (hf : facts P e = some (1, 1, some (.int .u8 0))) : KKok P k (.l8 n) := by
  obtain ⟨i, h1, h2, h3, h4⟩ := facts_info hf
  exact ⟨e, i, h, he, h1, h2⟩
theorem ti_map {k e c b : Nat} {kk : KK} {sh : Sh} (hu : P.underlying T = some (.map k e)) (hf : facts P T = some (1, 8, some (.map none))) (hk : KKok P k kk) (he : facts P e = some (c, b, some sh.zval)) (hs : sh.isAgg = true ∨ sh.zc.length = 1) :
    TIok P T ⟨.map k kk e sh, 1, 8, .one .mn, none⟩ := by
  obtain ⟨i, h1, h2, h3, h4⟩ := facts_info he
  exact .one hu rfl ⟨hu, hk, i, _, h1, h4, zval_DV sh hs⟩ hf rfl rfl (fun m w => by simp [CR]) (fun q hq => by cases hq)
end
end Go.Vc
set_option maxRecDepth 100000
namespace Go.Proofs.Ythhgmjclmdggjaa
open Go Go.Vc
/-- arrays of bools -/
theorem ti_arrB {P : Program} {T n e b : Nat} (hu : P.underlying T = some (.array n e)) (hf : facts P T = some (n, b, some (.agg (List.replicate n (.bool false)).toArray))) : TIok P T ⟨.arr n e, n, b, .arr n ((EK.kD .b).rep real n), none⟩ := by
  obtain ⟨i, h1, h2, h3, h4⟩ := facts_info hf
  have hz : (Value.agg (List.replicate n (.bool false)).toArray).cells.toList = List.replicate n (.bool false) := by simp [Value.cells]
  refine ⟨fun fs h => (by cases h), fun fs lays h1 h2 => (by cases h2), hu, by rw [hu]; rfl, rfl, i, _, h1, h2, h3, h4, by rw [← Array.length_toList, hz]; simp, fun m w => ?_, shOK_ek (o := none) trivial hz⟩
  rw [hz]
  simp only [Lay.segs, SegsR]
  have hb : RC m w ((EK.kD .b).rep real n) (List.replicate n (.bool false)) := by
    have h := kD_RC (m := m) (w := w) .b n
    have e : (List.replicate n Sh.b.zc).flatten = List.replicate n (.bool false) := by
      have : Sh.b.zc = [.bool false] := rfl
      rw [this]
      simp
    rw [e] at h
    exact h
  exact ⟨_, [], (List.append_nil _).symm, by simp, hb, rfl⟩
/-- the program's types -/
def tt (F : Fs) : TT := [
  (2, ⟨.int .i64, 1, 8, .one (.i 0), some .kI⟩),
  (3, ⟨.int .i64, 1, 8, .one (.i 0), some .kI⟩),
  (4, ⟨.bool, 1, 1, .one (.b false), none⟩),
  (5, ⟨.int .u8, 1, 1, .one (.w8 (F.ofI8 0)), some .kB⟩),
  (9, ⟨.str, 1, 16, .one (.s []), some .kS⟩),
  (22, ⟨.slice 5, 1, 24, .one .nl, none⟩),
  (24, ⟨.ptr 47, 1, 8, .one .pn, none⟩),
  (26, ⟨.int .i64, 1, 8, .one (.i 0), some .kI⟩),
  (28, ⟨.arr 64 5, 64, 64, .arr 64 (.bt (F.repB 64)), some (.kD (.l8 64))⟩),
  (29, ⟨.arr 8 28, 512, 512, .arr 512 (.bt (F.repB 512)), none⟩),
  (36, ⟨.arr 6 4, 6, 6, .arr 6 ((EK.kD .b).rep F 6), none⟩),
  (37, ⟨.arr 6 5, 6, 6, .arr 6 (.bt (F.repB 6)), some (.kD (.l8 6))⟩),
  (42, ⟨.st [(3, 0, 0), (3, 1, 1)], 2, 16, .st [.one (.i 0), .one (.i 0)], some (.kD (.t [.i, .i]))⟩),
  (43, ⟨.st [(3, 0, 0), (3, 1, 1)], 2, 16, .st [.one (.i 0), .one (.i 0)], some (.kD (.t [.i, .i]))⟩),
  (44, ⟨.slice 60, 1, 24, .one .nl, none⟩),
  (45, ⟨.map 3 .i 60 (.l8 64), 1, 8, .one .mn, none⟩),
  (46, ⟨.st [(43, 0, 0), (44, 2, 2), (45, 3, 3)], 4, 48, .st [.st [.one (.i 0), .one (.i 0)], .one .nl, .one .mn], none⟩),
  (47, ⟨.st [(43, 0, 0), (44, 2, 2), (45, 3, 3)], 4, 48, .st [.st [.one (.i 0), .one (.i 0)], .one .nl, .one .mn], none⟩),
  (49, ⟨.slice 53, 1, 24, .one .nl, none⟩),
  (50, ⟨.ptr 72, 1, 8, .one .pn, none⟩),
  (52, ⟨.st [(3, 0, 0), (3, 1, 1), (22, 2, 2), (3, 3, 3), (22, 4, 4)], 5, 72, .st [.one (.i 0), .one (.i 0), .one .nl, .one (.i 0), .one .nl], none⟩),
  (53, ⟨.st [(3, 0, 0), (3, 1, 1), (22, 2, 2), (3, 3, 3), (22, 4, 4)], 5, 72, .st [.one (.i 0), .one (.i 0), .one .nl, .one (.i 0), .one .nl], none⟩),
  (60, ⟨.arr 64 5, 64, 64, .arr 64 (.bt (F.repB 64)), some (.kD (.l8 64))⟩),
  (62, ⟨.slice 3, 1, 24, .one .nl, none⟩),
  (68, ⟨.ptr 43, 1, 8, .one .pn, none⟩),
  (69, ⟨.slice 28, 1, 24, .one .nl, none⟩),
  (70, ⟨.slice 4, 1, 24, .one .nl, none⟩),
  (71, ⟨.st [(69, 0, 0), (69, 1, 1), (70, 2, 2), (3, 3, 3), (3, 4, 4), (4, 5, 5)], 6, 96, .st [.one .nl, .one .nl, .one .nl, .one (.i 0), .one (.i 0), .one (.b false)], none⟩),
  (72, ⟨.st [(69, 0, 0), (69, 1, 1), (70, 2, 2), (3, 3, 3), (3, 4, 4), (4, 5, 5)], 6, 96, .st [.one .nl, .one .nl, .one .nl, .one (.i 0), .one (.i 0), .one (.b false)], none⟩),
  (83, ⟨.int .u64, 1, 8, .one (.w64 (F.ofI64 0)), some .kQ⟩),
  (94, ⟨.int .u32, 1, 4, .one (.w32 (F.ofI32 0)), some .kW⟩),
  (96, ⟨.int .u64, 1, 8, .one (.w64 (F.ofI64 0)), some .kQ⟩),
  (101, ⟨.ptr 3, 1, 8, .one .pn, none⟩),
  (103, ⟨.ptr 97, 1, 8, .one .pn, none⟩),
  (115, ⟨.ptr 5, 1, 8, .one .pn, none⟩)]
theorem ty2 : TIok Try.prog 2 ⟨.int .i64, 1, 8, .one (.i 0), some .kI⟩ := ti_i64 (by kernel_rfl) (by kernel_rfl)
theorem ty3 : TIok Try.prog 3 ⟨.int .i64, 1, 8, .one (.i 0), some .kI⟩ := ti_i64 (by kernel_rfl) (by kernel_rfl)
theorem ty4 : TIok Try.prog 4 ⟨.bool, 1, 1, .one (.b false), none⟩ := ti_bool (by kernel_rfl) (by kernel_rfl)
theorem ty5 : TIok Try.prog 5 ⟨.int .u8, 1, 1, .one (.w8 (real.ofI8 0)), some .kB⟩ := ti_u8 (by kernel_rfl) (by kernel_rfl)
theorem ty9 : TIok Try.prog 9 ⟨.str, 1, 16, .one (.s []), some .kS⟩ := ti_str (by kernel_rfl) (by kernel_rfl)
theorem ty22 : TIok Try.prog 22 ⟨.slice 5, 1, 24, .one .nl, none⟩ := ti_slice (by kernel_rfl) (by kernel_rfl)
theorem ty24 : TIok Try.prog 24 ⟨.ptr 47, 1, 8, .one .pn, none⟩ := ti_ptr (by kernel_rfl) (by kernel_rfl)
theorem ty26 : TIok Try.prog 26 ⟨.int .i64, 1, 8, .one (.i 0), some .kI⟩ := ti_i64 (by kernel_rfl) (by kernel_rfl)
theorem ty28 : TIok Try.prog 28 ⟨.arr 64 5, 64, 64, .arr 64 (.bt (real.repB 64)), some (.kD (.l8 64))⟩ := ti_arr .kB (some (.l8 64)) (fun _ h => nomatch h) (by kernel_rfl) (by kernel_rfl) ⟨by kernel_rfl, by kernel_rfl, by kernel_rfl⟩
theorem ty29 : TIok Try.prog 29 ⟨.arr 8 28, 512, 512, .arr 512 (.bt (real.repB 512)), none⟩ := ti_arr .kB none (fun _ h => nomatch h) (by kernel_rfl) (by kernel_rfl) trivial
theorem ty36 : TIok Try.prog 36 ⟨.arr 6 4, 6, 6, .arr 6 ((EK.kD .b).rep real 6), none⟩ := ti_arrB (by kernel_rfl) (by kernel_rfl)
theorem ty37 : TIok Try.prog 37 ⟨.arr 6 5, 6, 6, .arr 6 (.bt (real.repB 6)), some (.kD (.l8 6))⟩ := ti_arr .kB (some (.l8 6)) (fun _ h => nomatch h) (by kernel_rfl) (by kernel_rfl) ⟨by kernel_rfl, by kernel_rfl, by kernel_rfl⟩
theorem ty42 : TIok Try.prog 42 ⟨.st [(3, 0, 0), (3, 1, 1)], 2, 16, .st [.one (.i 0), .one (.i 0)], some (.kD (.t [.i, .i]))⟩ := ti_stK (some (.t [.i, .i])) (by kernel_rfl) (by kernel_rfl) (by kernel_rfl) (by kernel_rfl) (by kernel_rfl) (by kernel_rfl) (by kernel_rfl) (by kernel_rfl) (by kernel_rfl) ⟨by kernel_rfl, by kernel_rfl, by kernel_rfl⟩
theorem ty43 : TIok Try.prog 43 ⟨.st [(3, 0, 0), (3, 1, 1)], 2, 16, .st [.one (.i 0), .one (.i 0)], some (.kD (.t [.i, .i]))⟩ := ti_stK (some (.t [.i, .i])) (by kernel_rfl) (by kernel_rfl) (by kernel_rfl) (by kernel_rfl) (by kernel_rfl) (by kernel_rfl) (by kernel_rfl) (by kernel_rfl) (by kernel_rfl) ⟨by kernel_rfl, by kernel_rfl, by kernel_rfl⟩
theorem ty44 : TIok Try.prog 44 ⟨.slice 60, 1, 24, .one .nl, none⟩ := ti_slice (by kernel_rfl) (by kernel_rfl)
theorem ty45 : TIok Try.prog 45 ⟨.map 3 .i 60 (.l8 64), 1, 8, .one .mn, none⟩ := ti_map (c := 64) (b := 64) (by kernel_rfl) (by kernel_rfl) (kk_i (by kernel_rfl)) (by kernel_rfl) (.inl rfl)
theorem ty46 : TIok Try.prog 46 ⟨.st [(43, 0, 0), (44, 2, 2), (45, 3, 3)], 4, 48, .st [.st [.one (.i 0), .one (.i 0)], .one .nl, .one .mn], none⟩ := ti_stK none (by kernel_rfl) (by kernel_rfl) (by kernel_rfl) (by kernel_rfl) (by kernel_rfl) (by kernel_rfl) (by kernel_rfl) (by kernel_rfl) (by kernel_rfl) trivial
theorem ty47 : TIok Try.prog 47 ⟨.st [(43, 0, 0), (44, 2, 2), (45, 3, 3)], 4, 48, .st [.st [.one (.i 0), .one (.i 0)], .one .nl, .one .mn], none⟩ := ti_stK none (by kernel_rfl) (by kernel_rfl) (by kernel_rfl) (by kernel_rfl) (by kernel_rfl) (by kernel_rfl) (by kernel_rfl) (by kernel_rfl) (by kernel_rfl) trivial
theorem ty49 : TIok Try.prog 49 ⟨.slice 53, 1, 24, .one .nl, none⟩ := ti_slice (by kernel_rfl) (by kernel_rfl)
theorem ty50 : TIok Try.prog 50 ⟨.ptr 72, 1, 8, .one .pn, none⟩ := ti_ptr (by kernel_rfl) (by kernel_rfl)
theorem ty52 : TIok Try.prog 52 ⟨.st [(3, 0, 0), (3, 1, 1), (22, 2, 2), (3, 3, 3), (22, 4, 4)], 5, 72, .st [.one (.i 0), .one (.i 0), .one .nl, .one (.i 0), .one .nl], none⟩ := ti_stK none (by kernel_rfl) (by kernel_rfl) (by kernel_rfl) (by kernel_rfl) (by kernel_rfl) (by kernel_rfl) (by kernel_rfl) (by kernel_rfl) (by kernel_rfl) trivial
theorem ty53 : TIok Try.prog 53 ⟨.st [(3, 0, 0), (3, 1, 1), (22, 2, 2), (3, 3, 3), (22, 4, 4)], 5, 72, .st [.one (.i 0), .one (.i 0), .one .nl, .one (.i 0), .one .nl], none⟩ := ti_stK none (by kernel_rfl) (by kernel_rfl) (by kernel_rfl) (by kernel_rfl) (by kernel_rfl) (by kernel_rfl) (by kernel_rfl) (by kernel_rfl) (by kernel_rfl) trivial
theorem ty60 : TIok Try.prog 60 ⟨.arr 64 5, 64, 64, .arr 64 (.bt (real.repB 64)), some (.kD (.l8 64))⟩ := ti_arr .kB (some (.l8 64)) (fun _ h => nomatch h) (by kernel_rfl) (by kernel_rfl) ⟨by kernel_rfl, by kernel_rfl, by kernel_rfl⟩
theorem ty62 : TIok Try.prog 62 ⟨.slice 3, 1, 24, .one .nl, none⟩ := ti_slice (by kernel_rfl) (by kernel_rfl)
theorem ty68 : TIok Try.prog 68 ⟨.ptr 43, 1, 8, .one .pn, none⟩ := ti_ptr (by kernel_rfl) (by kernel_rfl)
theorem ty69 : TIok Try.prog 69 ⟨.slice 28, 1, 24, .one .nl, none⟩ := ti_slice (by kernel_rfl) (by kernel_rfl)
theorem ty70 : TIok Try.prog 70 ⟨.slice 4, 1, 24, .one .nl, none⟩ := ti_slice (by kernel_rfl) (by kernel_rfl)
theorem ty71 : TIok Try.prog 71 ⟨.st [(69, 0, 0), (69, 1, 1), (70, 2, 2), (3, 3, 3), (3, 4, 4), (4, 5, 5)], 6, 96, .st [.one .nl, .one .nl, .one .nl, .one (.i 0), .one (.i 0), .one (.b false)], none⟩ := ti_stK none (by kernel_rfl) (by kernel_rfl) (by kernel_rfl) (by kernel_rfl) (by kernel_rfl) (by kernel_rfl) (by kernel_rfl) (by kernel_rfl) (by kernel_rfl) trivial
theorem ty72 : TIok Try.prog 72 ⟨.st [(69, 0, 0), (69, 1, 1), (70, 2, 2), (3, 3, 3), (3, 4, 4), (4, 5, 5)], 6, 96, .st [.one .nl, .one .nl, .one .nl, .one (.i 0), .one (.i 0), .one (.b false)], none⟩ := ti_stK none (by kernel_rfl) (by kernel_rfl) (by kernel_rfl) (by kernel_rfl) (by kernel_rfl) (by kernel_rfl) (by kernel_rfl) (by kernel_rfl) (by kernel_rfl) trivial
theorem ty83 : TIok Try.prog 83 ⟨.int .u64, 1, 8, .one (.w64 (real.ofI64 0)), some .kQ⟩ := ti_u64 (by kernel_rfl) (by kernel_rfl)
theorem ty94 : TIok Try.prog 94 ⟨.int .u32, 1, 4, .one (.w32 (real.ofI32 0)), some .kW⟩ := ti_u32 (by kernel_rfl) (by kernel_rfl)
theorem ty96 : TIok Try.prog 96 ⟨.int .u64, 1, 8, .one (.w64 (real.ofI64 0)), some .kQ⟩ := ti_u64 (by kernel_rfl) (by kernel_rfl)
theorem ty101 : TIok Try.prog 101 ⟨.ptr 3, 1, 8, .one .pn, none⟩ := ti_ptr (by kernel_rfl) (by kernel_rfl)
theorem ty103 : TIok Try.prog 103 ⟨.ptr 97, 1, 8, .one .pn, none⟩ := ti_ptr (by kernel_rfl) (by kernel_rfl)
theorem ty115 : TIok Try.prog 115 ⟨.ptr 5, 1, 8, .one .pn, none⟩ := ti_ptr (by kernel_rfl) (by kernel_rfl)
theorem tt_ok : TTok Try.prog (tt real) :=
  ttok_cons ty2 (ttok_cons ty3 (ttok_cons ty4 (ttok_cons ty5 (ttok_cons ty9 (ttok_cons ty22 (ttok_cons ty24 (ttok_cons ty26 (ttok_cons ty28 (ttok_cons ty29 (ttok_cons ty36 (ttok_cons ty37 (ttok_cons ty42 (ttok_cons ty43 (ttok_cons ty44 (ttok_cons ty45 (ttok_cons ty46 (ttok_cons ty47 (ttok_cons ty49 (ttok_cons ty50 (ttok_cons ty52 (ttok_cons ty53 (ttok_cons ty60 (ttok_cons ty62 (ttok_cons ty68 (ttok_cons ty69 (ttok_cons ty70 (ttok_cons ty71 (ttok_cons ty72 (ttok_cons ty83 (ttok_cons ty94 (ttok_cons ty96 (ttok_cons ty101 (ttok_cons ty103 (ttok_cons ty115 ttok_nil))))))))))))))))))))))))))))))))))
end Go.Proofs.Ythhgmjclmdggjaa
set_option linter.unusedVariables false
set_option linter.unusedSimpArgs false
set_option maxRecDepth 100000
set_option maxHeartbeats 4000000
namespace Go.Proofs.Ythhgmjclmdggjaa
open Go Go.Vc
/-- the program's plain functions, behind one name -/
structure Us where
  off : Int → Int → Bool
  nlen : Int → Nat
  isI : Int → List D → Bool
  now : List D → MD → Int → List UInt8
  wE : Int → Int → List D → Int → List UInt8 → Int
  wM : Int → Int → List D → MD → Int → List UInt8 → MD
  rE : Int → Int → List D → Int → Int
  rB : Int → Int → List D → MD → Int → List UInt8
  fE : Int → Int → Int
  fX : Int → Int → List D → MD → List D
  fM : Int → Int → MD → MD
  flP : List D → MD → List Nat → List D
  left : MD → List Nat → Nat
  seenOk : MD → List Nat → Prop
  ok : List D → MD → Prop
  torn : List UInt8 → List UInt8 → UInt8 → List UInt8
  dropC : List UInt8 → Nat → List UInt8
  cP : List D → MD → List Int → List UInt8 → Nat → List D
  cX : List D → MD → List UInt8 → List D
  keys : MD → List Int
  imgP : List D → Nat → List UInt8
  img : List D → List UInt8
  pow : Int → Int → Int → Int
  is64 : List UInt8 → Prop
  apM : UInt8 → UInt8 → List UInt8 → List UInt8 → MD
  pwN : Nat → Nat
  pwK : UInt8 → Nat
  pwX : UInt8 → Nat → List D
  pwM : UInt8 → Nat → MD
  chS1 : List Bool → Nat → Nat
  chM1 : List Bool → Nat → MD
  chX : List Bool → List D
  chS2 : List Bool → List Bool → Nat → Nat
  chM2 : List Bool → List Bool → Nat → MD
  chC : List Bool → List Bool → Nat → List UInt8
  chW : List Bool → List Bool → List Bool → Nat → List UInt8
  bD : List Bool → List D
  imM : List UInt8 → List UInt8 → Nat → MD
  imW : List UInt8 → List UInt8 → Nat → List UInt8
  imX : List UInt8 → List UInt8 → Bool → List D
  imM2 : List UInt8 → List UInt8 → Bool → MD
  imS : List UInt8 → Bool → Int
  kpS : Bool → Int
  kpX4 : List UInt8 → List UInt8 → Bool → List D
  kpM4 : List UInt8 → List UInt8 → Bool → MD
  kpX : List UInt8 → List UInt8 → Bool → UInt8 → List D
  kpM : List UInt8 → List UInt8 → Bool → MD
  kpK : Bool → UInt8 → Nat
  kpR : List UInt8 → List UInt8 → Bool → UInt8 → List UInt8
  apW : UInt8 → UInt8 → List UInt8 → List UInt8 → List UInt8
def u_off (st off : Int) : Bool := decide (0 < off) && decide (off ≤ st)
def u_nlen (n : Int) : Nat := (min (max n 0) 4000).toNat
def u_isI (i : Int) (xs : List D) : Bool := decide (0 ≤ i) && decide (i < xs.length)
def z64 : D := .l8 (List.replicate 64 0)
def u_now (xs : List D) (M : MD) (i : Int) : List UInt8 := if M.has (.i i) then (M.get (.i i) z64).gl8 else (xs.getD i.toNat D.no).gl8
def u_wE (st off : Int) (xs : List D) (i : Int) (b : List UInt8) : Int := if u_off (IntKind.i64.wrap (st + 1)) off then 61 else if u_isI i xs && decide (b.length ≤ 64) then 0 else 60
def u_wM (st off : Int) (xs : List D) (M : MD) (i : Int) (b : List UInt8) : MD := if u_wE st off xs i b = 0 then M.set (.i i) (.l8 (b ++ (u_now xs M i).drop b.length)) else M
def u_rE (st off : Int) (xs : List D) (i : Int) : Int := if u_off st off then 61 else if u_isI i xs then 0 else 60
def u_rB (st off : Int) (xs : List D) (M : MD) (i : Int) : List UInt8 := if u_rE st off xs i = 0 then u_now xs M i else []
def u_flP (xs : List D) (M : MD) (seen : List Nat) : List D := seen.foldl (fun l b => l.set (M.keyB b).gi.toNat (M.valB b)) xs
def u_flush (xs : List D) (M : MD) : List D := (List.range xs.length).map fun (i : Nat) => (MD.find M.es (.i (i : Int))).getD (xs.getD i D.no)
def u_fE (st off : Int) : Int := if u_off (IntKind.i64.wrap (st + 1)) off then 61 else 0
def u_fX (st off : Int) (xs : List D) (M : MD) : List D := if u_fE st off = 0 then u_flush xs M else xs
def u_fM (st off : Int) (M : MD) : MD := if u_fE st off = 0 then ⟨[], M.clock⟩ else M
def u_left (M : MD) (seen : List Nat) : Nat := M.es.length - seen.length
def u_seenOk (M : MD) (seen : List Nat) : Prop := seen.Nodup ∧ ∀ b ∈ seen, b ∈ M.es.map (·.1)
def u_ok (xs : List D) (M : MD) : Prop := xs.length ≤ 4000 ∧ (∀ x ∈ xs, ∃ l : List UInt8, x = .l8 l ∧ l.length = 64) ∧ (∀ e ∈ M.es, ∃ (i : Nat) (l : List UInt8), e.2.1 = .i i ∧ i < xs.length ∧ e.2.2 = .l8 l ∧ l.length = 64) ∧ M.ok
def u_torn (was now : List UInt8) (c : UInt8) : List UInt8 := let n := if c = 255 then 64 else c.toNat % 64; now.take n ++ was.drop n
def u_dropC (cs : List UInt8) (j : Nat) : List UInt8 := cs.drop j
def u_cP (xs : List D) (M : MD) (ks : List Int) (cs : List UInt8) : Nat → List D
  | 0 => xs
  | j + 1 => (u_cP xs M ks cs j).set (ks.getD j 0).toNat (.l8 (u_torn ((u_cP xs M ks cs j).getD (ks.getD j 0).toNat D.no).gl8 (M.get (.i (ks.getD j 0)) z64).gl8 (cs.getD j 0)))
def u_keys (M : MD) : List Int := (M.es.map fun e => e.2.1.gi).mergeSort fun x y => decide (x ≤ y)
def u_cX (xs : List D) (M : MD) (cs : List UInt8) : List D := u_cP xs M M.keysI cs M.keysI.length
def u_imgP (xs : List D) (j : Nat) : List UInt8 := ((xs.take j).map D.gl8).flatten
def u_img (xs : List D) : List UInt8 := u_imgP xs xs.length
def u_pow (st off a : Int) : Int := if u_off st off then off else if a ≤ 0 then 0 else IntKind.i64.wrap (st + min a 1099511627776)
def x8 : List D := List.replicate 8 z64
def u_apM (i j : UInt8) (a b : List UInt8) : MD := u_wM 1 0 x8 (u_wM 0 0 x8 ⟨[], 0⟩ ((i.toNat % 8 : Nat) : Int) a) ((j.toNat % 8 : Nat) : Int) b
def u_spl (l : List UInt8) (k : Nat) (a : List UInt8) : List UInt8 := l.take k ++ a ++ l.drop (k + a.length)
def u_apW (i j : UInt8) (a b : List UInt8) : List UInt8 := u_spl (u_spl (List.replicate 512 0) (64 * (i.toNat % 8)) a) (64 * (j.toNat % 8)) b
def x2 : List D := List.replicate 2 z64
def kp_M1 (a : List UInt8) : MD := u_wM 0 0 x2 ⟨[], 0⟩ 0 a
def kp_X2 (a : List UInt8) : List D := u_fX 1 0 x2 (kp_M1 a)
def kp_M2 (a : List UInt8) : MD := u_fM 1 0 (kp_M1 a)
def kp_M3 (a b : List UInt8) : MD := u_wM 2 0 (kp_X2 a) (kp_M2 a) 0 b
def kp_X4 (a b : List UInt8) : Bool → List D
  | true => u_fX 3 0 (kp_X2 a) (kp_M3 a b)
  | false => kp_X2 a
def kp_M4 (a b : List UInt8) : Bool → MD
  | true => u_fM 3 0 (kp_M3 a b)
  | false => kp_M3 a b
def u_kpS : Bool → Int
  | true => 4
  | false => 3
def u_kpX (a b : List UInt8) (f : Bool) (c : UInt8) : List D := u_cX (kp_X4 a b f) (kp_M4 a b f) [c, c]
def u_kpM (a b : List UInt8) (f : Bool) : MD := ⟨[], (kp_M4 a b f).clock⟩
def u_kpK (f : Bool) (c : UInt8) : Nat := if f = true ∨ c = 255 then 64 else c.toNat % 64
def u_kpR (a b : List UInt8) (f : Bool) (c : UInt8) : List UInt8 := b.take (u_kpK f c) ++ a.drop (u_kpK f c)
def x4 : List D := List.replicate 4 z64
def u_pwN (j : Nat) : Nat := j + j / 5
def u_pwK (a : UInt8) : Nat := a.toNat % 12 + 1
def u_pw (a : UInt8) : Nat → List D × MD
  | 0 => (x4, ⟨[], 0⟩)
  | j + 1 =>
    let X := (u_pw a j).1
    let M1 := u_wM ((u_pwN j : Nat) : Int) ((u_pwK a : Nat) : Int) X (u_pw a j).2 (((j + 1 : Nat) : Int).tmod 4) [real.ofI8 ((j + 1 : Nat) : Int)]
    if (j + 1) % 5 = 0 then (u_fX (IntKind.i64.wrap ((u_pwN j : Nat) + 1)) ((u_pwK a : Nat) : Int) X M1, u_fM (IntKind.i64.wrap ((u_pwN j : Nat) + 1)) ((u_pwK a : Nat) : Int) M1) else (X, M1)
def x6 : List D := List.replicate 6 z64
def u_chS (l : List Bool) : Nat → Nat
  | 0 => 0
  | i + 1 => if l.getD i false = true then u_chS l i + 1 else u_chS l i
def u_chM1 (l : List Bool) : Nat → MD
  | 0 => ⟨[], 0⟩
  | i + 1 => if l.getD i false = true then u_wM ((u_chS l i : Nat) : Int) 0 x6 (u_chM1 l i) ((i : Nat) : Int) [1] else u_chM1 l i
def u_chX (l : List Bool) : List D := u_fX ((u_chS l 6 : Nat) : Int) 0 x6 (u_chM1 l 6)
def u_chS2 (l w : List Bool) (i : Nat) : Nat := u_chS l 6 + 1 + u_chS w i
def u_chM2 (l w : List Bool) : Nat → MD
  | 0 => u_fM ((u_chS l 6 : Nat) : Int) 0 (u_chM1 l 6)
  | i + 1 => if w.getD i false = true then u_wM ((u_chS2 l w i : Nat) : Int) 0 (u_chX l) (u_chM2 l w i) ((i : Nat) : Int) [2] else u_chM2 l w i
def u_chC (w c : List Bool) : Nat → List UInt8
  | 0 => []
  | i + 1 => if w.getD i false = true then u_chC w c i ++ [if c.getD i false = true then 255 else 0] else u_chC w c i
def u_chW (l w c : List Bool) : Nat → List UInt8
  | 0 => List.replicate 6 0
  | i + 1 =>
    let w1 := if l.getD i false = true then (u_chW l w c i).set i 1 else u_chW l w c i
    if w.getD i false = true ∧ c.getD i false = true then w1.set i 2 else w1
def u_imB (l b : List UInt8) (i : Nat) : List UInt8 := l.getD i 0 :: b.take (b.length * i / (max l.length 1) / 2)
def u_imM (l b : List UInt8) : Nat → MD
  | 0 => ⟨[], 0⟩
  | i + 1 => u_wM ((i : Nat) : Int) 0 x8 (u_imM l b i) (((l.getD i 0).toNat % 8 : Nat) : Int) (u_imB l b i)
def u_imW (l b : List UInt8) : Nat → List UInt8
  | 0 => List.replicate 512 0
  | i + 1 => u_spl (u_imW l b i) (64 * ((l.getD i 0).toNat % 8)) (u_imB l b i)
def u_imX (l b : List UInt8) : Bool → List D
  | true => u_fX ((l.length : Nat) : Int) 0 x8 (u_imM l b l.length)
  | false => x8
def u_imM2 (l b : List UInt8) : Bool → MD
  | true => u_fM ((l.length : Nat) : Int) 0 (u_imM l b l.length)
  | false => u_imM l b l.length
def u_imS (l : List UInt8) : Bool → Int
  | true => ((l.length + 1 : Nat) : Int)
  | false => ((l.length : Nat) : Int)
def us : Us where
  off := u_off
  nlen := u_nlen
  isI := u_isI
  now := u_now
  wE := u_wE
  wM := u_wM
  rE := u_rE
  rB := u_rB
  fE := u_fE
  fX := u_fX
  fM := u_fM
  flP := u_flP
  left := u_left
  seenOk := u_seenOk
  ok := u_ok
  torn := u_torn
  dropC := u_dropC
  cP := u_cP
  cX := u_cX
  keys := u_keys
  imgP := u_imgP
  img := u_img
  pow := u_pow
  is64 := fun l => l.length = 64
  apM := u_apM
  pwN := u_pwN
  pwK := u_pwK
  pwX := fun a j => (u_pw a j).1
  pwM := fun a j => (u_pw a j).2
  chS1 := u_chS
  chM1 := u_chM1
  chX := u_chX
  chS2 := u_chS2
  chM2 := u_chM2
  chC := u_chC
  chW := u_chW
  bD := fun l => l.map D.b
  imM := u_imM
  imW := u_imW
  imX := u_imX
  imM2 := u_imM2
  imS := u_imS
  kpS := u_kpS
  kpX4 := kp_X4
  kpM4 := kp_M4
  kpX := u_kpX
  kpM := u_kpM
  kpK := u_kpK
  kpR := u_kpR
  apW := u_apW
theorem mixed : Try.prog.follows .mixedOrders = true := by kernel_rfl
end Go.Proofs.Ythhgmjclmdggjaa
set_option linter.unusedVariables false
set_option linter.unusedSimpArgs false
set_option maxRecDepth 100000
set_option maxHeartbeats 1000000
namespace Go.Proofs.Ythhgmjclmdggjaa
open Go Go.Vc
/-! ## Small words about numbers and guards -/
theorem lt_g {j n : Nat} (h : ¬ real.pB (real.lti (real.int j) (real.int n)) false) : j < n := by
  simp only [real, Bool.not_eq_false, decide_eq_true_eq] at h
  omega
theorem ge_g {j n : Nat} (h : ¬ real.pB (real.lti (real.int j) (real.int n)) true) : n ≤ j := by
  simp only [real, Bool.not_eq_true, decide_eq_false_iff_not] at h
  omega
theorem le_g {a n : Nat} (h : ¬ real.pB (real.lei (real.int a) (real.int n)) false) : a ≤ n := by
  simp only [real, Bool.not_eq_false, decide_eq_true_eq] at h
  omega
theorem gt_g {a n : Nat} (h : ¬ real.pB (real.lei (real.int a) (real.int n)) true) : n < a := by
  simp only [real, Bool.not_eq_true, decide_eq_false_iff_not] at h
  omega
theorem eqB_self (x : List UInt8) : real.eqB x x = true := beq_self_eq_true x
theorem addi1 {i : Nat} (h : i ≤ 1000000000000000) : real.addi (real.int i) (real.int 1) = real.int (i + 1) := by
  show IntKind.i64.wrap ((i : Int) + 1) = ((i + 1 : Nat) : Int)
  rw [wrap_sm (by omega) (by omega)]; omega
theorem addiN {i k : Nat} (h : i ≤ 1000000000000000) (hk : k ≤ 1000000000000000) : real.addi (real.int i) (real.int k) = real.int (i + k) := by
  show IntKind.i64.wrap ((i : Int) + (k : Int)) = ((i + k : Nat) : Int)
  rw [wrap_sm (by omega) (by omega)]; omega
theorem sub_stepN {j n : Nat} (h : j < n) : real.subn n (j + 1) < real.subn n j := by show n - (j + 1) < n - j; omega
theorem addi0 {k : Nat} (hk : k ≤ 1000000) : real.addi 0 (real.int k) = real.int k := by
  show IntKind.i64.wrap (0 + (k : Int)) = (k : Int)
  rw [wrap_sm (by omega) (by omega)]; omega
theorem subiN {i k : Nat} (h : k ≤ i) (hi : i ≤ 1000000000000000) : real.subi (real.int i) (real.int k) = real.int (i - k) := by
  show IntKind.i64.wrap ((i : Int) - (k : Int)) = ((i - k : Nat) : Int)
  rw [wrap_sm (by omega) (by omega)]; omega
section
variable {F : Fs} (hF : real = F)
include hF
theorem ltF {j n : Nat} (h : ¬ F.pB (F.lti (F.int j) (F.int n)) false) : j < n := by subst hF; exact lt_g h
theorem geF {j n : Nat} (h : ¬ F.pB (F.lti (F.int j) (F.int n)) true) : n ≤ j := by subst hF; exact ge_g h
theorem leF {j n : Nat} (h : ¬ F.pB (F.lei (F.int j) (F.int n)) false) : j ≤ n := by subst hF; exact le_g h
theorem gtF {j n : Nat} (h : ¬ F.pB (F.lei (F.int j) (F.int n)) true) : n < j := by subst hF; exact gt_g h
theorem addi1F {i : Nat} (h : i ≤ 1000000000000000) : F.addi (F.int i) (F.int 1) = F.int (i + 1) := by subst hF; exact addi1 h
theorem addiF {i k : Nat} (h : i ≤ 1000000000000000) (hk : k ≤ 1000000000000000) : F.addi (F.int i) (F.int k) = F.int (i + k) := by subst hF; exact addiN h hk
theorem subiF {i k : Nat} (h : k ≤ i) (hi : i ≤ 1000000000000000) : F.subi (F.int i) (F.int k) = F.int (i - k) := by subst hF; exact subiN h hi
theorem stepF {j n : Nat} (h : j < n) : F.subn n (j + 1) < F.subn n j := by subst hF; exact sub_stepN h
theorem natF (i : Nat) : F.nat (F.int i) = i := by subst hF; rfl
theorem trueF {b : Bool} (h : ¬ F.pB b false) : b = true := by
  subst hF; cases b with
  | true => rfl
  | false => exact absurd rfl h
theorem falseF {b : Bool} (h : ¬ F.pB b true) : b = false := by
  subst hF; cases b with
  | false => rfl
  | true => exact absurd rfl h
theorem noF {b : Bool} (e : b = true) (h : ¬ F.pB b true) : False := by subst hF; exact h e
theorem inF {i n : Nat} (h : i < n) : F.pIn (F.int i) n := by subst hF; exact ⟨Int.natCast_nonneg _, Int.ofNat_lt.2 h⟩
end
end Go.Proofs.Ythhgmjclmdggjaa
