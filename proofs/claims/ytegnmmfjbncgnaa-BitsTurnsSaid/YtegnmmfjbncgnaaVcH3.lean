/- A part of the proof of given statements: a verified condition generator for the model, and contracts of the program's functions. No condition. -/
import Derived.Test.YtegnmmfjbncgnaaVcH2
set_option linter.unusedVariables false
set_option linter.unusedSimpArgs false
namespace Go.Vc
open Go Go.RowKit
theorem mputs_mapp : ∀ (a b me : Mem), mputs (mapp a b) me = mputs a (mputs b me)
  | [], b, me => rfl
  | p :: r, b, me => by simp only [mapp, mputs, mputs_mapp r b me]
section
variable {P : Program} {m : Hd} {w : World} {me : Mem} {kb : Nat}
theorem ret_okH {E : Env} {m1 mc : Hd} {w1 : World} {N : AV → Bool} {s : AS} {ps : List PR} {vs : List Value} {rs : List NewRow} {nk : Nat} {us ks : List Nat} {B : Mem} (hb : Base m w me kb) (h3 : StM E s.me nk m1 w1) (hE0 : E.w0 = w)
    (hr : RetR m1 mc w1 true N s ps vs rs us) (hn : nRows ps ≤ 8)
    (hkl : ∀ k ∈ ks, ∃ ab, mlook me k = some ab ∧ ab.live = true) (hWk : ∀ b ∈ E.W, ∃ k ∈ ks, ∃ v, m k = some v ∧ blk v = some b)
    (hWj : ∀ b ∈ E.W, ∃ j v ab, j ∈ us ∧ m1 j = some v ∧ blk v = some b ∧ mlook s.me j = some ab ∧ ab.live = true)
    (hmc : ∀ k v, mc k = some v → m k = some v) (hmok : mc.ok = Stable m w)
    (hB1 : ∀ t ab, mlook (mputs B me) t = some ab → t ∈ ks → ABR mc w1 t ab) (hB2 : ∀ t, t ∉ ks → mlook (mputs B me) t = mlook me t) :
    ∃ m', OkE m w me kb (tupAV (outs kb ps)) (mapp (newRows kb ps) B) (if h : vs.toArray.size = 1 then vs.toArray[0] else .tuple vs.toArray) m' w1 := by
  have hlen := hr.len
  obtain ⟨hall, hpw⟩ := hr.all
  have hsz : w.heap.size ≤ w1.heap.size := hE0 ▸ h3.fr.size
  have hblk : ∀ b, b < w.heap.size → b ∉ E.W → w1.heap[b]? = w.heap[b]? := fun b h1 h2 => by have := h3.fr.block b (by rw [hE0]; exact h1) h2; rw [hE0] at this; exact this
  have hnew : ∀ r ∈ rs, ∀ b, blk r.2.1 = some b → w.heap.size ≤ b ∧ ∃ u ab, r.1 = some u ∧ m1 u = some r.2.1 ∧ mlook s.me u = some ab ∧ ab.live = true := by
    intro r hr b hbk
    rcases (hall r hr).key with ⟨_, h2⟩ | ⟨u, ab, h1, hus, h2, h4, h5⟩
    · rw [h2] at hbk; simp [blk] at hbk
    · rcases h3.fr.own u _ b h2 hbk with h6 | h6
      · rw [hE0] at h6; exact ⟨h6, u, ab, h1, h2, h4, h5⟩
      · obtain ⟨j, v, ab', k1, k2, k3, k4, k5⟩ := hWj b h6
        exact absurd k3 (h3.mem.apart u j ab ab' _ v b h4 k4 h5 k5 (fun e => hus (e ▸ k1)) h2 k2 hbk)
  have tr : Tr m w (mNew m kb rs) w1 := by
    refine ⟨fun k v hk => ?_, rfl, hsz, fun b hb' hno => hblk b hb' (fun hm => ?_), fun k v b hk hv => ?_, h3.fr.os.trans (by rw [hE0]), h3.fr.tape.trans (by rw [hE0]), h3.fr.output.trans (by rw [hE0])⟩
    · show (if kb ≤ k ∧ k < kb + rs.length then _ else _) = _
      rw [if_neg]
      · exact hk
      · rintro ⟨h1, h2⟩
        rw [hb.fresh k h1 (by omega)] at hk; cases hk
    · obtain ⟨k, _, v, h1, h2⟩ := hWk b hm
      exact hno k v h1 h2
    · rcases mNew_cases hk with ⟨i, r, rfl, hi, rfl⟩ | ⟨_, hk⟩
      · exact .inr (hnew r (List.mem_of_getElem? hi) b hv).1
      · exact .inl ⟨k, v, hk, hv⟩
  have hpc : Pres mc w1 (mNew m kb rs) w1 := by
    refine ⟨fun k v hk => tr.mu k v (hmc k v hk), fun b hs => ⟨rfl, ?_⟩⟩
    have := hs.2.1
    rw [hmok] at this
    exact (tr.pres.stab b this).2
  have hml := fun t => mlook_new (me := mputs B me) ps vs rs us m1 _ _ w1 s kb t hr
  have hold : ∀ t ab, mlook (mputs B me) t = some ab → ab.live = true → ∃ ab0, mlook me t = some ab0 ∧ ab0.live = true := by
    intro t ab h1 h2
    by_cases hk : t ∈ ks
    · exact hkl t hk
    · rw [hB2 t hk] at h1; exact ⟨ab, h1, h2⟩
  refine ⟨mNew m kb rs, tr, tupAV_sound (outs_sound (fun b v _ h2 => RV_mono hpc b v h2) ps vs rs us kb hr fun i r hi => mNew_in hi), ?_, fun k hk => ?_, fun k v b hk hv => ?_⟩
  · rw [mputs_mapp]
    refine ⟨fun t ab hab => ?_, fun t t' ab ab' v v' b hab hab' hl hl' hne hv hv' hbk => ?_⟩
    · rw [hml] at hab
      split at hab
      · rename_i hin
        cases hq : rs[t - kb]? with
        | none => rw [hq] at hab; cases hab
        | some r =>
          rw [hq] at hab; cases hab
          obtain ⟨T, e, c, n, cs, h1, h2, h4, h5⟩ := (hall r (List.mem_of_getElem? hq)).row
          show ABR _ _ _ r.2.2
          rw [h1]
          have := mNew_in (m := m) (kb := kb) hq
          rw [show kb + (t - kb) = t by omega] at this
          exact ⟨r.2.1, n, cs, this, h4, RC_mono hpc c cs h5⟩
      · by_cases hk : t ∈ ks
        · exact ABR_keep (hB1 t ab hab hk) (fun v hv => tr.mu t v (hmc t v hv)) (fun _ _ _ _ => rfl) hpc
        · rw [hB2 t hk] at hab
          cases hlv : ab.live with
          | false => cases ab with
            | dead => trivial
            | bk T s => simp [AB.live] at hlv
            | row T e c => simp [AB.live] at hlv
          | true =>
            refine ABR_keep (hb.mem.at_ t ab hab) (tr.mu t) (fun v b hv hbk => hblk b (hb.bd t v b hv hbk) (fun hm => ?_)) tr.pres
            obtain ⟨k, hkk, v', g1, g2⟩ := hWk b hm
            obtain ⟨ab0, g3, g4⟩ := hkl k hkk
            exact hb.mem.apart t k ab ab0 v v' b hab g3 hlv g4 (fun e => hk (e ▸ hkk)) hv g1 hbk g2
    · rw [hml] at hab hab'
      rcases mNew_cases hv with ⟨i, r, rfl, hi, rfl⟩ | ⟨ho, hv0⟩ <;> rcases mNew_cases hv' with ⟨j, q, rfl, hj, rfl⟩ | ⟨ho', hv0'⟩
      · obtain ⟨_, u, au, k1, k2, k3, k4⟩ := hnew r (List.mem_of_getElem? hi) b hbk
        intro hbq
        obtain ⟨_, u', au', k1', k2', k3', k4'⟩ := hnew q (List.mem_of_getElem? hj) b hbq
        have hij : i ≠ j := fun e => hne (by rw [e])
        have hu : u ≠ u' := by
          rcases Nat.lt_or_gt_of_ne hij with h | h
          · have := List.pairwise_iff_getElem.1 hpw i j (List.getElem?_eq_some_iff.1 hi).1 (List.getElem?_eq_some_iff.1 hj).1 h
            rw [(List.getElem?_eq_some_iff.1 hi).2, (List.getElem?_eq_some_iff.1 hj).2] at this
            intro e; exact this u k1 (by rw [k1', e])
          · have := List.pairwise_iff_getElem.1 hpw j i (List.getElem?_eq_some_iff.1 hj).1 (List.getElem?_eq_some_iff.1 hi).1 h
            rw [(List.getElem?_eq_some_iff.1 hi).2, (List.getElem?_eq_some_iff.1 hj).2] at this
            intro e; exact this u' k1' (by rw [k1, e])
        exact h3.mem.apart u u' au au' _ _ b k3 k3' k4 k4' hu k2 k2' hbk hbq
      · have h1 := (hnew r (List.mem_of_getElem? hi) b hbk).1
        intro hbq
        have h2 := hb.bd t' v' b hv0' hbq
        omega
      · intro hbq
        have h1 := (hnew q (List.mem_of_getElem? hj) b hbq).1
        have h2 := hb.bd t v b hv0 hbk
        omega
      · rw [if_neg ho] at hab
        rw [if_neg ho'] at hab'
        obtain ⟨a0, g1, g2⟩ := hold t ab hab hl
        obtain ⟨a0', g1', g2'⟩ := hold t' ab' hab' hl'
        exact hb.mem.apart t t' a0 a0' v v' b g1 g1' g2 g2' hne hv0 hv0' hbk
  · cases hq : (mNew m kb rs) k with
    | none => exact absurd hq hk
    | some v =>
      rcases mNew_cases hq with ⟨i, r, rfl, hi, rfl⟩ | ⟨_, hv⟩
      · have := (List.getElem?_eq_some_iff.1 hi).1
        exact .inr ⟨by omega, by omega⟩
      · exact .inl (by rw [hv]; simp)
  · rcases mNew_cases hk with ⟨i, r, rfl, hi, rfl⟩ | ⟨_, hk⟩
    · obtain ⟨_, u, _, _, k2, _⟩ := hnew r (List.mem_of_getElem? hi) b hv
      exact h3.bd u _ b k2 hv
    · exact Nat.lt_of_lt_of_le (hb.bd k v b hk hv) hsz

/-- results under the caller's names -/
theorem retMH_sound {m2 : Hd} {w1 : World} {s : AS} {rid r2 : Ren} {f : Nat → Option Nat} (hf : sameAll r2 f) (hm : MemR m2 w1 s.me) : ∀ (l : List AV) (ps ps' : List PR) (us : List Nat) (vs : List Value), retMH rid s l ps us → rnPRs f ps = some ps' → RVs m2 w1 l vs →
    ∃ rs, RetR m2 (hren (hren m2 rid) r2) w1 true (fun _ => true) s ps' vs rs us
  | [], [], ps', us, vs, h, hp, hv => by
    simp only [rnPRs, Option.some.injEq] at hp; subst hp
    simp only [RVs] at hv; subst hv; exact ⟨[], .nil us⟩
  | a :: r, .val b :: ps, ps', us, vs, h, hp, hv => by
    simp only [RVs] at hv
    obtain ⟨v, q, rfl, h1, h2⟩ := hv
    simp only [retMH] at h
    simp only [rnPRs] at hp
    split at hp
    · rename_i b' l' hb hl
      cases hp
      obtain ⟨rs, hr⟩ := retMH_sound hf hm r ps l' us q h.2 hl h2
      obtain ⟨g1, g2⟩ := rn_le hf b b' hb
      have hbu : b ≠ .u := fun e => by subst e; simp [rnAV] at hb
      exact ⟨rs, .val b' v l' q rs us rfl (RV_le b b' v g1 g2 (RV_le a b v h.1 hbu h1)) hr⟩
    · cases hp
  | a :: r, .row T e c :: ps, ps', us, vs, h, hp, hv => by
    simp only [RVs] at hv
    obtain ⟨v, q, rfl, h1, h2⟩ := hv
    simp only [retMH] at h
    simp only [rnPRs] at hp
    split at hp
    · rename_i l' hnn hl
      cases hp
      split at h
      · rename_i hn
        split at h
        · rename_i k
          split at h
          · exact h.elim
          · rename_i hus
            split at h
            · rename_i T' e' c' hl2
              obtain ⟨⟨e1, e2, h3⟩, h4⟩ := h
              have e1 := beq_nat e1; have e2 := beq_nat e2; subst e1; subst e2
              obtain ⟨rs, hr⟩ := retMH_sound hf hm r ps l' (k :: us) q h4 hl h2
              obtain ⟨v', n, cs, g1, g2, g3⟩ := hm.at_ k _ hl2
              simp only [RV, CR] at h1
              obtain ⟨v'', g4, g5, _⟩ := h1
              simp only [List.cons.injEq, and_true] at g5
              subst g5
              rw [g1] at g4; cases g4
              exact ⟨_, .row _ _ c (some k, v, .row T' e' c) l' q rs us (k :: us) rfl ⟨⟨T', e', c, n, cs, rfl, hn, g2, RC_le c c cs (nkc_le r2 c hn) (RC_le c' c cs h3 g3)⟩, .inr ⟨k, _, rfl, lmem_spec hus, g1, hl2, rfl⟩⟩
                (fun u hu => by cases hu; simp) (fun u hu => by simp [hu]) hr⟩
            · exact h.elim
        · obtain ⟨h3, h4⟩ := h
          obtain ⟨rs, hr⟩ := retMH_sound hf hm r ps l' us q h4 hl h2
          simp only [RV, CR, List.cons.injEq, and_true] at h1
          subst h1
          exact ⟨_, .row T e c (none, .slice none 0 0, .row T e c) l' q rs us us rfl ⟨⟨T, e, c, 0, [], rfl, hn, ⟨by simp, .inl ⟨rfl, rfl⟩⟩, acNil_RC h3⟩, .inl ⟨rfl, rfl⟩⟩
            (fun u hu => by cases hu) (fun u hu => hu) hr⟩
        · exact h.elim
      · exact h.elim
    · cases hp
  | [], _ :: _, ps', us, vs, h, hp, hv => by simp [retMH] at h
  | _ :: _, [], ps', us, vs, h, hp, hv => by simp [retMH] at h
end
end Go.Vc
