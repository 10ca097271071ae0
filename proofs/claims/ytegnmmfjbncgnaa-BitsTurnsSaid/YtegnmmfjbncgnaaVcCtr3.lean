/- A part of the proof of given statements: a verified condition generator for the model, and contracts of the program's functions. No condition. -/
import Derived.Test.YtegnmmfjbncgnaaVcCtr2
set_option linter.unusedVariables false
set_option linter.unusedSimpArgs false
namespace Go.Vc
open Go Go.RowKit
section
variable {P : Program} {sh : Bool} {m : Hd} {w : World} {me : Mem} {kb : Nat}
theorem ret_ok {m1 : Hd} {w1 : World} {s : AS} {ps : List PR} {vs : List Value} {rs : List NewRow} {nk : Nat} (hb : Base m w me kb) (h3 : StM ⟨w, [], (m0 sh m w).ok, none, []⟩ s.me nk m1 w1)
    (hr : RetR m1 (hren m1 []) w1 sh (AV.nk sh) s ps vs rs []) (hn : nRows ps ≤ 8) :
    ∃ m', OkE m w me kb (tupAV (outs kb ps)) (newRows kb ps) (if h : vs.toArray.size = 1 then vs.toArray[0] else .tuple vs.toArray) m' w1 := by
  have hlen := hr.len
  obtain ⟨hall, hpw⟩ := hr.all
  have hnew : ∀ r ∈ rs, ∀ b, blk r.2.1 = some b → w.heap.size ≤ b ∧ ∃ u ab, r.1 = some u ∧ m1 u = some r.2.1 ∧ mlook s.me u = some ab ∧ ab.live = true := by
    intro r hr b hbk
    rcases (hall r hr).key with ⟨_, h2⟩ | ⟨u, ab, h1, _, h2, h4, h5⟩
    · rw [h2] at hbk; simp [blk] at hbk
    · rcases h3.fr.own u _ b h2 hbk with h6 | h6
      · exact ⟨h6, u, ab, h1, h2, h4, h5⟩
      · simp at h6
  have tr : Tr m w (mNew m kb rs) w1 := by
    refine ⟨fun k v hk => ?_, rfl, h3.fr.size, fun b hb' _ => h3.fr.block b hb' (by simp), fun k v b hk hv => ?_, h3.fr.os, h3.fr.tape, h3.fr.output⟩
    · show (if kb ≤ k ∧ k < kb + rs.length then _ else _) = _
      rw [if_neg]
      · exact hk
      · rintro ⟨h1, h2⟩
        rw [hb.fresh k h1 (by omega)] at hk; cases hk
    · rcases mNew_cases hk with ⟨i, r, rfl, hi, rfl⟩ | ⟨_, hk⟩
      · exact .inr (hnew r (List.mem_of_getElem? hi) b hv).1
      · exact .inl ⟨k, v, hk, hv⟩
  have hmv : sh = true → ∀ b, Stable (hren m1 []) w1 b → w1.heap[b]? = w1.heap[b]? ∧ Stable (mNew m kb rs) w1 b := by
    intro hsh b hs
    have h1 : Stable m w b := by
      have := hs.2.1
      have h2 : (hren m1 []).ok = (m0 sh m w).ok := h3.fr.ok
      rw [h2] at this
      simpa [m0, hsh] using this
    exact ⟨rfl, (tr.pres.stab b h1).2⟩
  have hml := fun t => mlook_new (me := me) ps vs rs [] m1 _ _ w1 s kb t hr
  refine ⟨mNew m kb rs, tr, tupAV_sound (outs_sound (fun b v h1 h2 => RV_move hmv b v h1 h2) ps vs rs [] kb hr fun i r hi => mNew_in hi), ⟨fun t ab hab => ?_, fun t t' ab ab' v v' b hab hab' hl hl' hne hv hv' hbk => ?_⟩, fun k hk => ?_, fun k v b hk hv => ?_⟩
  · rw [hml] at hab
    split at hab
    · rename_i hin
      cases hq : rs[t - kb]? with
      | none => rw [hq] at hab; cases hab
      | some r =>
        rw [hq] at hab; cases hab
        obtain ⟨T, e, c, n, cs, h1, h2, h4, h5⟩ := (hall r (List.mem_of_getElem? hq)).row
        show ABR _ _ _ r.2.2
        rw [h1]
        have := mNew_in (m := m) (kb := kb) hq
        rw [show kb + (t - kb) = t by omega] at this
        exact ⟨r.2.1, n, cs, this, h4, RC_move hmv c cs h2 h5⟩
    · exact ABR_keep (hb.mem.at_ t ab hab) (tr.mu t) (fun v b hv hbk => h3.fr.block b (hb.bd t v b hv hbk) (by simp)) tr.pres
  · rw [hml] at hab hab'
    rcases mNew_cases hv with ⟨i, r, rfl, hi, rfl⟩ | ⟨ho, hv0⟩ <;> rcases mNew_cases hv' with ⟨j, q, rfl, hj, rfl⟩ | ⟨ho', hv0'⟩
    · obtain ⟨_, u, au, k1, k2, k3, k4⟩ := hnew r (List.mem_of_getElem? hi) b hbk
      intro hbq
      obtain ⟨_, u', au', k1', k2', k3', k4'⟩ := hnew q (List.mem_of_getElem? hj) b hbq
      have hij : i ≠ j := fun e => hne (by rw [e])
      have hu : u ≠ u' := by
        rcases Nat.lt_or_gt_of_ne hij with h | h
        · have := List.pairwise_iff_getElem.1 hpw i j (List.getElem?_eq_some_iff.1 hi).1 (List.getElem?_eq_some_iff.1 hj).1 h
          rw [(List.getElem?_eq_some_iff.1 hi).2, (List.getElem?_eq_some_iff.1 hj).2] at this
          intro e; exact this u k1 (by rw [k1', e])
        · have := List.pairwise_iff_getElem.1 hpw j i (List.getElem?_eq_some_iff.1 hj).1 (List.getElem?_eq_some_iff.1 hi).1 h
          rw [(List.getElem?_eq_some_iff.1 hi).2, (List.getElem?_eq_some_iff.1 hj).2] at this
          intro e; exact this u' k1' (by rw [k1, e])
      exact h3.mem.apart u u' au au' _ _ b k3 k3' k4 k4' hu k2 k2' hbk hbq
    · have h1 := (hnew r (List.mem_of_getElem? hi) b hbk).1
      intro hbq
      have h2 := hb.bd t' v' b hv0' hbq
      omega
    · intro hbq
      have h1 := (hnew q (List.mem_of_getElem? hj) b hbq).1
      have h2 := hb.bd t v b hv0 hbk
      omega
    · rw [if_neg ho] at hab
      rw [if_neg ho'] at hab'
      exact hb.mem.apart t t' ab ab' v v' b hab hab' hl hl' hne hv0 hv0' hbk
  · cases hq : (mNew m kb rs) k with
    | none => exact absurd hq hk
    | some v =>
      rcases mNew_cases hq with ⟨i, r, rfl, hi, rfl⟩ | ⟨_, hv⟩
      · have := (List.getElem?_eq_some_iff.1 hi).1
        exact .inr ⟨by omega, by omega⟩
      · exact .inl (by rw [hv]; simp)
  · rcases mNew_cases hk with ⟨i, r, rfl, hi, rfl⟩ | ⟨_, hk⟩
    · obtain ⟨_, u, _, _, k2, _⟩ := hnew r (List.mem_of_getElem? hi) b hv
      exact h3.bd u _ b k2 hv
    · exact Nat.lt_of_lt_of_le (hb.bd k v b hk hv) h3.fr.size

/-- a function that changes nothing that was there: from the conditions of its code, its contract -/
theorem pure_sound {x : Cx} (hx : XOK P x) (hmx : P.follows .mixedOrders = true) {f : Nat} {fn : Func} {body : Code} (hf : P.funcs[f]? = some fn) (hbd : fn.body = some body) (hn : fn.ntmps = x.nt) (hdr : drawsOk x.tt x.dr body = true) {pts : List PT} {g : Law}
    (h : ∀ l c rs, g l = some (c, rs) → c → llen l ≤ x.nt ∧ ∃ an cu, vc real x an cu body ⟨zipSl 0 l, [], 64⟩ (retOk real x.tt sh fn.results.toList rs)) : SpecOK P f (pureSpec real sh pts g) := by
  intro m w me kb args vals e hb hv he hc
  obtain ⟨l, e0, h1, h2, h3, h4, h5⟩ := resolve_sound hb pts args vals _ e hv he hc
  split at h1
  · rename_i c rs hg
    split at h1
    · rename_i hle
      simp only [Look.run, Option.some.injEq] at h1
      subst h1
      obtain ⟨hl, an, cu, hvc⟩ := h l c rs hg h2
      have hlen := RVs_length h5
      rw [llen_eq] at hl
      let E : Env := ⟨w, [], (m0 sh m w).ok, none, []⟩
      have hr : StR E x.nt ⟨zipSl 0 l, [], 64⟩ (m0 sh m w) { tmps := vals.toArray ++ Array.replicate (fn.ntmps - vals.toArray.size) undef, defers := [] } w :=
        ⟨entry_sl h5 _, ⟨fun k ab h => (by simp [mlook] at h), fun k k' ab ab' v v' b h => (by simp [mlook] at h)⟩, fun k v b hk => (by cases hk), fun k _ => rfl, (by simp; omega), rfl,
          ⟨rfl, rfl, rfl, Nat.le_refl _, rfl, fun _ _ _ => rfl, fun k v b hk => (by cases hk), fun m0 w1 he => (by cases he), fun j v hj => (by cases hj)⟩⟩
      refine calls_of_wp hf hbd (code_mono (vc_sound hx (fun j v hj => (by cases hj)) (.inl rfl) hmx body _ _ hdr hvc _ _ w hr) ?_)
      intro en a w' hp
      refine ends_sound hx.tt (fun l vs s' m1 w1 k1 k2 k3 => ?_) hp
      obtain ⟨rws, hrr⟩ := retM_sound k3.mem l rs [] vs k2 k1
      refine ⟨_, rfl, ?_⟩
      rw [← h3, ← h4]
      exact ret_ok hb k3 hrr (Nat.le_of_ble_eq_true hle)
    · exact (Look.run_no h1).elim
  · exact (Look.run_no h1).elim
end
end Go.Vc
