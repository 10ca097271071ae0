/- A part of the proof of given statements: a verified condition generator for the model, and contracts of the program's functions. No condition. -/
import Derived.Test.YtegnmmfjbncgnaaVcH3
set_option linter.unusedVariables false
set_option linter.unusedSimpArgs false
namespace Go.Vc
open Go Go.RowKit
section
variable {P : Program} {m : Hd} {w : World} {me : Mem} {kb : Nat}
theorem ABR_live {k : Nat} {ab : AB} (h : ABR m w k ab) (hl : ab.live = true) : ∃ v, m k = some v := by
  cases ab with
  | dead => simp [AB.live] at hl
  | bk T s => obtain ⟨g, _, _, h1, _⟩ := h; exact ⟨_, h1⟩
  | row T e c => obtain ⟨v, _, _, h1, _⟩ := h; exact ⟨v, h1⟩
/-- a function that is handed what the caller owns: from the conditions of its code, its contract -/
theorem h_sound {x : Cx} (hx : XOK P x) (hmx : P.follows .mixedOrders = true) {f : Nat} {fn : Func} {body : Code} (hf : P.funcs[f]? = some fn) (hbd : fn.body = some body) (hnt : fn.ntmps = x.nt) (hdr : drawsOk x.tt x.dr body = true)
    {n : Nat} (hn64 : n ≤ 64) (hpin : ∀ j, j < n → j ∈ x.pin) {g : HLaw}
    (h : ∀ l mm c rs ch, g l mm = some (c, rs, ch) → mm.length = n → c → llen l ≤ x.nt ∧ ∃ an cu, vc real x an cu body ⟨zipSl 0 l, zipMe 0 mm, 64⟩ (retHOk real x.tt fn.results.toList mm rs ch)) : SpecOK P f (hSpec n g) := by
  intro m w me kb args vals e hb hv he hc
  unfold hSpec at he
  obtain ⟨ks, abs, hnd, hal, habs, he⟩ := gather_sound 40 (keysL args []) 0 [] (keysL_nodup args [] List.nodup_nil).1 rfl (fun j ab hj => by simp at hj) (Nat.zero_le _) he
  split at he
  · rename_i l mm hl hmm
    split at he
    · rename_i c rs ch hg
      split at he
      · rename_i rs' ch' hrs hch
        split at he
        · rename_i hle hil hsl
          simp only [Look.run, Option.some.injEq] at he
          subst he
          have hkn := isLen_spec hil
          obtain ⟨hml, hcl⟩ := sameLen_spec hsl
          obtain ⟨hlen, an, cu, hvc⟩ := h l mm c rs ch hg (by omega) hc
          rw [llen_eq] at hlen
          obtain ⟨_, hget⟩ := rnABs_get hmm
          obtain ⟨hcl2, hcget⟩ := rnOpts_get hch
          -- the callee's names
          let mS : Hd := ⟨m.mu, Stable m w⟩
          have hpS : Pres m w mS w := ⟨fun _ _ h => h, fun b hb => ⟨rfl, hb.1, hb, hb.2.2⟩⟩
          let m1 : Hd := hren mS (ren1 0 ks)
          have hm1 : ∀ j, m1 j = (match ks[j]? with
            | some k => m k
            | none => none) := by
            intro j
            show (hren mS (ren1 0 ks)) j = _
            rw [hren_apply, ren1_look]
            simp only [Nat.zero_le, if_true, Nat.sub_zero]
            cases hq : ks[j]? with
            | none => rfl
            | some k => rfl
          have hv1 : RVs m1 w l vals := RVs_le args l vals (rnl_le (same1 ks) args l hl) (RVs_mono hpS args vals hv)
          have hent : ∀ (j : Nat) ab, mm[j]? = some ab → ∃ k ab0 v, ks[j]? = some k ∧ mlook me k = some ab0 ∧ rnAB (fun k => idxOf k 0 ks) ab0 = some ab ∧ ab0.live = true ∧ m k = some v := by
            intro j ab hj
            obtain ⟨ab0, h1, h2⟩ := hget j ab hj
            obtain ⟨k, h3, h4⟩ := habs j ab0 h1
            obtain ⟨_, h5, _⟩ := rnb_le (same1 ks) ab0 ab h2
            obtain ⟨v, h6⟩ := ABR_live (hb.mem.at_ k ab0 h4) h5
            exact ⟨k, ab0, v, h3, h4, h2, h5, h6⟩
          have hme : MemR m1 w (zipMe 0 mm) := by
            refine ⟨fun j ab hj => ?_, fun j j' ab ab' v v' b hj hj' _ _ hne hv hv' hbk => ?_⟩
            · rw [zipMe_look] at hj
              simp only [Nat.zero_le, if_true, Nat.sub_zero] at hj
              obtain ⟨k, ab0, v, h1, h2, h3, h4, h5⟩ := hent j ab hj
              refine ABR_le (r := ren1 0 ks) (k := j) (o := k) (by rw [ren1_look]; simp [h1]) (rnb_le (same1 ks) ab0 ab h3).1 ?_
              exact ABR_keep (hb.mem.at_ k ab0 h2) (fun _ h => h) (fun _ _ _ _ => rfl) hpS
            · rw [zipMe_look] at hj hj'
              simp only [Nat.zero_le, if_true, Nat.sub_zero] at hj hj'
              obtain ⟨k, ab0, v0, h1, h2, h3, h4, h5⟩ := hent j ab hj
              obtain ⟨k', ab0', v0', h1', h2', h3', h4', h5'⟩ := hent j' ab' hj'
              rw [hm1, h1] at hv
              rw [hm1, h1'] at hv'
              refine hb.mem.apart k k' ab0 ab0' v v' b h2 h2' h4 h4' (fun e => ?_) hv hv' hbk
              subst e
              have e1 := idxOf_of ks 0 k j hnd h1
              have e2 := idxOf_of ks 0 k j' hnd h1'
              rw [e1] at e2
              simp at e2
              exact hne e2
          have hbd1 : Bd m1 w := by
            intro j v b hj hbk
            rw [hm1] at hj
            split at hj
            · exact hb.bd _ v b hj hbk
            · cases hj
          let E : Env := ⟨w, (List.range n).filterMap (fun j => (m1 j).bind blk), Stable m w, none, (List.range n).filterMap fun j => (m1 j).map fun v => (j, v)⟩
          have hlk : ∀ j, n ≤ j → m1 j = none := by
            intro j hj
            rw [hm1, List.getElem?_eq_none (by omega)]
          have hvl := RVs_length hv1
          have hr : StR E x.nt ⟨zipSl 0 l, zipMe 0 mm, 64⟩ m1 { tmps := vals.toArray ++ Array.replicate (fn.ntmps - vals.toArray.size) undef, defers := [] } w := by
            refine ⟨entry_sl hv1 _, hme, hbd1, fun k hk => hlk k (by have : 64 ≤ k := hk; omega), by simp; omega, rfl, ⟨rfl, rfl, rfl, Nat.le_refl _, rfl, fun _ _ _ => rfl, fun j v b hj hbk => .inr ?_, fun m0 w1 he => (by cases he), fun j v hj => ?_⟩⟩
            · show b ∈ (List.range n).filterMap _
              rw [List.mem_filterMap]
              refine ⟨j, ?_, by rw [hj]; exact hbk⟩
              rw [List.mem_range]
              by_cases h : j < n
              · exact h
              · rw [hlk j (by omega)] at hj; cases hj
            · have hj' : (j, v) ∈ (List.range n).filterMap fun j => (m1 j).map fun v => (j, v) := hj
              rw [List.mem_filterMap] at hj'
              obtain ⟨i, hi0, hi⟩ := hj'
              cases hq : m1 i with
              | none => rw [hq] at hi; cases hi
              | some u => rw [hq] at hi; cases hi; exact hq
          have hpE : ∀ j v, (j, v) ∈ E.pin → j ∈ x.pin := by
            intro j v hj
            have hj' : (j, v) ∈ (List.range n).filterMap fun j => (m1 j).map fun v => (j, v) := hj
            rw [List.mem_filterMap] at hj'
            obtain ⟨i, hi, hi2⟩ := hj'
            rw [List.mem_range] at hi
            cases hq : m1 i with
            | none => rw [hq] at hi2; cases hi2
            | some u => rw [hq] at hi2; cases hi2; exact hpin _ hi
          refine calls_of_wp hf hbd (code_mono (vc_sound hx hpE (.inl rfl) hmx body _ _ hdr hvc _ _ w hr) ?_)
          intro en a w' hp
          refine ends_sound hx.tt (fun avs vs s' m2 w2 k1 k2 k3 => ?_) hp
          obtain ⟨k2, kmem⟩ := k2
          obtain ⟨rws, hrr⟩ := retMH_sound (same2 hnd) k3.mem avs rs rs' _ vs k2 hrs k1
          have hpinned : ∀ (j : Nat) v, j < n → m1 j = some v → m2 j = some v := by
            intro j v hj h1
            refine k3.fr.pin j v ?_
            show (j, v) ∈ (List.range n).filterMap _
            rw [List.mem_filterMap]
            exact ⟨j, by rw [List.mem_range]; exact hj, by rw [h1]; rfl⟩
          have hks : ∀ k j, ks[j]? = some k → ∃ ab0 v, mlook me k = some ab0 ∧ ab0.live = true ∧ m k = some v ∧ m1 j = some v ∧ m2 j = some v ∧ j < n := by
            intro k j hj
            have hjn := (List.getElem?_eq_some_iff.1 hj).1
            obtain ⟨ab, hab⟩ : ∃ ab, mm[j]? = some ab := ⟨_, List.getElem?_eq_getElem (by omega)⟩
            obtain ⟨k', ab0, v, h1, h2, _, h4, h5⟩ := hent j ab hab
            rw [hj] at h1; cases h1
            have h6 : m1 j = some v := by rw [hm1, hj]; exact h5
            exact ⟨ab0, v, h2, h4, h5, h6, hpinned j v (by omega) h6, by omega⟩
          have hmc : ∀ k v, (hren (hren m2 (ridOf 0 mm)) (ren2 0 ks)) k = some v → ∃ j, ks[j]? = some k ∧ m2 j = some v := by
            intro k v hk
            rw [hren_apply, ren2_look] at hk
            cases hq : idxOf k 0 ks with
            | none => rw [hq] at hk; simp at hk
            | some j =>
              rw [hq] at hk
              simp only [Option.map_some] at hk
              rw [hren_apply, ridOf_look] at hk
              have h1 := (idxOf_get ks 0 k j hq).2
              simp only [Nat.sub_zero] at h1
              have h2 := (List.getElem?_eq_some_iff.1 h1).1
              rw [if_pos ⟨by omega, by omega⟩] at hk
              exact ⟨j, h1, hk⟩
          refine ⟨_, rfl, ?_⟩
          refine ret_okH (ks := ks) (E := E) hb k3 rfl hrr (Nat.le_of_ble_eq_true hle) (fun k hk => ?_) (fun b hbW => ?_) (fun b hbW => ?_) (fun k v hk => ?_) k3.fr.ok (fun t ab hab htk => ?_) (fun t htk => ?_)
          · obtain ⟨j, hj⟩ := List.getElem?_of_mem hk
            obtain ⟨ab0, v, h1, h2, _⟩ := hks k j hj
            exact ⟨ab0, h1, h2⟩
          · have hbW' : b ∈ (List.range n).filterMap (fun j => (m1 j).bind blk) := hbW
            rw [List.mem_filterMap] at hbW'
            obtain ⟨j, hj, hj2⟩ := hbW'
            rw [List.mem_range] at hj
            obtain ⟨k, hk⟩ : ∃ k, ks[j]? = some k := ⟨_, List.getElem?_eq_getElem (by omega)⟩
            obtain ⟨ab0, v, h1, h2, h4, h5, _⟩ := hks k j hk
            rw [h5] at hj2
            exact ⟨k, List.mem_of_getElem? hk, v, h4, hj2⟩
          · have hbW' : b ∈ (List.range n).filterMap (fun j => (m1 j).bind blk) := hbW
            rw [List.mem_filterMap] at hbW'
            obtain ⟨j, hj, hj2⟩ := hbW'
            rw [List.mem_range] at hj
            obtain ⟨k, hk⟩ : ∃ k, ks[j]? = some k := ⟨_, List.getElem?_eq_getElem (by omega)⟩
            obtain ⟨ab0, v, h1, h2, h4, h5, h6, _⟩ := hks k j hk
            rw [h5] at hj2
            obtain ⟨ab, hab⟩ : ∃ ab, mm[j]? = some ab := ⟨_, List.getElem?_eq_getElem (by omega)⟩
            obtain ⟨b2, g1, g2, g3⟩ := memM_get kmem j ab hab
            rw [Nat.zero_add] at g1
            have hab_live : ab.live = true := by
              obtain ⟨_, ab1, _, _, _, q3, _, _⟩ := hent j ab hab
              exact (rnb_le (same1 ks) ab1 ab q3).2.2
            refine ⟨j, v, b2, (upto_mem mm 0 j).2 ⟨by omega, by omega⟩, h6, hj2, g1, ?_⟩
            cases hq : ch[j]? with
            | none => have := List.getElem?_eq_none_iff.1 hq; omega
            | some o =>
              cases o with
              | none => exact abLe_live (g2 hq) hab_live
              | some a' =>
                have hq2 : ∃ y, ch'[j]? = some (some y) := by
                  cases hq3 : ch'[j]? with
                  | none => have := List.getElem?_eq_none_iff.1 hq3; omega
                  | some o' => cases o' with
                    | none => have := (hcget j).1 hq3; rw [hq] at this; cases this
                    | some y => exact ⟨y, rfl⟩
                obtain ⟨y, hy⟩ := hq2
                obtain ⟨x', hx1, hx2⟩ := (hcget j).2 y hy
                rw [hq] at hx1; cases hx1
                exact abLe_live (g3 a' hq) (rnb_le (same2 hnd) a' y hx2).2.1
          · obtain ⟨j, hj, hj2⟩ := hmc k v hk
            obtain ⟨_, v0, _, _, h4, _, h6, _⟩ := hks k j hj
            rw [h6] at hj2; cases hj2; exact h4
          · obtain ⟨j, hj⟩ := List.getElem?_of_mem htk
            obtain ⟨ab0, v, h1, h2, h4, h5, h6, hjn⟩ := hks t j hj
            obtain ⟨al, hal2⟩ : ∃ ab, mm[j]? = some ab := ⟨_, List.getElem?_eq_getElem (by omega)⟩
            obtain ⟨b2, g1, g2, g3⟩ := memM_get kmem j al hal2
            rw [Nat.zero_add] at g1
            have hr2 : rlook (ren2 0 ks) t = some (some j) := by rw [ren2_look, idxOf_of ks 0 t j hnd hj]; simp
            have hr3 : rlook (ridOf 0 mm) j = some (some j) := by rw [ridOf_look, if_pos ⟨by omega, by omega⟩]
            have hA := k3.mem.at_ j b2 g1
            rw [mlook_mputs, chg_look ks ch' t hnd (by omega), idxOf_of ks 0 t j hnd hj, Nat.zero_add] at hab
            simp only at hab
            cases hq3 : ch'[j]? with
            | none => have := List.getElem?_eq_none_iff.1 hq3; omega
            | some o' => cases o' with
              | none =>
                rw [hq3] at hab
                simp only at hab
                rw [h1] at hab; cases hab
                have hq := (hcget j).1 hq3
                have hA2 := ABR_le hr3 (g2 hq) hA
                obtain ⟨k', ab1, v1, q1, q2, q3, q4, q5⟩ := hent j al hal2
                rw [hj] at q1; cases q1
                rw [h1] at q2; cases q2
                refine ABR_le (k := t) (o := j) (ab0 := al) hr2 ?_ hA2
                exact (rnb_ge (fun k j hkj => by rw [ren2_look, hkj]; rfl) ab al q3).1
              | some y =>
                rw [hq3] at hab
                simp only [Option.some.injEq] at hab
                subst hab
                obtain ⟨x', hx1, hx2⟩ := (hcget j).2 y hq3
                have hA2 := ABR_le hr3 (g3 x' hx1) hA
                exact ABR_le hr2 (rnb_le (same2 hnd) x' y hx2).1 hA2
          · rw [mlook_mputs, chg_look ks ch' t hnd (by omega)]
            cases hq : idxOf t 0 ks with
            | none => rfl
            | some j =>
              have := (idxOf_get ks 0 t j hq).2
              exact absurd (List.mem_of_getElem? this) htk
        · exact (Look.run_no he).elim
      · exact (Look.run_no he).elim
    · exact (Look.run_no he).elim
  · exact (Look.run_no he).elim
end
end Go.Vc
