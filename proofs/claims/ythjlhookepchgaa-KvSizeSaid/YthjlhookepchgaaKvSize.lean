/- The given statement is proved: for every input the law's function answers true. No condition. -/
import Derived.Test.YthjlhookepchgaaRows
import Derived.Test.YthjlhookepchgaaPart5
import Derived.WalkKit
import Derived.HandedShaped
import Derived.ProofKit
import Derived.OpenShut
import Derived.ShutString
set_option linter.unusedVariables false
set_option linter.unusedSimpArgs false
set_option maxRecDepth 100000
set_option maxHeartbeats 8000000
namespace Go.Proofs.Ythjlhookepchgaa
open Go Go.Vc
theorem mu_step {n j c : Nat} (h : j < n) : real.addn (real.subn n (j + 1)) c < real.addn (real.subn n j) c := by
  show n - (j + 1) + c < n - j + c
  omega
theorem eq_g {n : Nat} (h : ¬ real.pB (real.eqi (real.int n) (real.int 0)) true) : ¬ n = 0 := by
  intro e; subst e; exact h rfl
/-! ## What a write costs -/
theorem sum_upd (k d : D) : ∀ (l : List (Nat × D × D)) (o : D), MD.find l k = some o → (l.map (·.2.1)).Nodup → ((MD.upd l k d).map u_szE).sum + u_szE (0, k, o) = (l.map u_szE).sum + u_szE (0, k, d)
  | [], o, h, _ => by simp [MD.find] at h
  | (b, q, x) :: l, o, h, hn => by
    rw [List.map_cons, List.nodup_cons] at hn
    simp only [MD.find] at h
    simp only [MD.upd]
    by_cases hq : q = k
    · rw [if_pos hq] at h
      rw [if_pos hq]
      cases h
      subst hq
      simp only [List.map_cons, List.sum_cons]
      show u_szE (b, q, d) + _ + u_szE (0, q, x) = u_szE (b, q, x) + _ + u_szE (0, q, d)
      simp only [u_szE]
      omega
    · rw [if_neg hq] at h
      rw [if_neg hq]
      have ih := sum_upd k d l o h hn.2
      simp only [List.map_cons, List.sum_cons]
      omega
theorem sz_set {M : MD} (hk : (M.es.map (·.2.1)).Nodup) (key : List UInt8) (l : List D) : u_sz (M.set (.s key) (.t l)) = u_sz M + u_by l - u_by (u_vs M key) + (if u_has M key then 0 else (key.length : Int)) := by
  cases hh : M.has (.s key) with
  | true =>
    have hu : u_has M key = true := hh
    rw [hu]
    cases hf : MD.find M.es (.s key) with
    | none => exact absurd hf (find_has.1.1 hh)
    | some o =>
      have h1 := sum_upd (.s key) (.t l) M.es o hf hk
      have h2 : u_vs M key = o.gt := by unfold u_vs MD.get; rw [hf]; rfl
      have h3 : (M.set (.s key) (.t l)).es = MD.upd M.es (.s key) (.t l) := by unfold MD.set; rw [if_pos hh]
      unfold u_sz u_by
      rw [h3, h2]
      have e1 : u_szE (0, D.s key, o) = key.length + (o.gt.map fun d => (d.fld 1).gs.length).sum := rfl
      have e2 : u_szE (0, D.s key, D.t l) = key.length + (l.map fun d => (d.fld 1).gs.length).sum := rfl
      rw [e1, e2] at h1
      show _ = _ + (0 : Int)
      omega
  | false =>
    have hu : u_has M key = false := hh
    rw [hu, has_vs hh]
    have h3 : (M.set (.s key) (.t l)).es = M.es ++ [(M.clock, .s key, .t l)] := by unfold MD.set; rw [if_neg (by rw [hh]; decide)]
    unfold u_sz u_by
    rw [h3, List.map_append, List.sum_append]
    have e2 : u_szE (M.clock, D.s key, D.t l) = key.length + (l.map fun d => (d.fld 1).gs.length).sum := rfl
    simp only [List.map_cons, List.map_nil, List.sum_cons, List.sum_nil, e2]
    show _ = _ + (key.length : Int)
    omega
theorem by_app (a b : List D) : u_by (a ++ b) = u_by a + u_by b := by
  unfold u_by
  rw [List.map_append, List.sum_append]; omega
theorem by_split (l : List D) (f : Nat) : u_by l = u_by (l.take f) + u_by (l.drop f) := by
  rw [← by_app, List.take_append_drop]
theorem sz_wr {M : MD} {key v : List UInt8} {cas : Int} (hk : (M.es.map (·.2.1)).Nodup) (e : u_wrE M key cas v = 0) : u_sz (u_wrM M key cas v) = u_sz M + u_coN M key v ∧ ((u_wrM M key cas v).es.length : Int) = (M.es.length : Int) + u_coE M key := by
  rw [wr_at e]
  constructor
  · rw [sz_set hk, by_app]
    have h1 := by_split (u_vs M key) (u_fg M key)
    have h2 : u_by [dv (u_lN M key + 1) v false] = (v.length : Int) := by unfold u_by; simp [dv, D.fld, D.gt, D.gs]
    unfold u_coN
    rw [h2]
    omega
  · rw [set_lenS]
    unfold u_coE u_has
    cases M.has (.s key) <;> simp
theorem by_setlast {l : List D} (h0 : ¬ l.length = 0) (d : D) : u_by (l.set (l.length - 1) d) = u_by l - (((l.getLastD dv0).fld 1).gs.length : Int) + ((d.fld 1).gs.length : Int) := by
  obtain ⟨a, x, rfl⟩ : ∃ a x, l = a ++ [x] := by
    rcases List.eq_nil_or_concat l with h | ⟨a, x, h⟩
    · exact absurd (congrArg List.length h) h0
    · exact ⟨a, x, by rw [h, List.concat_eq_append]⟩
  have e : (a ++ [x]).length - 1 = a.length := by simp
  rw [e, List.set_append_right _ _ (Nat.le_refl _), Nat.sub_self]
  show u_by (a ++ [d]) = _
  have hl : (a ++ [x]).getLastD dv0 = x := by simp
  rw [by_app, by_app, hl]
  have e1 : ∀ y : D, u_by [y] = ((y.fld 1).gs.length : Int) := fun y => by unfold u_by; simp
  rw [e1, e1]; omega
theorem vs_has2 {M : MD} {key : List UInt8} (h : ¬ u_lN M key = 0) : u_has M key = true := by
  cases hh : M.has (.s key) with
  | true => exact hh
  | false => exact absurd (last_0 (has_vs hh)).1 h
theorem sz_M0 (l : List D) : (⟨[], 0⟩ : MD) = u_szM l 0 := rfl
theorem sz_dl {M : MD} {key : List UInt8} (hk : (M.es.map (·.2.1)).Nodup) (e : u_dlE M key = 0) : u_sz (u_dlM M key) = u_sz M - ((u_lV M key).length : Int) ∧ (u_dlM M key).es.length = M.es.length := by
  obtain ⟨h1, h2⟩ := dl_0 e
  have hh := vs_has2 h1
  rw [dl_at e]
  constructor
  · rw [sz_set hk, hh, by_setlast (lN_len h1)]
    have e3 : ((dv (u_lN M key) [] true).fld 1).gs.length = 0 := rfl
    unfold u_lV u_last
    rw [e3]
    show _ + (0 : Int) = _
    omega
  · rw [set_lenS]
    have hh : M.has (.s key) = true := hh
    rw [if_pos hh]
theorem sz_rd {M : MD} {B : Nat} (h : okN M B) (key : List UInt8) : (u_dlE M key = 0 → u_rdE M key 0 = 0 ∧ u_rdV M key 0 = u_lV M key) ∧ (¬ u_dlE M key = 0 → u_rdE M key 0 = 100 ∧ u_dlE M key = 100 ∧ u_dlM M key = M) := by
  have q := okN_rd0 h key
  have hn := (lN_B h key).2.2
  constructor
  · intro e
    obtain ⟨h1, h2⟩ := dl_0 e
    rw [if_neg (fun h => h1 (hn.2 h)), h2] at q
    have r := rd_some q
    exact ⟨r.2.2.2.symm, r.2.1.symm⟩
  · intro e
    have e2 : u_lN M key = 0 ∨ u_lG M key = true := by
      by_cases e3 : u_lN M key = 0 ∨ u_lG M key = true
      · exact e3
      · exact absurd (by unfold u_dlE; rw [if_neg e3]) e
    have q2 : u_rd M key 0 = none := by
      rw [q]
      rcases e2 with e2 | e2
      · rw [if_pos (hn.1 e2)]
      · rw [e2]; split <;> rfl
    exact ⟨(rd_none q2).2.2.2.symm, by unfold u_dlE; rw [if_pos e2], by unfold u_dlM; rw [if_neg e]⟩
/-- behind i steps -/
theorem sz_I {l : List D} : ∀ i, (∀ j, j < i → ((l.getD j D.no).fld 2).gs.length ≤ 40) → okN (u_szM l i) i
  | 0, _ => okN_0 0
  | i + 1, h => by
    have ih := sz_I (l := l) i fun j hj => h j (by omega)
    show okN (szS (u_szM l i) (l.getD i D.no)) (i + 1)
    unfold szS
    split
    · exact okN_wr ih _ _ _
    · exact okN_mono (okN_dl ih _ (Nat.le_trans (h i (by omega)) (by decide))) (Nat.le_succ _)
theorem sz_r {M : MD} {B : Nat} (h : okN M B) (hB : B ≤ 1000) : 0 ≤ u_sz M ∧ u_sz M ≤ 1000000000 := by
  have hk := okN_K h (by omega)
  have h1 := szP_le hk (l := M.es.map (·.1)) fun b hb => hb
  have h2 : u_szP M (M.es.map (·.1)) = u_sz M := sz_end hk.1 ⟨hk.1.2.1, fun b hb => hb⟩ fun b hb => hb
  rw [h2, List.length_map] at h1
  have := h.2.1
  omega
theorem sz_cr {M : MD} {B : Nat} (h : okN M B) (hB : B ≤ 1000) {key v : List UInt8} (hk : key.length ≤ 1000) (hv : v.length ≤ 1000) : -1000000 ≤ u_coN M key v ∧ u_coN M key v ≤ 1000000 ∧ 0 ≤ u_coE M key ∧ u_coE M key ≤ 1 := by
  have h1 := co_b (okN_K h (by omega)) key
  unfold u_coN u_coE
  split <;> omega
theorem sz_lv {M : MD} {B : Nat} (h : okN M B) (key : List UInt8) : (u_lV M key).length ≤ 1000 := by
  have hl := okN_vs h key
  unfold u_lV u_last
  by_cases h0 : (u_vs M key).length = 0
  · rw [List.eq_nil_of_length_eq_zero h0]; exact Nat.zero_le _
  · rw [getLastD_eq h0, List.getD_eq_getElem?_getD, List.getElem?_eq_getElem (by omega)]
    obtain ⟨n, v, g, h1, h2, h3, h4⟩ := hl.2.1 _ (List.getElem_mem (l := u_vs M key) (n := (u_vs M key).length - 1) (by omega))
    show (((u_vs M key)[(u_vs M key).length - 1].fld 1).gs).length ≤ 1000
    rw [h1]; exact h4
theorem sz_all {l : List D} {i : Nat} (h : ∀ j, j < i → real.pLe (real.lenB (real.dS (real.dF (real.getD l j) 2))) 40) (hk : real.lenB (real.dS (real.dF (real.getD l (real.nat (real.int i))) 2)) ≤ 40) : ∀ j, j < i + 1 → real.pLe (real.lenB (real.dS (real.dF (real.getD l j) 2))) 40 := by
  intro j hj
  by_cases e : j = i
  · subst e; exact hk
  · exact h j (by omega)
theorem sz_sW {l : List D} {i : Nat} (h : real.lei (real.dI (real.dF (real.getD l (real.nat (real.int i))) 0)) (real.int 3) = true) : us.wrM (us.szM l i) (real.dS (real.dF (real.getD l (real.nat (real.int i))) 2)) (real.nint 0) (real.dS (real.dF (real.getD l (real.nat (real.int i))) 3)) = us.szM l (i + 1) := by
  have h : decide (((l.getD i D.no).fld 0).gi ≤ 3) = true := h
  rw [decide_eq_true_eq] at h
  show _ = szS (u_szM l i) (l.getD i D.no)
  unfold szS
  rw [if_pos h]; rfl
theorem sz_sD {l : List D} {i : Nat} (h : real.lei (real.dI (real.dF (real.getD l (real.nat (real.int i))) 0)) (real.int 3) = false) : us.dlM (us.szM l i) (real.dS (real.dF (real.getD l (real.nat (real.int i))) 2)) = us.szM l (i + 1) := by
  have h : decide (((l.getD i D.no).fld 0).gi ≤ 3) = false := h
  rw [decide_eq_false_iff_not] at h
  show _ = szS (u_szM l i) (l.getD i D.no)
  unfold szS
  rw [if_neg h]; rfl
attribute [local irreducible] u_okK u_wrE u_wrN u_wrM u_dlE u_dlN u_dlM u_sz u_szM u_rdE u_rdV u_coN u_coE
end Go.Proofs.Ythjlhookepchgaa
namespace Go.Proofs.Ythjlhookepchgaa
open Go Go.Vc
noncomputable def sp_law22_KvSize (F : Fs) (U : Us) : Specs := [(22, s_law22_known F U), (23, s_kv_New F U), (28, s_kv_KV_Size F U), (29, s_kv_KV_Cost F U), (26, s_kv_KV_Read F U), (24, s_kv_KV_Write F U), (27, s_kv_KV_Delete F U)]
theorem ok_law22_KvSize : SpecsOK Try.prog (sp_law22_KvSize real us) := sp_cons r_law22_known k_law22_known (sp_cons r_kv_New k_kv_New (sp_cons r_kv_KV_Size k_kv_KV_Size (sp_cons r_kv_KV_Cost k_kv_KV_Cost (sp_cons r_kv_KV_Read k_kv_KV_Read (sp_cons r_kv_KV_Write k_kv_KV_Write (sp_cons r_kv_KV_Delete k_kv_KV_Delete sp_nil))))))
noncomputable def an_law22_KvSize (F : Fs) (U : Us) (l : List D) : Anns := [(7, ⟨Nat, fun i => (i ≤ F.lenD l ∧ F.lenD l ≤ 40) ∧ ∀ j, j < i → F.pLe (F.lenB (F.dS (F.dF (F.getD l j) 2))) 40, fun i => F.subn (F.lenD l) i, fun i => ⟨[(0, .rb 5 (.ds (.t [.i, .i, .s, .s, .sl (.t [.i, .s, .b])]) l)), (3, .p 5 0 0), (4, .i (F.int i))], [(3, 5, .bk 114 [(1, .vs [.mh 6])]), (999, 6, .mp 112 .s (.sl (.t [.i, .s, .b])) (U.szM l i))]⟩⟩)]
noncomputable def x_law22_KvSize (F : Fs) (U : Us) : Cx := ⟨Try.f9.ntmps, tt F, sp_law22_KvSize F U, [], [], [], []⟩
theorem c_law22_KvSize (l : List D) (q0 : l.length ≤ 9223372036854775807) (m0 : ∀ x ∈ l, DF (.t [.i, .i, .s, .s, .sl (.t [.i, .s, .b])]) x) : vc real (x_law22_KvSize real us) (an_law22_KvSize real us l) [] (Try.f9.body.getD .skip) ⟨zipSl 0 [.rb 5 (.ds (.t [.i, .i, .s, .s, .sl (.t [.i, .s, .b])]) l)], [], 64⟩ (retOk real (tt real) false Try.f9.results.toList [.val (.b true)]) := by
  generalize hU : us = U
  generalize hF : real = F
  cbv
  repeat' first | apply And.intro | refine Classical.or_iff_not_imp_left.2 (fun _ => ?_) | exact trivial
  · rename_i h; subst hF hU; exact absurd rfl h
  · refine ⟨(0 : Nat), ?_⟩
    cbv
    subst hF hU
    have h1 : l.length ≤ 40 := ge_g (j := 40) (by assumption)
    exact ⟨⟨⟨Nat.zero_le _, h1⟩, fun j hj => absurd hj (Nat.not_lt_zero _)⟩, sz_M0 l, trivial⟩
  · intro (i : Nat) hi
    replace hi : (i ≤ F.lenD l ∧ F.lenD l ≤ 40) ∧ ∀ j, j < i → F.pLe (F.lenB (F.dS (F.dF (F.getD l j) 2))) 40 := hi
    cbv
    repeat' first | apply And.intro | refine Classical.or_iff_not_imp_left.2 (fun _ => ?_) | exact trivial
    all_goals first
      | (subst hF hU; exact inF rfl (lt_g (by assumption)))
      | (have hlt : i < F.lenD l := by subst hF hU; exact lt_g (by assumption)
         have hk : F.lenB (F.dS (F.dF (F.getD l (F.nat (F.int i))) 2)) ≤ 40 := by subst hF hU; exact ge_g (j := 40) (by assumption)
         have hv : F.lenB (F.dS (F.dF (F.getD l (F.nat (F.int i))) 3)) ≤ 100 := by subst hF hU; exact ge_g (j := 100) (by assumption)
         first
           | (refine ⟨(i + 1 : Nat), ?_⟩
              cbv
              subst hF hU
              have hw := addi1 (i := i) (by have h5 : l.length ≤ 40 := hi.1.2; have h6 : i < l.length := hlt; omega)
              first
                | exact ⟨⟨⟨hlt, hi.1.2⟩, sz_all hi.2 hk⟩, sub_stepN hlt, ⟨hw, trivial⟩, sz_sW (p_t (by assumption)), trivial⟩
                | exact ⟨⟨⟨hlt, hi.1.2⟩, sz_all hi.2 hk⟩, sub_stepN hlt, ⟨hw, trivial⟩, sz_sD (p_f (by assumption)), trivial⟩)
           | (subst hF hU
              have hk : ((l.getD i D.no).fld 2).gs.length ≤ 40 := hk
              have hv : ((l.getD i D.no).fld 3).gs.length ≤ 100 := hv
              have h6 : i ≤ 40 := Nat.le_trans hi.1.1 hi.1.2
              have hN := sz_I (l := l) i hi.2
              simp only [real, us, Int.cast_ofNat_Int, Int.toNat_natCast] at *
              generalize u_szM l i = M at *
              generalize ((l.getD i D.no).fld 2).gs = key at *
              generalize ((l.getD i D.no).fld 3).gs = v at *
              have hnd := hN.1.1
              have o1 := okN_K hN (by omega)
              have o2 := okN_wr hN key (-1) v
              have o3 := okN_dl hN key (by omega)
              have o2' := okN_K o2 (by omega)
              have o3' := okN_K o3 (by omega)
              have n1 := hN.2.1
              have n2 := o2.2.1
              have n3 := o3.2.1
              first
                | exact o1
                | exact o2'
                | exact o3'
                | exact Nat.le_trans n2 (by decide)
                | exact Nat.le_trans n3 (by decide)
                | (show (_ : Nat) ≤ 1000; omega)
                | (have r1 := sz_r hN (by omega)
                   have c1 := sz_cr hN (by omega) (key := key) (v := v) (by omega) (by omega)
                   have w1 : IntKind.i64.wrap (u_sz M + u_coN M key v) = u_sz M + u_coN M key v := wrap_sm (by omega) (by omega)
                   have w2 : IntKind.i64.wrap ((M.es.length : Int) + u_coE M key) = (M.es.length : Int) + u_coE M key := wrap_sm (by omega) (by omega)
                   by_cases eW : u_wrE M key (-1) v = 0
                   · have q := sz_wr hnd eW
                     clear o1 o2 o3 o2' o3' hN hi
                     simp only [w1, w2, q.1, q.2, eW, neg1] at *
                     simp_all
                     done
                   · have q : u_wrM M key (-1) v = M := by unfold u_wrM; rw [if_neg eW]
                     clear o1 o2 o3 o2' o3' hN hi
                     simp only [q, neg1] at *
                     simp_all
                     done)
                | (have r1 := sz_r hN (by omega)
                   have rr := sz_rd hN key
                   by_cases eD : u_dlE M key = 0
                   · have q := sz_dl hnd eD
                     have q2 := rr.1 eD
                     have lv := sz_lv hN key
                     have w3 : IntKind.i64.wrap (u_sz M - ((u_lV M key).length : Int)) = u_sz M - ((u_lV M key).length : Int) := wrap_sm (by omega) (by omega)
                     clear o1 o2 o3 o2' o3' hN hi rr
                     simp only [q.1, q.2, q2.1, q2.2, eD, w3] at *
                     simp_all
                     done
                   · have q2 := rr.2 eD
                     clear o1 o2 o3 o2' o3' hN hi rr
                     simp only [q2.1, q2.2.1, q2.2.2] at *
                     simp_all
                     done)))
end Go.Proofs.Ythjlhookepchgaa
namespace Go.Proofs.Ythjlhookepchgaa.kvSize
open Go.ChangeShapes Go.WideShapes Go.ChangeAt Go.RowKit
set_option linter.unusedVariables false
theorem own : ownKnob Try.prog.godebug = none := by kernel_rfl
theorem laidOut : laidOutB Try.prog = true := p_laidOut
set_option maxRecDepth 100000 in
theorem lifted (os : Os) (started : os.Started) (H : Type) (enc : TypeId × Value → H) :
    ReturnsInHanded {} Try.checked os 9 .any (Rows.kvSizeSpec.pre6 enc Try.prog Try.f9 Rows.kvSizeRow.domain false) (Rows.kvSizeSpec.post enc Try.prog Try.f9 false true false false) := by
  refine returnsInHanded_of_change_shaped (C := Try.checked) own started (by kernel_rfl) Try.func9
    (ChangeSpec.witness6 (enc := enc) (C := Try.checked) false ⟨#[], #[.slice none 0 0], []⟩ 8 (by kernel_rfl) (by kernel_rfl) (by kernel_rfl) (by kernel_rfl)) ?_
  intro W base args ds gs before hval0 hW hcnd hrch hsh _
  have hval : ∀ (j : Nat) t v, Try.f9.params[j]? = some t → args[j]? = some v → Value.okWide Try.prog W .any base t v := hval0
  have hW' := hW
  obtain ⟨p, q, hA0, hV, rfl, hfz, hnd⟩ := hW
  have hA : DataW.TrodAll enc Try.prog W 0 (fun _ => true) true Try.f9.params.toList args.toList ds p := hA0
  rw [Try.params9] at hA hval
  obtain ⟨v0, vs0, d0, ds0, p0, q0, hargs, rfl, rfl, h0, r0⟩ := trodAll_cons hA
  obtain ⟨rfl, rfl, rfl⟩ := trodAll_nil r0
  obtain rfl : args = #[v0] := by cases args; simp_all
  obtain ⟨rfl, rfl⟩ := trodVars_none hV
  obtain ⟨l, k0, q0, m0⟩ := Go.Vc.openLD (sh := .t [.i, .i, .s, .s, .sl (.t [.i, .s, .b])]) Try.underlying55 (by kernel_rfl) (by decide) ⟨_, Try.underlying58, by kernel_rfl, ⟨rfl, by kernel_rfl, (by show _ = _; kernel_rfl), ⟨rfl, by kernel_rfl, (by show _ = _; kernel_rfl), ⟨rfl, by kernel_rfl, (by show _ = _; kernel_rfl), ⟨rfl, by kernel_rfl, (by show _ = _; kernel_rfl), ⟨rfl, by kernel_rfl, ⟨49, by kernel_rfl, by kernel_rfl, by decide, ⟨_, Try.underlying49, by kernel_rfl, ⟨rfl, by kernel_rfl, (by show _ = _; kernel_rfl), ⟨rfl, by kernel_rfl, (by show _ = _; kernel_rfl), ⟨rfl, by kernel_rfl, (by show _ = _; kernel_rfl), trivial⟩⟩⟩⟩⟩, trivial⟩⟩⟩⟩⟩⟩ (hval 0 55 v0 rfl rfl) h0
  clear hA0 hval0
  refine (Go.Vc.law_walk2 (x := x_law22_KvSize Go.Vc.real us) (an := (an_law22_KvSize Go.Vc.real us l)) (cu := []) (l := [.rb 5 (.ds (.t [.i, .i, .s, .s, .sl (.t [.i, .s, .b])]) l)]) (vals := [v0]) ⟨tt_ok, ok_law22_KvSize, Go.Vc.ks_nil⟩ mixed Try.func9 rfl rfl (by kernel_rfl) hsh (Nat.le_of_ble_eq_true rfl) (Go.Vc.rvs_cons k0 Go.Vc.rvs_nil) (c_law22_KvSize l q0 m0)).mono fun e W' ⟨he, bel⟩ => ?_
  subst he
  exact ⟨_, rfl, Go.Vc.post_true (tb := 4) laidOut (by kernel_rfl) rfl Try.underlying4 rfl hW' rfl bel⟩
theorem over : Rows.kvSizeRow.holds Try.pinned (OpenSpec.ofChange Rows.kvSizeSpec) :=
  OpenClaim.holds_of_wide 9 Try.f9 rfl rfl rfl rfl rfl rfl rfl ⟨rfl, rfl, rfl, rfl, rfl⟩ rfl rfl rfl rfl rfl (by kernel_rfl) Try.func9 (Go.Vc.joined_of p_laidOut p_maps p_stops p_knobs p_heard p_mayEnter p_lifts p_make rfl rfl (by kernel_rfl) (by kernel_rfl) (by kernel_rfl) (by kernel_rfl) (by kernel_rfl) (by kernel_rfl) (by kernel_rfl) (by kernel_rfl) (by kernel_rfl) (by kernel_rfl) (by kernel_rfl) (by kernel_rfl) (by kernel_rfl) (by kernel_rfl) (by kernel_rfl) (by kernel_rfl) (by kernel_rfl) (by kernel_rfl) (by kernel_rfl) (by kernel_rfl) (by kernel_rfl) (by kernel_rfl) (by kernel_rfl) (by kernel_rfl) )
    (of_decide_eq_true (by kernel_rfl)) (by unfold Func.isWrapper; first | (rw [if_pos (by decide +kernel)]; kernel_rfl) | (rw [if_neg (by decide +kernel)]; exact ⟨rfl, rfl⟩))
    (fun os started H enc _ => lifted os started H enc)
theorem proved : Rows.KvSizeSaid := over
#print axioms proved
end Go.Proofs.Ythjlhookepchgaa.kvSize

