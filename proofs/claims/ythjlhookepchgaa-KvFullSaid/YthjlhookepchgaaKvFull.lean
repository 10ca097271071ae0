/- The given statement is proved: for every input the law's function answers true. No condition. -/
import Derived.Test.YthjlhookepchgaaRows
import Derived.Test.YthjlhookepchgaaPart5
import Derived.WalkKit
import Derived.HandedShaped
import Derived.ProofKit
import Derived.OpenShut
import Derived.ShutString
set_option linter.unusedVariables false
set_option linter.unusedSimpArgs false
set_option maxRecDepth 100000
set_option maxHeartbeats 1000000
namespace Go.Proofs.Ythjlhookepchgaa
open Go Go.Vc
theorem mu_step {n j c : Nat} (h : j < n) : real.addn (real.subn n (j + 1)) c < real.addn (real.subn n j) c := by
  show n - (j + 1) + c < n - j + c
  omega
theorem eq_g {n : Nat} (h : ¬ real.pB (real.eqi (real.int n) (real.int 0)) true) : ¬ n = 0 := by
  intro e; subst e; exact h rfl
/-! ## As many as there may be -/
def fk (j : Nat) : List UInt8 := [UInt8.ofNat (97 + j)]
theorem fk_inj : ∀ i, i < 20 → ∀ j, j < 20 → (fk i = fk j ↔ i = j) := by decide
theorem fk_isK : ∀ i, i < 20 → u_isK (fk i) = true := by decide
theorem wr_vs {M : MD} {key v : List UInt8} {cas : Int} (e : u_wrE M key cas v = 0) (key' : List UInt8) : u_vs (u_wrM M key cas v) key' = if key = key' then (u_vs M key).drop (u_fg M key) ++ [dv (u_lN M key + 1) v false] else u_vs M key' := by
  rw [wr_at e, set_vs]
theorem last_app (l : List D) (d : D) : (l ++ [d]).getLastD dv0 = d := by simp
theorem wr_lN {M : MD} {key v : List UInt8} {cas : Int} (e : u_wrE M key cas v = 0) : u_lN (u_wrM M key cas v) key = u_lN M key + 1 ∧ u_lG (u_wrM M key cas v) key = false ∧ u_has (u_wrM M key cas v) key = true := by
  refine ⟨?_, ?_, ?_⟩
  · unfold u_lN u_last
    rw [wr_vs e, if_pos rfl, last_app]; rfl
  · unfold u_lG u_last
    rw [wr_vs e, if_pos rfl, last_app]; rfl
  · rw [wr_at e, set_hasS, decide_eq_true rfl]; rfl
theorem wr_len {M : MD} {key v : List UInt8} {cas : Int} (e : u_wrE M key cas v = 0) : (u_wrM M key cas v).es.length = if u_has M key then M.es.length else M.es.length + 1 := by
  rw [wr_at e, set_lenS]; rfl
theorem vs_has {M : MD} {key : List UInt8} (h : ¬ u_lN M key = 0) : u_has M key = true := by
  cases hh : M.has (.s key) with
  | true => exact hh
  | false => exact absurd (last_0 (has_vs hh)).1 h
theorem dl_lN {M : MD} {key : List UInt8} (e : u_dlE M key = 0) : u_lN (u_dlM M key) key = u_lN M key ∧ u_has (u_dlM M key) key = true ∧ (u_dlM M key).es.length = M.es.length := by
  obtain ⟨h1, h2⟩ := dl_0 e
  have h0 := lN_len h1
  have hh := vs_has h1
  refine ⟨?_, ?_, ?_⟩
  · have hv : u_vs (u_dlM M key) key = (u_vs M key).set ((u_vs M key).length - 1) (dv (u_lN M key) [] true) := by rw [dl_at e, set_vs, if_pos rfl]
    show (((u_vs (u_dlM M key) key).getLastD dv0).fld 0).gi = u_lN M key
    rw [hv, getLastD_eq (by rw [List.length_set]; exact h0), List.length_set, List.getD_eq_getElem?_getD, List.getElem?_set, if_pos rfl, if_pos (by omega)]
    rfl
  · rw [dl_at e, set_hasS, decide_eq_true rfl]; rfl
  · rw [dl_at e, set_lenS]
    have hh : M.has (.s key) = true := hh
    rw [if_pos hh]
theorem fu_s (i : Nat) : u_fuM (i + 1) = u_wrM (u_fuM i) (fk i) (-1) [120] := rfl
structure FuI (i : Nat) : Prop where
  ok : okN (u_fuM i) i
  len : (u_fuM i).es.length = min i 12
  hs : ∀ j, j < 20 → u_has (u_fuM i) (fk j) = decide (j < min i 12)
  vs : ∀ j, j < min i 12 → u_vs (u_fuM i) (fk j) = [dv 1 [120] false]
theorem fu_E {i : Nat} (hi : i < 20) (h : FuI i) : u_wrE (u_fuM i) (fk i) (-1) [120] = if i < 12 then 0 else 102 := by
  have hh := h.hs i hi
  rw [decide_eq_false (by omega)] at hh
  have hn := (last_0 (has_vs hh)).1
  unfold u_wrE
  rw [fk_isK i hi, hn, h.len]
  by_cases e : i < 12
  · rw [if_neg (by decide), if_neg (by decide), if_neg (by omega), if_neg (by omega), if_pos e]
  · rw [if_neg (by decide), if_neg (by decide), if_neg (by omega), if_pos (by omega), if_neg e]
theorem fu_I : ∀ i, i ≤ 20 → FuI i
  | 0, _ => ⟨okN_0 0, rfl, fun j _ => by rw [decide_eq_false (by omega)]; rfl, fun j hj => by omega⟩
  | i + 1, hi => by
    have ih := fu_I i (by omega)
    have hE := fu_E (by omega) ih
    have hh := ih.hs i (by omega)
    rw [decide_eq_false (by omega)] at hh
    by_cases e : i < 12
    · rw [if_pos e] at hE
      refine ⟨okN_wr ih.ok _ _ _, ?_, fun j hj => ?_, fun j hj => ?_⟩
      · rw [fu_s, wr_len hE, hh, ih.len]
        show min i 12 + 1 = _
        omega
      · rw [fu_s, wr_at hE, set_hasS, ih.hs j hj]
        by_cases e2 : i = j
        · subst e2; rw [decide_eq_true rfl, decide_eq_true (p := i < min (i + 1) 12) (by omega)]; rfl
        · rw [decide_eq_false (fun h => e2 ((fk_inj i (by omega) j hj).1 h)), Bool.false_or, decide_eq_decide]; omega
      · rw [fu_s, wr_vs hE]
        by_cases e2 : i = j
        · subst e2
          rw [if_pos rfl, has_vs hh]
          unfold u_fg u_lN u_last
          rw [has_vs hh]; rfl
        · rw [if_neg (fun h => e2 ((fk_inj i (by omega) j (by omega)).1 h)), ih.vs j (by omega)]
    · rw [if_neg e] at hE
      have q : u_fuM (i + 1) = u_fuM i := by rw [fu_s]; unfold u_wrM; rw [hE]; rfl
      refine ⟨by rw [q]; exact okN_mono ih.ok (Nat.le_succ _), by rw [q, ih.len]; omega, fun j hj => by rw [q, ih.hs j hj, decide_eq_decide]; omega, fun j hj => by rw [q, ih.vs j (by omega)]⟩
theorem fu_ok {i : Nat} (hi : i ≤ 20) : u_okK (u_fuM i) := okN_K (fu_I i hi).ok (by omega)
/-- what is done with one that is there -/
theorem fu_one {m t : Nat} (hm : m ≤ 20) (ht : t < min m 12) : ∃ M1 M2 M3 : MD, u_wrM (u_fuM m) (fk t) 1 [121] = M1 ∧ u_dlM M1 (fk t) = M2 ∧ u_wrM M2 (fk t) 2 [122] = M3 ∧ u_wrE (u_fuM m) (fk t) 1 [121] = 0 ∧ u_wrN (u_fuM m) (fk t) 1 [121] = 2 ∧ u_dlE M1 (fk t) = 0 ∧ u_wrE M2 (fk t) 2 [122] = 0 ∧ u_wrN M2 (fk t) 2 [122] = 3 ∧ u_okK M1 ∧ u_okK M2 ∧ u_okK M3 ∧ M3.keysS.length = min m 12 := by
  have h := fu_I m hm
  have hv := h.vs t ht
  have hk := fk_isK t (by omega)
  have n0 : u_lN (u_fuM m) (fk t) = 1 := by unfold u_lN u_last; rw [hv]; rfl
  have hs0 : u_has (u_fuM m) (fk t) = true := vs_has (by rw [n0]; decide)
  have e1 : u_wrE (u_fuM m) (fk t) 1 [121] = 0 := by
    unfold u_wrE
    rw [hk, n0, if_neg (by decide), if_neg (by decide), if_neg (by omega), if_neg (by omega)]
  obtain ⟨n1, g1, hs1⟩ := wr_lN e1
  have o1 := okN_wr h.ok (fk t) 1 [121]
  have l1 := wr_len e1
  rw [if_pos hs0] at l1
  rw [n0] at n1
  have e2 : u_dlE (u_wrM (u_fuM m) (fk t) 1 [121]) (fk t) = 0 := by
    unfold u_dlE
    rw [n1, g1, if_neg]
    rintro (h | h)
    · omega
    · cases h
  obtain ⟨n2, hs2, l2⟩ := dl_lN e2
  have o2 := okN_dl o1 (fk t) (by show 1 ≤ 1000; decide)
  rw [n1] at n2
  have e3 : u_wrE (u_dlM (u_wrM (u_fuM m) (fk t) 1 [121]) (fk t)) (fk t) 2 [122] = 0 := by
    unfold u_wrE
    rw [hk, n2, if_neg (by decide), if_neg (by decide), if_neg (by omega), if_neg (by omega)]
  have o3 := okN_wr o2 (fk t) 2 [122]
  have l3 := wr_len e3
  rw [if_pos hs2] at l3
  refine ⟨_, _, _, rfl, rfl, rfl, e1, by unfold u_wrN; rw [if_pos e1, n0]; rfl, e2, e3, by unfold u_wrN; rw [if_pos e3, n2]; rfl, okN_K o1 (by omega), okN_K o2 (by omega), okN_K o3 (by omega), ?_⟩
  unfold MD.keysS
  rw [List.length_mergeSort, List.length_map, l3, l2, l1, h.len]
theorem fu_k (n : UInt8) : real.wrapi (real.toI8 (real.rem8 n (real.ofI8 (real.int 20)))) = real.int (u_fuK n) := by
  have h : (n % UInt8.ofNat ((20 : Int) % 2 ^ 8).toNat).toNat = n.toNat % 20 := by
    rw [UInt8.toNat_mod]; rfl
  have h2 : IntKind.i64.wrap (((n % UInt8.ofNat ((20 : Int) % 2 ^ 8).toNat).toNat : Nat) : Int) = ((n.toNat % 20 : Nat) : Int) := by
    rw [h, wrap_sm (by omega) (by omega)]
  exact h2
theorem fuK_le (n : UInt8) : u_fuK n ≤ 19 := by unfold u_fuK; omega
theorem fu_M0 : (⟨[], 0⟩ : MD) = u_fuM 0 := rfl
theorem fu_key : ∀ i, i < 20 → [real.add8 (real.ofI8 (real.int 97)) (real.ofI8 (real.int i))] = fk i := by decide
theorem fu_l1 {c : UInt8} : real.pLe (real.lenB [c]) 1000 := Nat.le_of_ble_eq_true rfl
theorem fu_st {i : Nat} (hi : i < 20) : us.wrM (us.fuM i) [real.add8 (real.ofI8 (real.int 97)) (real.ofI8 (real.int i))] (real.nint 0) (real.ofS ⟨⟨[120]⟩⟩) = us.fuM (i + 1) := by
  rw [fu_key i hi]; rfl
theorem e_f0 {a : Nat} (h : ¬ real.pB (real.eqi (real.int a) (real.int 0)) false) : a = 0 := by
  have h : ¬ ((a : Int) == 0) = false := h
  cases hq : ((a : Int) == 0) with
  | false => exact absurd hq h
  | true => rw [beq_iff_eq] at hq; omega
theorem fu_skey {n : UInt8} (again : UInt8) (hk : u_fuK n ≤ 19) (hm : 0 < u_fuK n) : [real.add8 (real.ofI8 (real.int 97)) (real.rem8 again (real.ofI8 (real.mini (real.int (u_fuK n)) (real.int 12))))] = fk (u_fuI n again) := by
  have m0 : real.mini (real.int (u_fuK n)) (real.int 12) = ((min (u_fuK n) 12 : Nat) : Int) := by
    show (if (12 : Int) < ((u_fuK n : Nat) : Int) then (12 : Int) else ((u_fuK n : Nat) : Int)) = _
    split <;> omega
  rw [m0]
  unfold fk u_fuI
  generalize hq : min (u_fuK n) 12 = q
  have q1 : 0 < q := by omega
  have q2 : q ≤ 12 := by omega
  have ha := Nat.mod_lt again.toNat q1
  congr 1
  show UInt8.ofNat ((97 : Int) % 2 ^ 8).toNat + again % UInt8.ofNat (((q : Nat) : Int) % 2 ^ 8).toNat = _
  have hq8 : (((q : Nat) : Int) % 2 ^ 8).toNat = q := by omega
  rw [hq8]
  refine UInt8.toNat_inj.1 ?_
  rw [UInt8.toNat_add, UInt8.toNat_mod, UInt8.toNat_ofNat', UInt8.toNat_ofNat', UInt8.toNat_ofNat', Nat.mod_eq_of_lt (a := q) (by omega)]
  show (97 + again.toNat % q) % 2 ^ 8 = _
  rfl
theorem fu_ne {n : UInt8} (hm : 0 < u_fuK n) (hk : u_fuK n ≤ 19) : real.pNe (real.toI8 (real.ofI8 (real.mini (real.int (u_fuK n)) (real.int 12)))) := by
  have m0 : real.mini (real.int (u_fuK n)) (real.int 12) = ((min (u_fuK n) 12 : Nat) : Int) := by
    show (if (12 : Int) < ((u_fuK n : Nat) : Int) then (12 : Int) else ((u_fuK n : Nat) : Int)) = _
    split <;> omega
  rw [m0]
  generalize hq : min (u_fuK n) 12 = q
  show ((UInt8.ofNat (((q : Nat) : Int) % 2 ^ 8).toNat).toNat : Int) ≠ 0
  have hq8 : (((q : Nat) : Int) % 2 ^ 8).toNat = q := by omega
  rw [hq8, UInt8.toNat_ofNat', Nat.mod_eq_of_lt (a := q) (by omega)]
  omega
theorem fu_e0 {m : Nat} (h : m = 0) : real.eqi (real.int (real.lenS (real.keysS (u_fuM m)))) (real.int 0) = true := by
  subst h
  show (((⟨[], 0⟩ : MD).keysS.length : Int) == 0) = true
  unfold MD.keysS
  rw [List.length_mergeSort]; rfl
theorem fu_keys0 : (⟨[], 0⟩ : MD).keysS.length = 0 := by
  unfold MD.keysS
  rw [List.length_mergeSort]; rfl
attribute [local irreducible] u_okK u_wrE u_wrN u_wrM u_dlE u_dlN u_dlM u_fuM
end Go.Proofs.Ythjlhookepchgaa
namespace Go.Proofs.Ythjlhookepchgaa
open Go Go.Vc
noncomputable def sp_law22_KvFull (F : Fs) (U : Us) : Specs := [(22, s_law22_known F U), (23, s_kv_New F U), (24, s_kv_KV_Write F U), (25, s_kv_KV_Keys F U), (27, s_kv_KV_Delete F U)]
theorem ok_law22_KvFull : SpecsOK Try.prog (sp_law22_KvFull real us) := sp_cons r_law22_known k_law22_known (sp_cons r_kv_New k_kv_New (sp_cons r_kv_KV_Write k_kv_KV_Write (sp_cons r_kv_KV_Keys k_kv_KV_Keys (sp_cons r_kv_KV_Delete k_kv_KV_Delete sp_nil))))
noncomputable def an_law22_KvFull (F : Fs) (U : Us) (n again : UInt8) : Anns := [(6, ⟨Nat, fun i => i ≤ U.fuK n, fun i => F.subn (U.fuK n) i, fun i => ⟨[(1, .w8 again), (5, .p 5 0 0), (6, .i (F.int (U.fuK n))), (7, .i (F.int i))], [(5, 5, .bk 114 [(1, .vs [.mh 6])]), (999, 6, .mp 112 .s (.sl (.t [.i, .s, .b])) (U.fuM i))]⟩⟩)]
noncomputable def x_law22_KvFull (F : Fs) (U : Us) : Cx := ⟨Try.f8.ntmps, tt F, sp_law22_KvFull F U, [], [], [], []⟩
theorem c_law22_KvFull (n again : UInt8)  : vc real (x_law22_KvFull real us) (an_law22_KvFull real us n again) [] (Try.f8.body.getD .skip) ⟨zipSl 0 [.w8 n, .w8 again], [], 64⟩ (retOk real (tt real) false Try.f8.results.toList [.val (.b true)]) := by
  generalize hU : us = U
  generalize hF : real = F
  cbv
  repeat' first | apply And.intro | refine Classical.or_iff_not_imp_left.2 (fun _ => ?_) | exact trivial
  · rename_i h; subst hF hU; exact absurd rfl h
  · subst hF hU; show ((20 : UInt8).toNat : Int) ≠ 0; decide
  · refine ⟨(0 : Nat), ?_⟩
    cbv
    subst hF hU
    exact ⟨Nat.zero_le _, ⟨fu_k n, trivial⟩, fu_M0, trivial⟩
  · intro (i : Nat) hi
    replace hi : i ≤ U.fuK n := hi
    have hk : U.fuK n ≤ 19 := by subst hF hU; exact fuK_le n
    cbv
    repeat' first | apply And.intro | refine Classical.or_iff_not_imp_left.2 (fun _ => ?_) | exact trivial
    all_goals first
      | (subst hF hU; exact fu_ok (by have : i ≤ 19 := Nat.le_trans hi hk; omega))
      | (subst hF hU; exact fu_l1 (c := 0))
      | (have hlt : i < U.fuK n := by subst hF hU; exact lt_g (by assumption)
         first
           | (refine ⟨(i + 1 : Nat), ?_⟩
              cbv
              subst hF hU
              exact ⟨hlt, sub_stepN hlt, ⟨addi1 (by omega), trivial⟩, fu_st (by omega), trivial⟩)
           | (exfalso
              subst hF hU
              have h20 : i < 20 := by omega
              have q := fu_E h20 (fu_I i (by omega))
              have e := fu_key i h20
              by_cases h12 : i < 12
              · have h13 : (i : Int) < 12 := by omega
                rw [if_pos h12] at q
                simp only [real, us, Int.cast_ofNat_Int] at *
                simp only [e] at *
                simp_all
                done
              · have h13 : ¬ (i : Int) < 12 := by omega
                rw [if_neg h12] at q
                simp only [real, us, Int.cast_ofNat_Int] at *
                simp only [e] at *
                simp_all
                done))
      | skip
    all_goals (
      have hge : U.fuK n ≤ i := by subst hF hU; exact ge_g (by assumption)
      have e : i = U.fuK n := Nat.le_antisymm hi hge
      subst e)
    all_goals (
      subst hF hU
      clear hge hi
      first
        | exact fu_l1 (c := 0)
        | (have h0 := e_f0 (by assumption)
           exact fu_e0 h0)
        | (have h0 : ¬ u_fuK n = 0 := eq_g (by assumption)
           have hm : 0 < u_fuK n := Nat.pos_of_ne_zero h0
           have ht : u_fuI n again < min (u_fuK n) 12 := Nat.mod_lt _ (by omega)
           have e := fu_skey again hk hm
           have m0 : (if (12 : Int) < ((u_fuK n : Nat) : Int) then (12 : Int) else ((u_fuK n : Nat) : Int)) = ((min (u_fuK n) 12 : Nat) : Int) := by split <;> omega
           obtain ⟨M1, M2, M3, h1, h2, h3, f1, f2, f3, f4, f5, o1, o2, o3, l3⟩ := fu_one (m := u_fuK n) (by have := fuK_le n; omega) ht
           first
             | exact fu_ne hm hk
             | (simp only [real, us, Int.cast_ofNat_Int] at *
                simp_all
                done)))
end Go.Proofs.Ythjlhookepchgaa
namespace Go.Proofs.Ythjlhookepchgaa.kvFull
open Go.ChangeShapes Go.WideShapes Go.ChangeAt Go.RowKit
set_option linter.unusedVariables false
theorem own : ownKnob Try.prog.godebug = none := by kernel_rfl
theorem laidOut : laidOutB Try.prog = true := p_laidOut
set_option maxRecDepth 100000 in
theorem lifted (os : Os) (started : os.Started) (H : Type) (enc : TypeId × Value → H) :
    ReturnsInHanded {} Try.checked os 8 .any (Rows.kvFullSpec.pre6 enc Try.prog Try.f8 Rows.kvFullRow.domain false) (Rows.kvFullSpec.post enc Try.prog Try.f8 false true false false) := by
  refine returnsInHanded_of_change_shaped (C := Try.checked) own started (by kernel_rfl) Try.func8
    (ChangeSpec.witness6 (enc := enc) (C := Try.checked) false ⟨#[], #[.int .u8 0, .int .u8 0], []⟩ 8 (by kernel_rfl) (by kernel_rfl) (by kernel_rfl) (by kernel_rfl)) ?_
  intro W base args ds gs before hval0 hW hcnd hrch hsh _
  have hval : ∀ (j : Nat) t v, Try.f8.params[j]? = some t → args[j]? = some v → Value.okWide Try.prog W .any base t v := hval0
  have hW' := hW
  obtain ⟨p, q, hA0, hV, rfl, hfz, hnd⟩ := hW
  have hA : DataW.TrodAll enc Try.prog W 0 (fun _ => true) true Try.f8.params.toList args.toList ds p := hA0
  rw [Try.params8] at hA hval
  obtain ⟨v0, vs0, d0, ds0, p0, q0, hargs, rfl, rfl, h0, r0⟩ := trodAll_cons hA
  obtain ⟨v1, vs1, d1, ds1, p1, q1, rfl, rfl, rfl, h1, r1⟩ := trodAll_cons r0
  obtain ⟨rfl, rfl, rfl⟩ := trodAll_nil r1
  obtain rfl : args = #[v0, v1] := by cases args; simp_all
  obtain ⟨rfl, rfl⟩ := trodVars_none hV
  obtain ⟨n, k0⟩ := Go.Vc.open8 Try.underlying5 (hval 0 5 v0 rfl rfl) h0
  obtain ⟨again, k1⟩ := Go.Vc.open8 Try.underlying5 (hval 1 5 v1 rfl rfl) h1
  clear hA0 hval0
  refine (Go.Vc.law_walk2 (x := x_law22_KvFull Go.Vc.real us) (an := (an_law22_KvFull Go.Vc.real us n again)) (cu := []) (l := [.w8 n, .w8 again]) (vals := [v0, v1]) ⟨tt_ok, ok_law22_KvFull, Go.Vc.ks_nil⟩ mixed Try.func8 rfl rfl (by kernel_rfl) hsh (Nat.le_of_ble_eq_true rfl) (Go.Vc.rvs_cons k0 (Go.Vc.rvs_cons k1 Go.Vc.rvs_nil)) (c_law22_KvFull n again )).mono fun e W' ⟨he, bel⟩ => ?_
  subst he
  exact ⟨_, rfl, Go.Vc.post_true (tb := 4) laidOut (by kernel_rfl) rfl Try.underlying4 rfl hW' rfl bel⟩
theorem over : Rows.kvFullRow.holds Try.pinned (OpenSpec.ofChange Rows.kvFullSpec) :=
  OpenClaim.holds_of_wide 8 Try.f8 rfl rfl rfl rfl rfl rfl rfl ⟨rfl, rfl, rfl, rfl, rfl⟩ rfl rfl rfl rfl rfl (by kernel_rfl) Try.func8 (Go.Vc.joined_of p_laidOut p_maps p_stops p_knobs p_heard p_mayEnter p_lifts p_make rfl rfl (by kernel_rfl) (by kernel_rfl) (by kernel_rfl) (by kernel_rfl) (by kernel_rfl) (by kernel_rfl) (by kernel_rfl) (by kernel_rfl) (by kernel_rfl) (by kernel_rfl) (by kernel_rfl) (by kernel_rfl) (by kernel_rfl) (by kernel_rfl) (by kernel_rfl) (by kernel_rfl) (by kernel_rfl) (by kernel_rfl) (by kernel_rfl) (by kernel_rfl) (by kernel_rfl) (by kernel_rfl) (by kernel_rfl) (by kernel_rfl) )
    (of_decide_eq_true (by kernel_rfl)) (by unfold Func.isWrapper; first | (rw [if_pos (by decide +kernel)]; kernel_rfl) | (rw [if_neg (by decide +kernel)]; exact ⟨rfl, rfl⟩))
    (fun os started H enc _ => lifted os started H enc)
theorem proved : Rows.KvFullSaid := over
#print axioms proved
end Go.Proofs.Ythjlhookepchgaa.kvFull

