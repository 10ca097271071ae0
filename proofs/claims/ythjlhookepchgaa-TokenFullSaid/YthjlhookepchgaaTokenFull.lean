/- The given statement is proved: for every input the law's function answers true. No condition. -/
import Derived.Test.YthjlhookepchgaaRows
import Derived.Test.YthjlhookepchgaaPart5
import Derived.WalkKit
import Derived.HandedShaped
import Derived.ProofKit
import Derived.OpenShut
import Derived.ShutString
set_option linter.unusedVariables false
set_option linter.unusedSimpArgs false
set_option maxRecDepth 100000
set_option maxHeartbeats 1000000
namespace Go.Proofs.Ythjlhookepchgaa
open Go Go.Vc
theorem fuT_r (t : UInt8) : 1 ≤ u_fuT t ∧ u_fuT t ≤ 256 := by
  unfold u_fuT
  have := t.toNat_lt
  omega
theorem fu_ok (t : Int) (m : Nat) (h : m ≤ 12) : u_okT (u_bk (u_fuG t) m) := bk_okT (by omega) (fun j _ => by show ([] : List (List UInt8)).length ≤ 1000; decide)
theorem fu_live {t now : Int} (h : now < 5 + t) (m : Nat) : (u_live (u_bk (u_fuG t) m) now).length = m := by
  rw [bk_live, List.length_map]
  have : (List.range m).filter (fun j => decide (now < (u_fuG t j).u)) = List.range m := List.filter_eq_self.2 fun j _ => decide_eq_true h
  rw [this, List.length_range]
theorem fu_dead {t now : Int} (h : 5 + t ≤ now) (m : Nat) : u_live (u_bk (u_fuG t) m) now = [] := by
  rw [bk_live]
  have : (List.range m).filter (fun j => decide (now < (u_fuG t j).u)) = [] := List.filter_eq_nil_iff.2 fun j _ => by
    show ¬ decide (now < 5 + t) = true
    rw [decide_eq_true_eq]; omega
  rw [this]; rfl
theorem fu_T {t : Int} (h : 1 ≤ t ∧ t ≤ 256) (M : MD) : u_mkT M 0 t 5 = 5 + t := by
  unfold u_mkT
  rw [if_pos rfl]; omega
theorem fu_A {t : Int} (h : 1 ≤ t ∧ t ≤ 256) {i : Nat} (hi : i < 12) : u_mkE (u_bk (u_fuG t) (min i 12)) 0 t 5 = 0 ∧ u_mkX (u_bk (u_fuG t) (min i 12)) (u_nx (min i 12)) 0 t 5 = (i : Int) + 1 ∧ u_mkN (u_bk (u_fuG t) (min i 12)) (u_nx (min i 12)) 0 t 5 = u_nx (min (i + 1) 12) ∧ u_mkM (u_bk (u_fuG t) (min i 12)) (u_nx (min i 12)) 0 t 5 [] [] = u_bk (u_fuG t) (min (i + 1) 12) := by
  have e1 : min i 12 = i := by omega
  have e2 : min (i + 1) 12 = i + 1 := by omega
  rw [e1, e2]
  have hm := most_le 0
  have q := bk_mk (g := u_fuG t) (n := i) (parent := 0) (ttl := t) (now := 5) (fun j _ => by show (5 : Int) < 5 + t; omega) hi ⟨by decide, by decide, h.1, by show t ≤ 1000000; omega⟩ (.inl rfl) (by rw [fu_T h]; rfl)
  obtain ⟨q1, q2, q3, q4⟩ := q
  exact ⟨q1, q2, q3.trans (by unfold u_nx; omega), q4⟩
theorem fu_B {t : Int} (h : 1 ≤ t ∧ t ≤ 256) {i : Nat} (hi : 12 ≤ i) : u_mkE (u_bk (u_fuG t) (min i 12)) 0 t 5 = 102 ∧ u_mkX (u_bk (u_fuG t) (min i 12)) (u_nx (min i 12)) 0 t 5 = 0 ∧ u_mkN (u_bk (u_fuG t) (min i 12)) (u_nx (min i 12)) 0 t 5 = u_nx (min (i + 1) 12) ∧ u_mkM (u_bk (u_fuG t) (min i 12)) (u_nx (min i 12)) 0 t 5 [] [] = u_bk (u_fuG t) (min (i + 1) 12) := by
  have e1 : min i 12 = 12 := by omega
  have e2 : min (i + 1) 12 = 12 := by omega
  rw [e1, e2]
  have e : u_mkE (u_bk (u_fuG t) 12) 0 t 5 = 102 := by
    unfold u_mkE
    have : u_most 0 = 1000000 := rfl
    rw [if_neg (by omega), if_neg (by omega), if_pos (by rw [fu_live (by omega)]; decide)]
  obtain ⟨q1, q2, q3⟩ := mk_n (M := u_bk (u_fuG t) 12) (nx := u_nx 12) (parent := 0) (ttl := t) (now := 5) (by rw [e]; decide) [] []
  exact ⟨e, q1, q2, q3⟩
def fuE (t : Int) (m : Nat) : MD := ⟨[(m, .i ((m : Int) + 1), u_tok ((m : Int) + 1) ⟨0, 5 + t + t, [], []⟩)], m + 1⟩
theorem fu_E {t : Int} (h : 1 ≤ t ∧ t ≤ 256) (m : Nat) : u_mkE (u_bk (u_fuG t) m) 0 t (5 + t) = 0 ∧ u_mkX (u_bk (u_fuG t) m) (u_nx m) 0 t (5 + t) = (m : Int) + 1 ∧ u_mkM (u_bk (u_fuG t) m) (u_nx m) 0 t (5 + t) [] [] = fuE t m := by
  have hm : u_most 0 = 1000000 := rfl
  have e : u_mkE (u_bk (u_fuG t) m) 0 t (5 + t) = 0 := by
    unfold u_mkE
    rw [if_neg (by omega), if_neg (by omega), if_neg (by rw [fu_dead (by omega)]; decide)]
  refine ⟨e, by unfold u_mkX; rw [if_pos e]; rfl, ?_⟩
  unfold u_mkM
  rw [if_pos e]
  have hp : u_pur (u_bk (u_fuG t) m) (5 + t) = ⟨[], m⟩ := by
    unfold u_pur
    have : (u_bk (u_fuG t) m).es.filter (fun e => u_val (u_bk (u_fuG t) m) e.2.1.gi (5 + t)) = [] := List.filter_eq_nil_iff.2 fun e he => by
      obtain ⟨j, hj, rfl⟩ := bk_mem.1 he
      show ¬ u_val (u_bk (u_fuG t) m) ((j : Int) + 1) (5 + t) = true
      rw [bk_val hj]
      show ¬ decide (5 + t < 5 + t) = true
      rw [decide_eq_true_eq]; omega
    rw [this]; rfl
  rw [hp]
  have ht : u_mkT (u_bk (u_fuG t) m) 0 t (5 + t) = 5 + t + t := by
    unfold u_mkT
    rw [if_pos rfl]; omega
  rw [ht]
  rfl
theorem fuE_ok (t : Int) {m : Nat} (hm : m ≤ 12) : u_okT (fuE t m) := by
  refine ⟨⟨by simp [fuE], by simp [fuE], fun e he => ?_⟩, ⟨by simp [fuE], fun e he => ?_⟩, fun e he => ?_, fun e he => ?_⟩ <;> simp only [fuE, List.mem_singleton] at he <;> subst he
  · simp [fuE]
  · show -9223372036854775808 ≤ (m : Int) + 1 ∧ (m : Int) + 1 ≤ 9223372036854775807
    omega
  · exact ⟨_, rfl⟩
  · show ([] : List (List UInt8)).length ≤ 1000
    decide
theorem fuE_live {t : Int} (h : 1 ≤ t) (m : Nat) : (u_live (fuE t m) (5 + t)).length = 1 := by
  have e : (fuE t m).keysI = [(m : Int) + 1] := by
    unfold MD.keysI
    exact List.mergeSort_of_pairwise (List.pairwise_singleton _ _)
  unfold u_live
  rw [e]
  have hv : u_val (fuE t m) ((m : Int) + 1) (5 + t) = true := by
    rw [val_of_mem (M := fuE t m) (b := m) (d := u_tok ((m : Int) + 1) ⟨0, 5 + t + t, [], []⟩) (by simp [fuE]) (by simp [fuE])]
    exact decide_eq_true (by show 5 + t < 5 + t + t; omega)
  simp [hv]
theorem fuE_has (t : Int) {m : Nat} (h : ¬ m = 0) : u_has (fuE t m) 1 = false := by
  unfold u_has MD.has fuE
  simp only [MD.find, D.i.injEq]
  rw [if_neg (by omega)]; rfl
theorem fu_0 : real.int 1 = us.nx (real.minn 0 12) := by
  show (1 : Int) = ((min 0 12 : Nat) : Int) + 1
  omega
theorem fu_b0 (t : UInt8) : (⟨[], 0⟩ : MD) = us.bk (us.fuG (us.fuT t)) (real.minn 0 12) := by
  show _ = u_bk _ (min 0 12)
  rfl
theorem fuK_le (n : UInt8) : u_fuK n ≤ 19 := by unfold u_fuK; omega
theorem fu_NM {t : Int} (h : 1 ≤ t ∧ t ≤ 256) (i : Nat) : u_mkN (u_bk (u_fuG t) (min i 12)) (u_nx (min i 12)) 0 t 5 = u_nx (min (i + 1) 12) ∧ u_mkM (u_bk (u_fuG t) (min i 12)) (u_nx (min i 12)) 0 t 5 [] [] = u_bk (u_fuG t) (min (i + 1) 12) := by
  by_cases hi : i < 12
  · exact ⟨(fu_A h hi).2.2.1, (fu_A h hi).2.2.2⟩
  · exact ⟨(fu_B h (by omega)).2.2.1, (fu_B h (by omega)).2.2.2⟩
theorem fu_in (i : Nat) : real.pIn (us.nx (real.minn i 12)) 1000000 := by
  show (0 : Int) ≤ ((min i 12 : Nat) : Int) + 1 ∧ ((min i 12 : Nat) : Int) + 1 < ((1000000 : Nat) : Int)
  omega
theorem fu_t (t : UInt8) : real.addi (real.wrapi (real.toI8 t)) (real.int 1) = us.fuT t := by
  show IntKind.i64.wrap (IntKind.i64.wrap (t.toNat : Int) + 1) = (t.toNat : Int) + 1
  have := t.toNat_lt
  rw [wrap_sm (a := (t.toNat : Int)) (by omega) (by omega), wrap_sm (by omega) (by omega)]
theorem fu_k (n : UInt8) : real.wrapi (real.toI8 (real.rem8 n (real.ofI8 (real.int 20)))) = real.int (us.fuK n) := by
  show IntKind.i64.wrap (((n % UInt8.ofInt 20).toNat : Nat) : Int) = ((n.toNat % 20 : Nat) : Int)
  have h : (n % UInt8.ofInt 20).toNat = n.toNat % 20 := by rw [UInt8.toNat_mod]; rfl
  rw [h, wrap_sm (by omega) (by omega)]
attribute [local irreducible] u_val u_okT u_live u_mkE u_mkX u_mkN u_mkM u_rvE u_rvN u_rvM u_bk u_get u_has
end Go.Proofs.Ythjlhookepchgaa
namespace Go.Proofs.Ythjlhookepchgaa
open Go Go.Vc
noncomputable def sp_law20_TokenFull (F : Fs) (U : Us) : Specs := [(15, s_law20_known F U), (16, s_token_New F U), (17, s_token_Book_Make F U), (19, s_token_Book_Live F U), (18, s_token_Book_Get F U)]
theorem ok_law20_TokenFull : SpecsOK Try.prog (sp_law20_TokenFull real us) := sp_cons r_law20_known k_law20_known (sp_cons r_token_New k_token_New (sp_cons r_token_Book_Make k_token_Book_Make (sp_cons r_token_Book_Live k_token_Book_Live (sp_cons r_token_Book_Get k_token_Book_Get sp_nil))))
noncomputable def an_law20_TokenFull (F : Fs) (U : Us) (n ttl : UInt8) : Anns := [(6, ⟨Nat, fun i => i ≤ U.fuK n, fun i => F.subn (U.fuK n) i, fun i => ⟨[(5, .p 5 0 0), (6, .i (F.int (U.fuK n))), (7, .i (U.fuT ttl)), (8, .i (F.int i))], [(5, 5, .bk 103 [(1, .vs [.mh 6]), (1, .vs [.i (U.nx (F.minn i 12))])]), (999, 6, .mp 101 .i (.t [.i, .i, .i, .ss, .s]) (U.bk (U.fuG (U.fuT ttl)) (F.minn i 12)))]⟩⟩)]
noncomputable def x_law20_TokenFull (F : Fs) (U : Us) : Cx := ⟨Try.f4.ntmps, tt F, sp_law20_TokenFull F U, [], [], [], []⟩
theorem c_law20_TokenFull (n ttl : UInt8)  : vc real (x_law20_TokenFull real us) (an_law20_TokenFull real us n ttl) [] (Try.f4.body.getD .skip) ⟨zipSl 0 [.w8 n, .w8 ttl], [], 64⟩ (retOk real (tt real) false Try.f4.results.toList [.val (.b true)]) := by
  generalize hU : us = U
  generalize hF : real = F
  cbv
  repeat' first | apply And.intro | refine Classical.or_iff_not_imp_left.2 (fun _ => ?_) | exact trivial
  · rename_i h; subst hF hU; exact absurd rfl h
  · subst hF hU; show ((20 : UInt8).toNat : Int) ≠ 0; decide
  · refine ⟨(0 : Nat), ?_⟩
    cbv
    subst hF hU
    exact ⟨Nat.zero_le _, ⟨fu_k n, fu_t ttl, trivial⟩, ⟨⟨fu_0, trivial⟩, trivial⟩, fu_b0 ttl, trivial⟩
  · intro (i : Nat) hi
    replace hi : i ≤ U.fuK n := hi
    have hk : U.fuK n ≤ 19 := by subst hF hU; exact fuK_le n
    cbv
    repeat' first | apply And.intro | refine Classical.or_iff_not_imp_left.2 (fun _ => ?_) | exact trivial
    all_goals first
      | (subst hF hU; exact fu_ok (u_fuT ttl) (min i 12) (by omega))
      | (subst hF hU; exact fu_in i)
      | (refine ⟨(i + 1 : Nat), ?_⟩
         cbv
         subst hF hU
         have hlt : i < u_fuK n := lt_g (by assumption)
         exact ⟨hlt, sub_stepN hlt, ⟨addi1 (by omega), trivial⟩, ⟨⟨(fu_NM (fuT_r ttl) i).1, trivial⟩, trivial⟩, (fu_NM (fuT_r ttl) i).2, trivial⟩)
      | (exfalso
         subst hF hU
         have hlt : i < u_fuK n := lt_g (by assumption)
         have w1 : IntKind.i64.wrap ((i : Int) + 1) = (i : Int) + 1 := wrap_sm (by omega) (by omega)
         by_cases h12 : i < 12
         · obtain ⟨q1, q2, _, _⟩ := fu_A (fuT_r ttl) h12
           have h13 : (i : Int) < 12 := by omega
           simp only [real, us, Int.cast_ofNat_Int, q1, q2, w1, h13] at *
           simp_all
           done
         · obtain ⟨q1, q2, _, _⟩ := fu_B (fuT_r ttl) (i := i) (by omega)
           have h13 : ¬ (i : Int) < 12 := by omega
           simp only [real, us, Int.cast_ofNat_Int, q1, q2, w1, h13] at *
           simp_all
           done)
      | (subst hF hU
         have hge : u_fuK n ≤ i := ge_g (by assumption)
         have hi : i ≤ u_fuK n := hi
         have e : i = u_fuK n := by omega
         have ht := fuT_r ttl
         have w1 : IntKind.i64.wrap (5 + u_fuT ttl) = 5 + u_fuT ttl := wrap_sm (by omega) (by omega)
         have w2 : IntKind.i64.wrap (5 + u_fuT ttl - 1) = 5 + u_fuT ttl - 1 := wrap_sm (by omega) (by omega)
         have w3 : IntKind.i64.wrap (((min i 12 : Nat) : Int) + 1) = ((min i 12 : Nat) : Int) + 1 := wrap_sm (by omega) (by omega)
         have l1 := fu_live (t := u_fuT ttl) (now := 5) (by omega) (min i 12)
         have l2 := fu_live (t := u_fuT ttl) (now := 5 + u_fuT ttl - 1) (by omega) (min i 12)
         have l3 := fu_dead (t := u_fuT ttl) (now := 5 + u_fuT ttl) (by omega) (min i 12)
         obtain ⟨q1, q2, q3⟩ := fu_E ht (min i 12)
         have l4 := fuE_live ht.1 (min i 12)
         have o4 := fuE_ok (u_fuT ttl) (m := min i 12) (by omega)
         have m0 : (if (12 : Int) < (u_fuK n : Int) then (12 : Int) else (u_fuK n : Int)) = ((min i 12 : Nat) : Int) := by split <;> omega
         have hs : ¬ min i 12 = 0 → u_has (fuE (u_fuT ttl) (min i 12)) 1 = false := fuE_has _
         have z0 : (((min i 12 : Nat) : Int) = 0) = (min i 12 = 0) := by apply propext; omega
         simp only [real, us, Int.cast_ofNat_Int, w1, w2, w3, l1, l2, l3, l4, q1, q2, q3, m0] at *
         first
           | exact o4
           | (simp_all; done))
end Go.Proofs.Ythjlhookepchgaa
namespace Go.Proofs.Ythjlhookepchgaa.tokenFull
open Go.ChangeShapes Go.WideShapes Go.ChangeAt Go.RowKit
set_option linter.unusedVariables false
theorem own : ownKnob Try.prog.godebug = none := by kernel_rfl
theorem laidOut : laidOutB Try.prog = true := p_laidOut
set_option maxRecDepth 100000 in
theorem lifted (os : Os) (started : os.Started) (H : Type) (enc : TypeId × Value → H) :
    ReturnsInHanded {} Try.checked os 4 .any (Rows.tokenFullSpec.pre6 enc Try.prog Try.f4 Rows.tokenFullRow.domain false) (Rows.tokenFullSpec.post enc Try.prog Try.f4 false true false false) := by
  refine returnsInHanded_of_change_shaped (C := Try.checked) own started (by kernel_rfl) Try.func4
    (ChangeSpec.witness6 (enc := enc) (C := Try.checked) false ⟨#[], #[.int .u8 0, .int .u8 0], []⟩ 8 (by kernel_rfl) (by kernel_rfl) (by kernel_rfl) (by kernel_rfl)) ?_
  intro W base args ds gs before hval0 hW hcnd hrch hsh _
  have hval : ∀ (j : Nat) t v, Try.f4.params[j]? = some t → args[j]? = some v → Value.okWide Try.prog W .any base t v := hval0
  have hW' := hW
  obtain ⟨p, q, hA0, hV, rfl, hfz, hnd⟩ := hW
  have hA : DataW.TrodAll enc Try.prog W 0 (fun _ => true) true Try.f4.params.toList args.toList ds p := hA0
  rw [Try.params4] at hA hval
  obtain ⟨v0, vs0, d0, ds0, p0, q0, hargs, rfl, rfl, h0, r0⟩ := trodAll_cons hA
  obtain ⟨v1, vs1, d1, ds1, p1, q1, rfl, rfl, rfl, h1, r1⟩ := trodAll_cons r0
  obtain ⟨rfl, rfl, rfl⟩ := trodAll_nil r1
  obtain rfl : args = #[v0, v1] := by cases args; simp_all
  obtain ⟨rfl, rfl⟩ := trodVars_none hV
  obtain ⟨n, k0⟩ := Go.Vc.open8 Try.underlying5 (hval 0 5 v0 rfl rfl) h0
  obtain ⟨ttl, k1⟩ := Go.Vc.open8 Try.underlying5 (hval 1 5 v1 rfl rfl) h1
  clear hA0 hval0
  refine (Go.Vc.law_walk2 (x := x_law20_TokenFull Go.Vc.real us) (an := (an_law20_TokenFull Go.Vc.real us n ttl)) (cu := []) (l := [.w8 n, .w8 ttl]) (vals := [v0, v1]) ⟨tt_ok, ok_law20_TokenFull, Go.Vc.ks_nil⟩ mixed Try.func4 rfl rfl (by kernel_rfl) hsh (Nat.le_of_ble_eq_true rfl) (Go.Vc.rvs_cons k0 (Go.Vc.rvs_cons k1 Go.Vc.rvs_nil)) (c_law20_TokenFull n ttl )).mono fun e W' ⟨he, bel⟩ => ?_
  subst he
  exact ⟨_, rfl, Go.Vc.post_true (tb := 4) laidOut (by kernel_rfl) rfl Try.underlying4 rfl hW' rfl bel⟩
theorem over : Rows.tokenFullRow.holds Try.pinned (OpenSpec.ofChange Rows.tokenFullSpec) :=
  OpenClaim.holds_of_wide 4 Try.f4 rfl rfl rfl rfl rfl rfl rfl ⟨rfl, rfl, rfl, rfl, rfl⟩ rfl rfl rfl rfl rfl (by kernel_rfl) Try.func4 (Go.Vc.joined_of p_laidOut p_maps p_stops p_knobs p_heard p_mayEnter p_lifts p_make rfl rfl (by kernel_rfl) (by kernel_rfl) (by kernel_rfl) (by kernel_rfl) (by kernel_rfl) (by kernel_rfl) (by kernel_rfl) (by kernel_rfl) (by kernel_rfl) (by kernel_rfl) (by kernel_rfl) (by kernel_rfl) (by kernel_rfl) (by kernel_rfl) (by kernel_rfl) (by kernel_rfl) (by kernel_rfl) (by kernel_rfl) (by kernel_rfl) (by kernel_rfl) (by kernel_rfl) (by kernel_rfl) (by kernel_rfl) (by kernel_rfl) )
    (of_decide_eq_true (by kernel_rfl)) (by unfold Func.isWrapper; first | (rw [if_pos (by decide +kernel)]; kernel_rfl) | (rw [if_neg (by decide +kernel)]; exact ⟨rfl, rfl⟩))
    (fun os started H enc _ => lifted os started H enc)
theorem proved : Rows.TokenFullSaid := over
#print axioms proved
end Go.Proofs.Ythjlhookepchgaa.tokenFull

