/- A part of the proof of given statements: a verified condition generator for the model, and contracts of the program's functions. No condition. -/
import Derived.Test.YthjlhookepchgaaPart4
import Derived.Test.YthjlhookepchgaaPart3
import Derived.ProofKit
import Derived.Carry
import Derived.OpenShut
import Derived.WideShapes
import Derived.ChangeOld
import Derived.JoinedOf
import Derived.Test.YthjlhookepchgaaRows
import Derived.KernelRfl
set_option linter.unusedVariables false
set_option linter.unusedSimpArgs false
set_option linter.constructorNameAsVariable false
set_option linter.unusedVariables false
set_option linter.unusedSimpArgs false
set_option maxRecDepth 100000
set_option maxHeartbeats 2000000
namespace Go.Proofs.Ythjlhookepchgaa
open Go Go.Vc
theorem mini_eq (a b : Int) : real.mini a b = min a b := by
  show (if b < a then b else a) = min a b
  split <;> omega
theorem mk0 {M : MD} {parent ttl now : Int} (h : u_mkE M parent ttl now = 0) : 0 ≤ now ∧ now ≤ 1000000 ∧ 1 ≤ ttl ∧ ttl ≤ u_most parent := by
  unfold u_mkE at h
  split at h
  · cases h
  · omega
theorem most_le (p : Int) : u_most p ≤ 1000000 := by unfold u_most; split <;> omega
theorem mk_until {M : MD} {parent ttl now : Int} (h : u_mkE M parent ttl now = 0) : real.mini (real.addi now ttl) (real.int 1000000) = min (now + ttl) 1000000 := by
  obtain ⟨h1, h2, h3, h4⟩ := mk0 h
  have := most_le parent
  rw [mini_eq]
  show min (IntKind.i64.wrap (now + ttl)) 1000000 = _
  rw [wrap_sm (by omega) (by omega)]
theorem mk_setN {M : MD} {nx parent ttl now : Int} {ent : List UInt8} {X : List (List UInt8)} (h : u_mkE M parent ttl now = 0) (hp : ¬ parent = 0) : real.mset (us.pur M now) (.i nx) (.t [.i nx, .i parent, .i (real.mini (real.mini (real.addi now ttl) (real.int 1000000)) (real.dI (real.dF (real.mget M (.i parent) (real.dz (.t [.i, .i, .i, .ss, .s]))) 2))), .ss X, .s ent]) = us.mkM M nx parent ttl now X ent := by
  rw [mk_until h, mini_eq]
  show _ = u_mkM M nx parent ttl now X ent
  unfold u_mkM u_mkT
  rw [if_pos h, if_neg hp]
  rfl
theorem mk_setZ {M : MD} {nx parent ttl now : Int} {ent : List UInt8} {X : List (List UInt8)} (h : u_mkE M parent ttl now = 0) (hp : parent = 0) : real.mset (us.pur M now) (.i nx) (.t [.i nx, .i parent, .i (real.mini (real.addi now ttl) (real.int 1000000)), .ss X, .s ent]) = us.mkM M nx parent ttl now X ent := by
  rw [mk_until h]
  show _ = u_mkM M nx parent ttl now X ent
  unfold u_mkM u_mkT
  rw [if_pos h, if_pos hp]
  rfl
theorem mk_X0 {M : MD} {nx parent ttl now : Int} (h : u_mkE M parent ttl now = 0) (hx : real.pIn nx 1000000) : real.subi (real.addi nx (real.int 1)) (real.int 1) = us.mkX M nx parent ttl now := by
  obtain ⟨h1, h2⟩ : 0 ≤ nx ∧ nx < ((1000000 : Nat) : Int) := hx
  show IntKind.i64.wrap (IntKind.i64.wrap (nx + 1) - 1) = u_mkX M nx parent ttl now
  unfold u_mkX
  rw [if_pos h, wrap_sm (a := nx + 1) (by omega) (by omega), wrap_sm (by omega) (by omega)]; omega
theorem mk_N0 {M : MD} {nx parent ttl now : Int} (h : u_mkE M parent ttl now = 0) (hx : real.pIn nx 1000000) : real.addi nx (real.int 1) = us.mkN M nx parent ttl now := by
  obtain ⟨h1, h2⟩ : 0 ≤ nx ∧ nx < ((1000000 : Nat) : Int) := hx
  show IntKind.i64.wrap (nx + 1) = u_mkN M nx parent ttl now
  unfold u_mkN
  rw [if_pos h, wrap_sm (by omega) (by omega)]
theorem mk_X {M : MD} {nx parent ttl now : Int} (h : ¬ u_mkE M parent ttl now = 0) : real.int 0 = us.mkX M nx parent ttl now := by
  show 0 = u_mkX M nx parent ttl now
  unfold u_mkX; rw [if_neg h]
theorem mk_N {M : MD} {nx parent ttl now : Int} (h : ¬ u_mkE M parent ttl now = 0) : nx = us.mkN M nx parent ttl now := by
  show nx = u_mkN M nx parent ttl now
  unfold u_mkN; rw [if_neg h]
theorem mk_M {M : MD} {nx parent ttl now : Int} {ent : List UInt8} {X : List (List UInt8)} (h : ¬ u_mkE M parent ttl now = 0) : M = us.mkM M nx parent ttl now X ent := by
  show M = u_mkM M nx parent ttl now X ent
  unfold u_mkM; rw [if_neg h]
attribute [local irreducible] u_val u_okT u_live u_liveP u_purP u_pur u_left u_seenOk
noncomputable def sp_token_Book_Make_n (F : Fs) (U : Us) : Specs := [(20, s_token_Book_Valid F U), (19, s_token_Book_Live F U), (54, s_maps_DeleteFunc F U)]
theorem ok_token_Book_Make_n : SpecsOK Try.prog (sp_token_Book_Make_n real us) := sp_cons r_token_Book_Valid k_token_Book_Valid (sp_cons r_token_Book_Live k_token_Book_Live (sp_cons r_maps_DeleteFunc k_maps_DeleteFunc sp_nil))
noncomputable def g_token_Book_Make_n (F : Fs) (U : Us) : GLaw := fun l mm => match l, mm with
  | [.p 0 0 0, .i parent, .i ttl, .i now, .nl, .s ent], [.bk T0 [(n1, .vs [.mh 1]), (n2, .vs [.i nx])], .mp T3 .i (.t [.i, .i, .i, .ss, .s]) M] => match Nat.beq T0 103, Nat.beq n1 1, Nat.beq n2 1, Nat.beq T3 101 with
    | true, true, true, true => some ⟨U.okT M ∧ F.pIn nx 1000000, [.i (U.mkX M nx parent ttl now), .i (U.mkE M parent ttl now)], [.bk 103 [(1, .vs [.mh 1]), (1, .vs [.i (U.mkN M nx parent ttl now)])], .mp 101 .i (.t [.i, .i, .i, .ss, .s]) (U.mkM M nx parent ttl now [] ent)], []⟩
    | _, _, _, _ => none
  | _, _ => none
noncomputable def s_token_Book_Make_n (F : Fs) (U : Us) : Vc.Spec := gSpec 2 0 (g_token_Book_Make_n F U)
noncomputable def x_token_Book_Make_n (F : Fs) (U : Us) : Cx := ⟨Try.f17.ntmps, tt F, sp_token_Book_Make_n F U, [], [(16, ([(4, [0, 3]), (7, [0, 3]), (8, [0, 3, 4, 7]), (11, [0, 3, 4, 7])], []))], [0, 1], []⟩
theorem c_token_Book_Make_n (parent ttl now nx : Int) (ent : List UInt8) (M : MD) (hc : us.okT M ∧ real.pIn nx 1000000) : vc real (x_token_Book_Make_n real us) [] [] (Try.f17.body.getD .skip) ⟨zipSl 0 [.p 0 0 0, .i parent, .i ttl, .i now, .nl, .s ent], zipMe 0 [.bk 103 [(1, .vs [.mh 1]), (1, .vs [.i nx])], .mp 101 .i (.t [.i, .i, .i, .ss, .s]) M], 64⟩ (retGOk real (tt real) Try.f17.results.toList [.i (us.mkX M nx parent ttl now), .i (us.mkE M parent ttl now)] [.bk 103 [(1, .vs [.mh 1]), (1, .vs [.i (us.mkN M nx parent ttl now)])], .mp 101 .i (.t [.i, .i, .i, .ss, .s]) (us.mkM M nx parent ttl now [] ent)] []) := by
  generalize hU : us = U
  generalize hF : real = F
  obtain ⟨hc, hx⟩ := hc
  cbv
  repeat' first | apply And.intro | refine Classical.or_iff_not_imp_left.2 (fun _ => ?_) | exact trivial
  all_goals (subst hF hU)
  all_goals first
    | exact hc
    | exact Int.le_refl 0
    | exact (by decide : (0 : Int) ≤ 0 ∧ (0 : Int) * ((16 : Nat) : Int) ≤ 281474976710656 ∧ (0 : Int) ≤ 4611686018427387904)
    | (have key : u_mkE M parent ttl now = 12 := by ((try simp only [real, us, Nat.le_eq, Int.cast_ofNat_Int, decide_eq_false_iff_not, decide_eq_true_eq, Bool.not_eq_true, Bool.not_eq_false, Bool.not_eq_true', Bool.not_eq_false'] at *); unfold u_mkE u_most; (repeat' split) <;> first | rfl | omega | (exfalso; simp_all; done) | (exfalso; simp_all; omega))
       first | exact key.symm | exact mk_X (by rw [key]; decide) | exact mk_N (by rw [key]; decide) | exact mk_M (by rw [key]; decide))
    | (have key : u_mkE M parent ttl now = 200 := by ((try simp only [real, us, Nat.le_eq, Int.cast_ofNat_Int, decide_eq_false_iff_not, decide_eq_true_eq, Bool.not_eq_true, Bool.not_eq_false, Bool.not_eq_true', Bool.not_eq_false'] at *); unfold u_mkE u_most; (repeat' split) <;> first | rfl | omega | (exfalso; simp_all; done) | (exfalso; simp_all; omega))
       first | exact key.symm | exact mk_X (by rw [key]; decide) | exact mk_N (by rw [key]; decide) | exact mk_M (by rw [key]; decide))
    | (have key : u_mkE M parent ttl now = 102 := by ((try simp only [real, us, Nat.le_eq, Int.cast_ofNat_Int, decide_eq_false_iff_not, decide_eq_true_eq, Bool.not_eq_true, Bool.not_eq_false, Bool.not_eq_true', Bool.not_eq_false'] at *); unfold u_mkE u_most; (repeat' split) <;> first | rfl | omega | (exfalso; simp_all; done) | (exfalso; simp_all; omega))
       first | exact key.symm | exact mk_X (by rw [key]; decide) | exact mk_N (by rw [key]; decide) | exact mk_M (by rw [key]; decide))
    | (have key : u_mkE M parent ttl now = 0 := by ((try simp only [real, us, Nat.le_eq, Int.cast_ofNat_Int, decide_eq_false_iff_not, decide_eq_true_eq, Bool.not_eq_true, Bool.not_eq_false, Bool.not_eq_true', Bool.not_eq_false'] at *); unfold u_mkE u_most; (repeat' split) <;> first | rfl | omega | (exfalso; simp_all; done) | (exfalso; simp_all; omega))
       first
         | exact key.symm
         | exact mk_X0 key hx
         | exact mk_N0 key hx
         | (by_cases hp : parent = 0
            · first
                | exact Eq.trans (by rfl) (mk_setZ (X := []) key hp)
                | (exfalso; simp only [real, us, Int.cast_ofNat_Int, Bool.not_eq_true, Bool.not_eq_false, Bool.not_eq_true', Bool.not_eq_false', decide_eq_true_eq, decide_eq_false_iff_not] at *; simp_all; done)
            · first
                | exact Eq.trans (by rfl) (mk_setN (X := []) key hp)
                | (exfalso; simp only [real, us, Int.cast_ofNat_Int, Bool.not_eq_true, Bool.not_eq_false, Bool.not_eq_true', Bool.not_eq_false', decide_eq_true_eq, decide_eq_false_iff_not] at *; simp_all; done)))
theorem k_token_Book_Make_n : SpecOK Try.prog 17 (s_token_Book_Make_n real us) := by
  refine g_sound (n := 2) (q := 0) (x := x_token_Book_Make_n real us) ⟨tt_ok, ok_token_Book_Make_n, Go.Vc.ks_nil⟩ mixed Try.func17 rfl rfl (by kernel_rfl) (by decide) (fun j hj => by simp [x_token_Book_Make_n]; omega) ?_
  intro l mm c rs ch news hg hl hc
  unfold g_token_Book_Make_n at hg
  split at hg
  · split at hg
    · rename_i h0 h1 h2 h3
      have z0 := beq_nat h0
      have z1 := beq_nat h1
      have z2 := beq_nat h2
      have z3 := beq_nat h3
      subst z0
      subst z1
      subst z2
      subst z3
      cases hg
      exact ⟨Nat.le_of_ble_eq_true rfl, [], [], c_token_Book_Make_n _ _ _ _ _ _ hc⟩
    · cases hg
  · cases hg

end Go.Proofs.Ythjlhookepchgaa
set_option linter.unusedVariables false
set_option linter.unusedSimpArgs false
set_option maxRecDepth 100000
set_option maxHeartbeats 2000000
namespace Go.Proofs.Ythjlhookepchgaa
open Go Go.Vc
theorem copyS (X : List (List UInt8)) : real.splS (real.repS (real.nat (real.int (real.lenS X)))) 0 (real.cutS X 0 (real.minn (real.lenS X) (real.lenS (real.repS (real.nat (real.int (real.lenS X))))))) = X := by
  show (List.replicate X.length ([] : List UInt8)).take 0 ++ (X.drop 0).take (min X.length (List.replicate X.length ([] : List UInt8)).length) ++ (List.replicate X.length ([] : List UInt8)).drop (0 + ((X.drop 0).take (min X.length (List.replicate X.length ([] : List UInt8)).length)).length) = X
  rw [List.length_replicate, Nat.min_self, List.drop_zero, List.take_length, List.drop_of_length_le (by rw [List.length_replicate]; omega)]
  simp
attribute [local irreducible] u_val u_okT u_live u_liveP u_purP u_pur u_left u_seenOk
noncomputable def sp_token_Book_Make_r (F : Fs) (U : Us) : Specs := [(20, s_token_Book_Valid F U), (19, s_token_Book_Live F U), (54, s_maps_DeleteFunc F U)]
theorem ok_token_Book_Make_r : SpecsOK Try.prog (sp_token_Book_Make_r real us) := sp_cons r_token_Book_Valid k_token_Book_Valid (sp_cons r_token_Book_Live k_token_Book_Live (sp_cons r_maps_DeleteFunc k_maps_DeleteFunc sp_nil))
noncomputable def g_token_Book_Make_r (F : Fs) (U : Us) : GLaw := fun l mm => match l, mm with
  | [.p 0 0 0, .i parent, .i ttl, .i now, .rw 1, .s ent], [.bk T1 [(n2, .vs [.mh 2]), (n3, .vs [.i nx])], .row T0 e0 (.ss pol), .mp T4 .i (.t [.i, .i, .i, .ss, .s]) M] => match Nat.beq T0 9, Nat.beq e0 1, Nat.beq T1 103, Nat.beq n2 1, Nat.beq n3 1, Nat.beq T4 101 with
    | true, true, true, true, true, true => some ⟨U.okT M ∧ F.pIn nx 1000000 ∧ F.pLe (F.lenS pol) 1000, [.i (U.mkX M nx parent ttl now), .i (U.mkE M parent ttl now)], [.bk 103 [(1, .vs [.mh 2]), (1, .vs [.i (U.mkN M nx parent ttl now)])], .row 9 1 (.ss pol), .mp 101 .i (.t [.i, .i, .i, .ss, .s]) (U.mkM M nx parent ttl now pol ent)], []⟩
    | _, _, _, _, _, _ => none
  | _, _ => none
noncomputable def s_token_Book_Make_r (F : Fs) (U : Us) : Vc.Spec := gSpec 3 0 (g_token_Book_Make_r F U)
noncomputable def x_token_Book_Make_r (F : Fs) (U : Us) : Cx := ⟨Try.f17.ntmps, tt F, sp_token_Book_Make_r F U, [], [(16, ([(4, [0, 3]), (7, [0, 3]), (8, [0, 3, 4, 7]), (11, [0, 3, 4, 7])], []))], [0, 1, 2], []⟩
theorem c_token_Book_Make_r (parent ttl now nx : Int) (pol : List (List UInt8)) (ent : List UInt8) (M : MD) (hc : us.okT M ∧ real.pIn nx 1000000 ∧ real.pLe (real.lenS pol) 1000) : vc real (x_token_Book_Make_r real us) [] [] (Try.f17.body.getD .skip) ⟨zipSl 0 [.p 0 0 0, .i parent, .i ttl, .i now, .rw 1, .s ent], zipMe 0 [.bk 103 [(1, .vs [.mh 2]), (1, .vs [.i nx])], .row 9 1 (.ss pol), .mp 101 .i (.t [.i, .i, .i, .ss, .s]) M], 64⟩ (retGOk real (tt real) Try.f17.results.toList [.i (us.mkX M nx parent ttl now), .i (us.mkE M parent ttl now)] [.bk 103 [(1, .vs [.mh 2]), (1, .vs [.i (us.mkN M nx parent ttl now)])], .row 9 1 (.ss pol), .mp 101 .i (.t [.i, .i, .i, .ss, .s]) (us.mkM M nx parent ttl now pol ent)] []) := by
  generalize hU : us = U
  generalize hF : real = F
  obtain ⟨hc, hx, hp8⟩ := hc
  have hp8 : pol.length ≤ 1000 := hp8
  cbv
  repeat' first | apply And.intro | refine Classical.or_iff_not_imp_left.2 (fun _ => ?_) | exact trivial
  all_goals (subst hF hU)
  all_goals first
    | exact hc
    | exact Int.natCast_nonneg pol.length
    | exact Int.le_refl _
    | exact (⟨by omega, by omega, by omega⟩ : (0 : Int) ≤ (pol.length : Int) ∧ (pol.length : Int) * ((16 : Nat) : Int) ≤ 281474976710656 ∧ (pol.length : Int) ≤ 4611686018427387904)
    | (have key : u_mkE M parent ttl now = 12 := by ((try simp only [real, us, Nat.le_eq, Int.cast_ofNat_Int, decide_eq_false_iff_not, decide_eq_true_eq, Bool.not_eq_true, Bool.not_eq_false, Bool.not_eq_true', Bool.not_eq_false'] at *); unfold u_mkE u_most; (repeat' split) <;> first | rfl | omega | (exfalso; simp_all; done) | (exfalso; simp_all; omega))
       first | exact key.symm | exact mk_X (by rw [key]; decide) | exact mk_N (by rw [key]; decide) | exact mk_M (by rw [key]; decide))
    | (have key : u_mkE M parent ttl now = 200 := by ((try simp only [real, us, Nat.le_eq, Int.cast_ofNat_Int, decide_eq_false_iff_not, decide_eq_true_eq, Bool.not_eq_true, Bool.not_eq_false, Bool.not_eq_true', Bool.not_eq_false'] at *); unfold u_mkE u_most; (repeat' split) <;> first | rfl | omega | (exfalso; simp_all; done) | (exfalso; simp_all; omega))
       first | exact key.symm | exact mk_X (by rw [key]; decide) | exact mk_N (by rw [key]; decide) | exact mk_M (by rw [key]; decide))
    | (have key : u_mkE M parent ttl now = 102 := by ((try simp only [real, us, Nat.le_eq, Int.cast_ofNat_Int, decide_eq_false_iff_not, decide_eq_true_eq, Bool.not_eq_true, Bool.not_eq_false, Bool.not_eq_true', Bool.not_eq_false'] at *); unfold u_mkE u_most; (repeat' split) <;> first | rfl | omega | (exfalso; simp_all; done) | (exfalso; simp_all; omega))
       first | exact key.symm | exact mk_X (by rw [key]; decide) | exact mk_N (by rw [key]; decide) | exact mk_M (by rw [key]; decide))
    | (have key : u_mkE M parent ttl now = 0 := by ((try simp only [real, us, Nat.le_eq, Int.cast_ofNat_Int, decide_eq_false_iff_not, decide_eq_true_eq, Bool.not_eq_true, Bool.not_eq_false, Bool.not_eq_true', Bool.not_eq_false'] at *); unfold u_mkE u_most; (repeat' split) <;> first | rfl | omega | (exfalso; simp_all; done) | (exfalso; simp_all; omega))
       first
         | exact key.symm
         | exact mk_X0 key hx
         | exact mk_N0 key hx
         | (by_cases hp : parent = 0
            · first
                | exact Eq.trans (congrArg (fun Y => real.mset (us.pur M now) (.i nx) (.t [.i nx, .i parent, .i (real.mini (real.addi now ttl) (real.int 1000000)), .ss Y, .s ent])) (copyS pol)) (mk_setZ (X := pol) key hp)
                | (exfalso; simp only [real, us, Int.cast_ofNat_Int, Bool.not_eq_true, Bool.not_eq_false, Bool.not_eq_true', Bool.not_eq_false', decide_eq_true_eq, decide_eq_false_iff_not] at *; simp_all; done)
            · first
                | exact Eq.trans (congrArg (fun Y => real.mset (us.pur M now) (.i nx) (.t [.i nx, .i parent, .i (real.mini (real.mini (real.addi now ttl) (real.int 1000000)) (real.dI (real.dF (real.mget M (.i parent) (real.dz (.t [.i, .i, .i, .ss, .s]))) 2))), .ss Y, .s ent])) (copyS pol)) (mk_setN (X := pol) key hp)
                | (exfalso; simp only [real, us, Int.cast_ofNat_Int, Bool.not_eq_true, Bool.not_eq_false, Bool.not_eq_true', Bool.not_eq_false', decide_eq_true_eq, decide_eq_false_iff_not] at *; simp_all; done)))
theorem k_token_Book_Make_r : SpecOK Try.prog 17 (s_token_Book_Make_r real us) := by
  refine g_sound (n := 3) (q := 0) (x := x_token_Book_Make_r real us) ⟨tt_ok, ok_token_Book_Make_r, Go.Vc.ks_nil⟩ mixed Try.func17 rfl rfl (by kernel_rfl) (by decide) (fun j hj => by simp [x_token_Book_Make_r]; omega) ?_
  intro l mm c rs ch news hg hl hc
  unfold g_token_Book_Make_r at hg
  split at hg
  · split at hg
    · rename_i h0 h1 h2 h3 h4 h5
      have z0 := beq_nat h0
      have z1 := beq_nat h1
      have z2 := beq_nat h2
      have z3 := beq_nat h3
      have z4 := beq_nat h4
      have z5 := beq_nat h5
      subst z0
      subst z1
      subst z2
      subst z3
      subst z4
      subst z5
      cases hg
      exact ⟨Nat.le_of_ble_eq_true rfl, [], [], c_token_Book_Make_r _ _ _ _ _ _ _ hc⟩
    · cases hg
  · cases hg

end Go.Proofs.Ythjlhookepchgaa
set_option linter.unusedVariables false
set_option linter.unusedSimpArgs false
set_option maxRecDepth 100000
set_option maxHeartbeats 2000000
namespace Go.Proofs.Ythjlhookepchgaa
open Go Go.Vc
theorem rvN_no {M : MD} {id now : Int} (h : u_val M id now = false) : u_rvN M id now = 0 := by unfold u_rvN; rw [if_neg (by rw [h]; decide)]
theorem rvE_no {M : MD} {id now : Int} (h : u_val M id now = false) : u_rvE M id now = 200 := by unfold u_rvE; rw [if_neg (by rw [h]; decide)]
theorem rvM_no {M : MD} {id now : Int} (h : u_val M id now = false) : u_rvM M id now = M := by unfold u_rvM; rw [if_neg (by rw [h]; decide)]
theorem rvE_yes {M : MD} {id now : Int} (h : u_val M id now = true) : u_rvE M id now = 0 := by unfold u_rvE; rw [if_pos h]
theorem gone_0 (M : MD) (id : Int) : real.mset (⟨[], 0⟩ : MD) (.i id) (.b true) = us.gone M id 0 := rfl
theorem gone_t {M : MD} {id : Int} {j : Nat} (h : ((u_gone M id j).get (.i ((M.get (.i (M.keysI.getD j 0)) tz).fld 1).gi) (.b false)).gb = true) : (u_gone M id j).set (.i (M.keysI.getD j 0)) (.b true) = u_gone M id (j + 1) := by
  rw [u_gone, if_pos h]
theorem gone_f {M : MD} {id : Int} {j : Nat} (h : ((u_gone M id j).get (.i ((M.get (.i (M.keysI.getD j 0)) tz).fld 1).gi) (.b false)).gb = false) : u_gone M id j = u_gone M id (j + 1) := by
  rw [u_gone, if_neg (by rw [h]; decide)]
theorem gone_e (M : MD) (id : Int) : u_gone M id M.keysI.length = u_goneA M id := rfl
theorem goneA_keys (M : MD) (id : Int) : ∀ e ∈ (u_goneA M id).es, ∃ n : Int, e.2.1 = .i n := gone_keys M id _
theorem goneA_len {M : MD} (h : u_okT M) (id : Int) : (u_goneA M id).es.length ≤ 1000001 := by
  have h1 := gone_len M id M.keysI.length
  have h2 := live_len h
  unfold u_goneA
  omega
theorem mu_step {n j c : Nat} (h : j < n) : real.addn (real.subn n (j + 1)) c < real.addn (real.subn n j) c := by
  show n - (j + 1) + c < n - j + c
  omega
theorem rv_cntT {M : MD} {id now : Int} {l : List Nat} {b : Nat} (h : u_okT M) (hl : u_seenOk (u_goneA M id) l) (hv : u_val M ((u_goneA M id).keyB b).gi now = true) : real.addi (us.cnt M (u_goneA M id) now l) (real.int 1) = us.cnt M (u_goneA M id) now (l ++ [b]) := by
  have h1 := cnt_le (M := M) (now := now) hl
  have h2 := goneA_len h id
  have e := cnt_s (M := M) (G := u_goneA M id) (now := now) (l := l) (b := b)
  rw [if_pos hv] at e
  show IntKind.i64.wrap (u_cnt M (u_goneA M id) now l + 1) = u_cnt M (u_goneA M id) now (l ++ [b])
  rw [e, wrap_sm (by omega) (by omega)]
theorem rv_cntF {M : MD} {id now : Int} {l : List Nat} {b : Nat} (hv : u_val M ((u_goneA M id).keyB b).gi now = false) : us.cnt M (u_goneA M id) now l = us.cnt M (u_goneA M id) now (l ++ [b]) := by
  have e := cnt_s (M := M) (G := u_goneA M id) (now := now) (l := l) (b := b)
  rw [if_neg (by rw [hv]; decide)] at e
  exact e.symm
attribute [local irreducible] u_val u_okT u_live u_liveP u_purP u_pur u_left u_seenOk u_gone u_del u_cnt u_rvE u_rvN u_rvM
theorem r_token_Book_Revoke : Ready Try.prog 21 := by unfold Ready; kernel_rfl
noncomputable def sp_token_Book_Revoke (F : Fs) (U : Us) : Specs := [(20, s_token_Book_Valid F U), (58, s_maps_Keys F U), (57, s_slices_Sorted F U)]
theorem ok_token_Book_Revoke : SpecsOK Try.prog (sp_token_Book_Revoke real us) := sp_cons r_token_Book_Valid k_token_Book_Valid (sp_cons r_maps_Keys k_maps_Keys (sp_cons r_slices_Sorted k_slices_Sorted sp_nil))
noncomputable def an_token_Book_Revoke (F : Fs) (U : Us) (id now nx : Int) (M : MD) : Anns := [(5, ⟨Nat, fun j => j ≤ F.lenI (F.keysI M), fun j => F.addn (F.subn (F.lenI (F.keysI M)) j) (F.addn (F.lenI (F.keysI M)) 2), fun j => ⟨[(0, .p 0 0 0), (1, .i id), (2, .i now), (8, .mh 4), (26, .rw 5), (27, .i (F.int (F.lenI (F.keysI M)))), (28, .i (F.int j))], [(999, 0, .bk 103 [(1, .vs [.mh 1]), (1, .vs [.i nx])]), (999, 1, .mp 101 .i (.t [.i, .i, .i, .ss, .s]) M), (8, 4, .mp 111 .i .b (U.gone M id j)), (26, 5, .row 3 1 (.is (F.keysI M)))]⟩⟩), (12, ⟨List Nat, fun l => U.seenOk (U.goneA M id) l, fun l => U.left (U.goneA M id) l, fun l => ⟨[(0, .p 0 0 0), (2, .i now), (11, .i (U.cnt M (U.goneA M id) now l)), (45, .p 5 0 0), (8, .mh 4)], [(999, 0, .bk 103 [(1, .vs [.mh 1]), (1, .vs [.i nx])]), (999, 1, .mp 101 .i (.t [.i, .i, .i, .ss, .s]) (U.del M (U.goneA M id) l)), (8, 4, .mp 111 .i .b (U.goneA M id)), (45, 5, .it 4 (F.mclk (U.goneA M id)) l (F.mclk (U.goneA M id)))]⟩⟩)]
noncomputable def g_token_Book_Revoke (F : Fs) (U : Us) : GLaw := fun l mm => match l, mm with
  | [.p 0 0 0, .i id, .i now], [.bk T0 [(n1, .vs [.mh 1]), (n2, .vs [.i nx])], .mp T3 .i (.t [.i, .i, .i, .ss, .s]) M] => match Nat.beq T0 103, Nat.beq n1 1, Nat.beq n2 1, Nat.beq T3 101 with
    | true, true, true, true => some ⟨U.okT M, [.i (U.rvN M id now), .i (U.rvE M id now)], [.bk 103 [(1, .vs [.mh 1]), (1, .vs [.i nx])], .mp 101 .i (.t [.i, .i, .i, .ss, .s]) (U.rvM M id now)], []⟩
    | _, _, _, _ => none
  | _, _ => none
noncomputable def s_token_Book_Revoke (F : Fs) (U : Us) : Vc.Spec := gSpec 2 0 (g_token_Book_Revoke F U)
noncomputable def x_token_Book_Revoke (F : Fs) (U : Us) : Cx := ⟨Try.f21.ntmps, tt F, sp_token_Book_Revoke F U, [], [], [0, 1], []⟩
theorem c_token_Book_Revoke (id now nx : Int) (M : MD) (hc : us.okT M) : vc real (x_token_Book_Revoke real us) (an_token_Book_Revoke real us id now nx M) [] (Try.f21.body.getD .skip) ⟨zipSl 0 [.p 0 0 0, .i id, .i now], zipMe 0 [.bk 103 [(1, .vs [.mh 1]), (1, .vs [.i nx])], .mp 101 .i (.t [.i, .i, .i, .ss, .s]) M], 64⟩ (retGOk real (tt real) Try.f21.results.toList [.i (us.rvN M id now), .i (us.rvE M id now)] [.bk 103 [(1, .vs [.mh 1]), (1, .vs [.i nx])], .mp 101 .i (.t [.i, .i, .i, .ss, .s]) (us.rvM M id now)] []) := by
  generalize hU : us = U
  generalize hF : real = F
  have hc : u_okT M := hc
  have hsm := live_len hc
  cbv
  repeat' first | apply And.intro | refine Classical.or_iff_not_imp_left.2 (fun _ => ?_) | exact trivial
  · subst hF hU
    have hv : u_val M id now = false := n_t (by assumption)
    exact (rvN_no hv).symm
  · subst hF hU
    have hv : u_val M id now = false := n_t (by assumption)
    exact (rvE_no hv).symm
  · subst hF hU
    have hv : u_val M id now = false := n_t (by assumption)
    exact (rvM_no hv).symm
  · subst hF hU; exact okT_key hc
  · refine ⟨(0 : Nat), ?_⟩
    cbv
    subst hF hU
    exact ⟨Nat.zero_le _, gone_0 M id, trivial⟩
  · have hv : U.val M id now = true := by subst hF hU; exact n_f (by assumption)
    intro (j : Nat) hj
    replace hj : j ≤ F.lenI (F.keysI M) := hj
    cbv
    repeat' first | apply And.intro | refine Classical.or_iff_not_imp_left.2 (fun _ => ?_) | exact trivial
    · subst hF hU; exact inF rfl (lt_g (by assumption))
    · subst hF hU; exact lt_g (by assumption)
    · refine ⟨(j + 1 : Nat), ?_⟩
      cbv
      subst hF hU
      have hlt : j < M.keysI.length := lt_g (by assumption)
      have hg : ((u_gone M id j).get (.i ((M.get (.i (M.keysI.getD j 0)) tz).fld 1).gi) (.b false)).gb = true := p_t (by assumption)
      exact ⟨hlt, mu_step hlt, ⟨addi1 (by omega), trivial⟩, gone_t hg, trivial⟩
    · refine ⟨(j + 1 : Nat), ?_⟩
      cbv
      subst hF hU
      have hlt : j < M.keysI.length := lt_g (by assumption)
      have hg : ((u_gone M id j).get (.i ((M.get (.i (M.keysI.getD j 0)) tz).fld 1).gi) (.b false)).gb = false := p_f (by assumption)
      exact ⟨hlt, mu_step hlt, ⟨addi1 (by omega), trivial⟩, gone_f hg, trivial⟩
    · refine ⟨([] : List Nat), ?_⟩
      cbv
      subst hF hU
      have hge : M.keysI.length ≤ j := ge_g (by assumption)
      have hj : j ≤ M.keysI.length := hj
      have e : j = M.keysI.length := by omega
      subst e
      exact ⟨seen_0 _, ⟨cnt_0 M (u_goneA M id) now, trivial⟩, del_0 M (u_goneA M id), gone_e M id, ⟨rfl, rfl⟩, trivial⟩
    · intro (l : List Nat) hl
      replace hl : U.seenOk (U.goneA M id) l := hl
      cbv
      repeat' first | apply And.intro | refine Classical.or_iff_not_imp_left.2 (fun _ => ?_) | exact trivial
      · subst hF hU; exact ⟨rfl, rfl⟩
      · intro hok hno
        cbv
        subst hF hU
        obtain ⟨q1, q2⟩ := rv_end hc hv hok (goneA_keys M id) hl hno
        exact ⟨⟨q1, (rvE_yes hv).symm, trivial⟩, q2, trivial⟩
      · intro b hok hb
        cbv
        repeat' first | apply And.intro | refine Classical.or_iff_not_imp_left.2 (fun _ => ?_) | exact trivial
        · subst hF hU; exact rng_ent rfl hb
        · refine ⟨(F.appN l b : List Nat), ?_⟩
          cbv
          subst hF hU
          have hs := left_step hl hb
          have e := back_app l b
          have hv2 : u_val (u_del M (u_goneA M id) l) ((u_goneA M id).keyB (real.backN (real.appN l b))).gi now = true := p_t (by assumption)
          have q := del_val (M := M) (G := u_goneA M id) (now := now) hok (goneA_keys M id) hl hb
          rw [e, q] at hv2
          refine ⟨hs.1, hs.2, ⟨rv_cntT hc hl hv2, trivial⟩, ?_, trivial⟩
          refine Eq.trans ?_ (del_step (G := u_goneA M id) (l := l) (b := b) hc)
          show (u_del M (u_goneA M id) l).del (.i ((u_goneA M id).keyB (real.backN (real.appN l b))).gi) = _
          rw [e]
        · refine ⟨(F.appN l b : List Nat), ?_⟩
          cbv
          subst hF hU
          have hs := left_step hl hb
          have e := back_app l b
          have hv2 : u_val (u_del M (u_goneA M id) l) ((u_goneA M id).keyB (real.backN (real.appN l b))).gi now = false := p_f (by assumption)
          have q := del_val (M := M) (G := u_goneA M id) (now := now) hok (goneA_keys M id) hl hb
          rw [e, q] at hv2
          refine ⟨hs.1, hs.2, ⟨rv_cntF hv2, trivial⟩, ?_, trivial⟩
          refine Eq.trans ?_ (del_step (G := u_goneA M id) (l := l) (b := b) hc)
          show (u_del M (u_goneA M id) l).del (.i ((u_goneA M id).keyB (real.backN (real.appN l b))).gi) = _
          rw [e]
theorem k_token_Book_Revoke : SpecOK Try.prog 21 (s_token_Book_Revoke real us) := by
  refine g_sound (n := 2) (q := 0) (x := x_token_Book_Revoke real us) ⟨tt_ok, ok_token_Book_Revoke, Go.Vc.ks_nil⟩ mixed Try.func21 rfl rfl (by kernel_rfl) (by decide) (fun j hj => by simp [x_token_Book_Revoke]; omega) ?_
  intro l mm c rs ch news hg hl hc
  unfold g_token_Book_Revoke at hg
  split at hg
  · split at hg
    · rename_i h0 h1 h2 h3
      have z0 := beq_nat h0
      have z1 := beq_nat h1
      have z2 := beq_nat h2
      have z3 := beq_nat h3
      subst z0
      subst z1
      subst z2
      subst z3
      cases hg
      exact ⟨Nat.le_of_ble_eq_true rfl, an_token_Book_Revoke real us _ _ _ _, [], c_token_Book_Revoke _ _ _ _ hc⟩
    · cases hg
  · cases hg

end Go.Proofs.Ythjlhookepchgaa
set_option linter.unusedVariables false
set_option linter.unusedSimpArgs false
set_option maxRecDepth 100000
set_option maxHeartbeats 1000000
namespace Go.Proofs.Ythjlhookepchgaa
open Go Go.Vc
/-! ## Tokens one behind the other -/
theorem bk_mem {g : Nat → Tk} {n : Nat} {e : Nat × D × D} : e ∈ (u_bk g n).es ↔ ∃ j, j < n ∧ e = (j, .i ((j : Int) + 1), u_tok ((j : Int) + 1) (g j)) := by
  unfold u_bk
  simp only [List.mem_map, List.mem_range]
  constructor
  · rintro ⟨j, h, rfl⟩; exact ⟨j, h, rfl⟩
  · rintro ⟨j, h, rfl⟩; exact ⟨j, h, rfl⟩
theorem bk_keys (g : Nat → Tk) (n : Nat) : ((u_bk g n).es.map (·.2.1)).Nodup := by
  unfold u_bk
  rw [List.map_map]
  refine List.pairwise_map.2 (List.Pairwise.imp (fun {a b} h e => ?_) List.nodup_range)
  have e : D.i ((a : Int) + 1) = D.i ((b : Int) + 1) := e
  rw [D.i.injEq] at e
  omega
theorem bk_okT {g : Nat → Tk} {n : Nat} (hn : n ≤ 1000) (hl : ∀ j, j < n → (g j).l.length ≤ 1000) : u_okT (u_bk g n) := by
  refine ⟨⟨bk_keys g n, ?_, fun e he => ?_⟩, ⟨?_, fun e he => ?_⟩, fun e he => ?_, fun e he => ?_⟩
  · unfold u_bk
    rw [List.map_map]
    simp only [Function.comp_def, List.map_id_fun', id, List.nodup_range]
  · obtain ⟨j, h, rfl⟩ := bk_mem.1 he; exact h
  · show ((List.range n).map _).length ≤ _
    rw [List.length_map, List.length_range]; omega
  · obtain ⟨j, h, rfl⟩ := bk_mem.1 he
    show -9223372036854775808 ≤ (j : Int) + 1 ∧ (j : Int) + 1 ≤ 9223372036854775807
    omega
  · obtain ⟨j, h, rfl⟩ := bk_mem.1 he; exact ⟨_, rfl⟩
  · obtain ⟨j, h, rfl⟩ := bk_mem.1 he; exact hl j h
theorem bk_find {g : Nat → Tk} {n j : Nat} (h : j < n) : MD.find (u_bk g n).es (.i ((j : Int) + 1)) = some (u_tok ((j : Int) + 1) (g j)) :=
  find_of_mem (bk_keys g n) (bk_mem.2 ⟨j, h, rfl⟩)
theorem bk_find0 {g : Nat → Tk} {n : Nat} {i : Int} (h : i < 1 ∨ (n : Int) < i) : MD.find (u_bk g n).es (.i i) = none := by
  cases hf : MD.find (u_bk g n).es (.i i) with
  | none => rfl
  | some d =>
    obtain ⟨b, hb⟩ := MD.find_mem hf
    obtain ⟨j, h1, h2⟩ := bk_mem.1 hb
    cases h2; omega
theorem bk_val {g : Nat → Tk} {n j : Nat} {now : Int} (h : j < n) : u_val (u_bk g n) ((j : Int) + 1) now = decide (now < (g j).u) := by
  unfold u_val MD.has MD.get
  rw [bk_find h]; rfl
theorem bk_val0 {g : Nat → Tk} {n : Nat} {i now : Int} (h : i < 1 ∨ (n : Int) < i) : u_val (u_bk g n) i now = false := by
  unfold u_val MD.has
  rw [bk_find0 h]; rfl
theorem bk_get {g : Nat → Tk} {n j : Nat} (h : j < n) : (u_bk g n).get (.i ((j : Int) + 1)) tz = u_tok ((j : Int) + 1) (g j) := by
  unfold MD.get
  rw [bk_find h]; rfl
theorem bk_keysI (g : Nat → Tk) (n : Nat) : (u_bk g n).keysI = u_lv n := by
  unfold MD.keysI u_lv
  have e : (u_bk g n).es.map (fun e => e.2.1.gi) = (List.range n).map fun (j : Nat) => (j : Int) + 1 := by
    unfold u_bk
    rw [List.map_map]; rfl
  rw [e]
  refine List.mergeSort_of_pairwise ?_
  refine List.pairwise_map.2 (List.Pairwise.imp (fun {a b} h => ?_) List.pairwise_lt_range)
  simp only [decide_eq_true_eq]; omega
theorem bk_live (g : Nat → Tk) (n : Nat) (now : Int) : u_live (u_bk g n) now = ((List.range n).filter fun j => decide (now < (g j).u)).map fun (j : Nat) => (j : Int) + 1 := by
  unfold u_live
  rw [bk_keysI]
  unfold u_lv
  rw [List.filter_map]
  congr 1
  refine List.filter_congr fun j hj => ?_
  exact bk_val (List.mem_range.1 hj)
theorem bk_pur {g : Nat → Tk} {n : Nat} {now : Int} (h : ∀ j, j < n → now < (g j).u) : u_pur (u_bk g n) now = u_bk g n := by
  unfold u_pur
  have : (u_bk g n).es.filter (fun e => u_val (u_bk g n) e.2.1.gi now) = (u_bk g n).es := by
    refine List.filter_eq_self.2 fun e he => ?_
    obtain ⟨j, hj, rfl⟩ := bk_mem.1 he
    show u_val (u_bk g n) ((j : Int) + 1) now = true
    rw [bk_val hj, decide_eq_true (h j hj)]
  rw [this]
theorem bk_set {g : Nat → Tk} {n : Nat} : (u_bk g n).set (.i ((n : Int) + 1)) (u_tok ((n : Int) + 1) (g n)) = u_bk g (n + 1) := by
  unfold MD.set MD.has
  rw [bk_find0 (.inr (by omega))]
  unfold u_bk
  rw [List.range_succ, List.map_append]
  rfl
theorem bk_mk {g : Nat → Tk} {n : Nat} {parent ttl now : Int} (hv : ∀ j, j < n → now < (g j).u) (hn : n < 12) (h0 : 0 ≤ now ∧ now ≤ 1000000 ∧ 1 ≤ ttl ∧ ttl ≤ u_most parent)
    (hp : parent = 0 ∨ ∃ k, k < n ∧ parent = (k : Int) + 1) (hg : g n = ⟨parent, u_mkT (u_bk g n) parent ttl now, (g n).l, (g n).e⟩) :
    u_mkE (u_bk g n) parent ttl now = 0 ∧ u_mkX (u_bk g n) ((n : Int) + 1) parent ttl now = (n : Int) + 1 ∧ u_mkN (u_bk g n) ((n : Int) + 1) parent ttl now = (n : Int) + 2 ∧
    u_mkM (u_bk g n) ((n : Int) + 1) parent ttl now (g n).l (g n).e = u_bk g (n + 1) := by
  have e : u_mkE (u_bk g n) parent ttl now = 0 := by
    unfold u_mkE
    rw [if_neg (by omega), if_neg, if_neg]
    · rw [bk_live, List.length_map]
      have := List.length_filter_le (fun j => decide (now < (g j).u)) (List.range n)
      rw [List.length_range] at this
      omega
    · rintro ⟨h1, h2⟩
      rcases hp with hp | ⟨k, hk, rfl⟩
      · exact h1 hp
      · rw [bk_val hk, decide_eq_true (hv k hk)] at h2; cases h2
  refine ⟨e, by unfold u_mkX; rw [if_pos e], by unfold u_mkN; rw [if_pos e]; omega, ?_⟩
  unfold u_mkM
  rw [if_pos e, bk_pur hv, ← hg, bk_set]
end Go.Proofs.Ythjlhookepchgaa
set_option linter.unusedVariables false
set_option linter.unusedSimpArgs false
set_option maxRecDepth 100000
set_option maxHeartbeats 1000000
namespace Go.Proofs.Ythjlhookepchgaa
open Go Go.Vc
/-! ## Who goes with whom -/
theorem set_has {M : MD} {k k' d : D} : (M.set k d).has k' = (M.has k' || decide (k = k')) := by
  have hu : ∀ (l : List (Nat × D × D)), MD.find l k ≠ none → (MD.find (MD.upd l k d) k').isSome = (MD.find l k').isSome := by
    intro l
    induction l with
    | nil => intro h; exact absurd rfl h
    | cons e l ih =>
      obtain ⟨b, q, x⟩ := e
      intro h
      simp only [MD.upd]
      by_cases hq : q = k
      · rw [if_pos hq]; simp only [MD.find]; split <;> rfl
      · rw [if_neg hq]
        simp only [MD.find] at h ⊢
        rw [if_neg hq] at h
        split
        · rfl
        · exact ih h
  have ha : ∀ (l : List (Nat × D × D)) (c : Nat), (MD.find (l ++ [(c, k, d)]) k').isSome = ((MD.find l k').isSome || decide (k = k')) := by
    intro l c
    induction l with
    | nil => simp only [List.nil_append, MD.find]; split <;> simp_all
    | cons e l ih =>
      obtain ⟨b, q, x⟩ := e
      simp only [List.cons_append, MD.find]
      split
      · simp
      · exact ih
  unfold MD.set
  by_cases h : M.has k = true
  · rw [if_pos h]
    show (MD.find (MD.upd M.es k d) k').isSome = ((MD.find M.es k').isSome || _)
    rw [hu _ (fun e => by unfold MD.has at h; rw [e] at h; cases h)]
    by_cases e : k = k'
    · subst e
      have : (MD.find M.es k).isSome = true := h
      rw [this]; rfl
    · simp [e]
  · rw [if_neg h]
    exact ha _ _
theorem set_vals {M : MD} {k : D} (h : ∀ e ∈ M.es, e.2.2 = .b true) : ∀ e ∈ (M.set k (.b true)).es, e.2.2 = .b true := by
  have hu : ∀ (l : List (Nat × D × D)), (∀ e ∈ l, e.2.2 = D.b true) → ∀ e ∈ MD.upd l k (.b true), e.2.2 = D.b true := by
    intro l
    induction l with
    | nil => intro _ e he; simp [MD.upd] at he
    | cons a l ih =>
      obtain ⟨b, q, x⟩ := a
      intro hl e he
      simp only [MD.upd] at he
      split at he
      · rw [List.mem_cons] at he
        rcases he with rfl | he
        · rfl
        · exact hl e (List.mem_cons_of_mem _ he)
      · rw [List.mem_cons] at he
        rcases he with rfl | he
        · exact hl (b, q, x) (List.mem_cons_self ..)
        · exact ih (fun e he => hl e (List.mem_cons_of_mem _ he)) e he
  intro e he
  unfold MD.set at he
  split at he
  · exact hu _ h e he
  · have he : e ∈ M.es ++ [(M.clock, k, D.b true)] := he
    rw [List.mem_append, List.mem_singleton] at he
    rcases he with he | rfl
    · exact h e he
    · rfl
theorem gone_ok (M : MD) (id : Int) : ∀ j, (u_gone M id j).ok ∧ ∀ e ∈ (u_gone M id j).es, e.2.2 = .b true
  | 0 => ⟨MD.set_ok (M := ⟨[], 0⟩) ⟨List.nodup_nil, List.nodup_nil, fun e he => by simp at he⟩ _ _, set_vals (M := ⟨[], 0⟩) fun e he => by simp at he⟩
  | j + 1 => by
    obtain ⟨h1, h2⟩ := gone_ok M id j
    unfold u_gone
    split
    · exact ⟨MD.set_ok h1 _ _, set_vals h2⟩
    · exact ⟨h1, h2⟩
theorem get_has {G : MD} (h : ∀ e ∈ G.es, e.2.2 = .b true) (k : D) : (G.get k (.b false)).gb = G.has k := by
  unfold MD.get MD.has
  cases hf : MD.find G.es k with
  | none => rfl
  | some d =>
    obtain ⟨b, hb⟩ := MD.find_mem hf
    have : d = .b true := h _ hb
    rw [this]; rfl
/-- who comes of the one at k -/
structure Of (g : Nat → Tk) (n k : Nat) (h : Nat → Bool) : Prop where
  par : ∀ j, j < n → (g j).p = 0 ∨ ∃ i, i < j ∧ (g j).p = (i : Int) + 1
  lt : k < n
  hit : ∀ j, j < n → (h j = true ↔ j = k ∨ ∃ i, i < j ∧ (g j).p = (i : Int) + 1 ∧ h i = true)
theorem gone_dom {M : MD} {id : Int} (hk : ∀ j, j < M.keysI.length → 1 ≤ M.keysI.getD j 0) (hi : 1 ≤ id) : ∀ j, j ≤ M.keysI.length → ∀ i : Int, i < 1 → (u_gone M id j).has (.i i) = false
  | 0, _, i, h => by
    unfold u_gone
    rw [set_has]
    show (false || decide (D.i id = D.i i)) = false
    simp only [Bool.false_or, decide_eq_false_iff_not, D.i.injEq]
    omega
  | j + 1, hj, i, h => by
    have ih := gone_dom hk hi j (by omega) i h
    unfold u_gone
    split
    · rw [set_has, ih]
      have := hk j (by omega)
      simp only [Bool.false_or, decide_eq_false_iff_not, D.i.injEq]
      omega
    · exact ih
theorem gone_has {g : Nat → Tk} {n k : Nat} {h : Nat → Bool} (o : Of g n k h) : ∀ j, j ≤ n → ∀ m : Nat, (u_gone (u_bk g n) ((k : Int) + 1) j).has (.i ((m : Int) + 1)) = true ↔ m = k ∨ (m < j ∧ h m = true)
  | 0, _, m => by
    unfold u_gone
    rw [set_has]
    show (false || decide (D.i ((k : Int) + 1) = D.i ((m : Int) + 1))) = true ↔ _
    simp only [Bool.false_or, decide_eq_true_eq, D.i.injEq]
    omega
  | j + 1, hj, m => by
    have ih := gone_has o j (by omega)
    have hk : (u_bk g n).keysI.getD j 0 = (j : Int) + 1 := by
      rw [bk_keysI]
      unfold u_lv
      rw [List.getD_eq_getElem?_getD, List.getElem?_map, List.getElem?_range (by omega)]
      rfl
    have hp : (((u_bk g n).get (.i ((j : Int) + 1)) tz).fld 1).gi = (g j).p := by
      rw [bk_get (by omega)]; rfl
    have hg : ((u_gone (u_bk g n) ((k : Int) + 1) j).get (.i (g j).p) (.b false)).gb = true ↔ ∃ i, i < j ∧ (g j).p = (i : Int) + 1 ∧ h i = true := by
      rw [get_has (gone_ok _ _ j).2]
      rcases o.par j (by omega) with h0 | ⟨i, h1, h2⟩
      · rw [h0]
        constructor
        · intro hh
          exfalso
          have hlen : (u_bk g n).keysI.length = n := by rw [bk_keysI]; simp [u_lv]
          have := gone_dom (M := u_bk g n) (id := (k : Int) + 1) (fun j' hj' => by
            rw [bk_keysI] at hj' ⊢
            unfold u_lv at hj' ⊢
            rw [List.length_map, List.length_range] at hj'
            rw [List.getD_eq_getElem?_getD, List.getElem?_map, List.getElem?_range hj']
            show (1 : Int) ≤ (j' : Int) + 1
            omega) (by omega) j (by omega) 0 (by decide)
          rw [this] at hh; cases hh
        · rintro ⟨i, _, hi, _⟩; omega
      · rw [h2, ih i]
        constructor
        · rintro (rfl | ⟨h3, h4⟩)
          · exact ⟨i, h1, rfl, (o.hit i (by omega)).2 (.inl rfl)⟩
          · exact ⟨i, h1, rfl, h4⟩
        · rintro ⟨i', h3, h4, h5⟩
          have : i' = i := by omega
          subst this
          exact .inr ⟨h3, h5⟩
    rw [u_gone]
    simp only [hk, hp]
    by_cases hh : ((u_gone (u_bk g n) ((k : Int) + 1) j).get (.i (g j).p) (.b false)).gb = true
    · rw [if_pos hh, set_has, Bool.or_eq_true, ih m, decide_eq_true_eq, D.i.injEq]
      have h1 := (o.hit j (by omega)).2 (.inr (hg.1 hh))
      constructor
      · rintro ((h2 | h2) | h2)
        · exact .inl h2
        · exact .inr ⟨by omega, h2.2⟩
        · have : m = j := by omega
          subst this
          exact .inr ⟨by omega, h1⟩
      · rintro (h2 | ⟨h2, h3⟩)
        · exact .inl (.inl h2)
        · by_cases e : m = j
          · subst e; exact .inr rfl
          · exact .inl (.inr ⟨by omega, h3⟩)
    · rw [if_neg hh, ih m]
      constructor
      · rintro (h2 | h2)
        · exact .inl h2
        · exact .inr ⟨by omega, h2.2⟩
      · rintro (h2 | ⟨h2, h3⟩)
        · exact .inl h2
        · by_cases e : m = j
          · subst e
            rcases (o.hit m (by omega)).1 h3 with h4 | h4
            · exact .inl h4
            · exact absurd (hg.2 h4) hh
          · exact .inr ⟨by omega, h3⟩
theorem goneA_has {g : Nat → Tk} {n k : Nat} {h : Nat → Bool} (o : Of g n k h) {m : Nat} (hm : m < n) : (u_goneA (u_bk g n) ((k : Int) + 1)).has (.i ((m : Int) + 1)) = h m := by
  have hlen : (u_bk g n).keysI.length = n := by rw [bk_keysI]; simp [u_lv]
  have e := gone_has o n (Nat.le_refl n) m
  unfold u_goneA
  rw [hlen, Bool.eq_iff_iff, e]
  constructor
  · rintro (rfl | h2)
    · exact (o.hit m hm).2 (.inl rfl)
    · exact h2.2
  · exact fun h2 => .inr ⟨hm, h2⟩
theorem val_none {M : MD} {n now : Int} (h : MD.find M.es (.i n) = none) : u_val M n now = false := by
  unfold u_val MD.has
  rw [h]; rfl
theorem rv_val {g : Nat → Tk} {n k : Nat} {h : Nat → Bool} {now : Int} (o : Of g n k h) (hv : u_val (u_bk g n) ((k : Int) + 1) now = true) {m : Nat} (hm : m < n) :
    u_val (u_rvM (u_bk g n) ((k : Int) + 1) now) ((m : Int) + 1) now = (decide (now < (g m).u) && !h m) := by
  have e := goneA_has o hm
  unfold u_rvM
  rw [if_pos hv]
  cases hh : h m with
  | false =>
    rw [hh] at e
    have : u_val ⟨(u_bk g n).es.filter fun e => !(u_goneA (u_bk g n) ((k : Int) + 1)).has e.2.1, (u_bk g n).clock⟩ ((m : Int) + 1) now = u_val (u_bk g n) ((m : Int) + 1) now := by
      refine val_find (find_filter fun x hx hk => ?_)
      rw [hk, e]; rfl
    rw [this, bk_val hm]; simp
  | true =>
    rw [hh] at e
    have hf : MD.find ((u_bk g n).es.filter fun e => !(u_goneA (u_bk g n) ((k : Int) + 1)).has e.2.1) (.i ((m : Int) + 1)) = none := by
      cases hf : MD.find ((u_bk g n).es.filter fun e => !(u_goneA (u_bk g n) ((k : Int) + 1)).has e.2.1) (.i ((m : Int) + 1)) with
      | none => rfl
      | some d =>
        obtain ⟨b, hb⟩ := MD.find_mem hf
        have := (List.mem_filter.1 hb).2
        simp only [e] at this
        cases this
    rw [val_none (M := ⟨(u_bk g n).es.filter fun e => !(u_goneA (u_bk g n) ((k : Int) + 1)).has e.2.1, (u_bk g n).clock⟩) hf]
    simp
theorem goneA_keys' (M : MD) (id : Int) : ∀ e ∈ (u_goneA M id).es, ∃ n : Int, e.2.1 = .i n := gone_keys M id _
theorem gone_rng {M : MD} {id : Int} {P : Int → Prop} (hk : ∀ j, j < M.keysI.length → P (M.keysI.getD j 0)) (hi : P id) : ∀ j, j ≤ M.keysI.length → ∀ i : Int, (u_gone M id j).has (.i i) = true → P i
  | 0, _, i, h => by
    unfold u_gone at h
    rw [set_has] at h
    have h : (false || decide (D.i id = D.i i)) = true := h
    simp only [Bool.false_or, decide_eq_true_eq, D.i.injEq] at h
    rw [← h]; exact hi
  | j + 1, hj, i, h => by
    have ih := gone_rng hk hi j (by omega) i
    unfold u_gone at h
    split at h
    · rw [set_has, Bool.or_eq_true, decide_eq_true_eq, D.i.injEq] at h
      rcases h with h | h
      · exact ih h
      · rw [← h]; exact hk j (by omega)
    · exact ih h
theorem goneA_rng {g : Nat → Tk} {n k : Nat} {h : Nat → Bool} (o : Of g n k h) {i : Int} (hh : (u_goneA (u_bk g n) ((k : Int) + 1)).has (.i i) = true) : ∃ m : Nat, m < n ∧ i = (m : Int) + 1 := by
  refine gone_rng (P := fun i => ∃ m : Nat, m < n ∧ i = (m : Int) + 1) (fun j hj => ?_) ⟨k, o.lt, rfl⟩ _ (Nat.le_refl _) i hh
  rw [bk_keysI] at hj ⊢
  unfold u_lv at hj ⊢
  rw [List.length_map, List.length_range] at hj
  rw [List.getD_eq_getElem?_getD, List.getElem?_map, List.getElem?_range hj]
  exact ⟨j, hj, rfl⟩
theorem rv_cnt {g : Nat → Tk} {n k : Nat} {h : Nat → Bool} {now : Int} (o : Of g n k h) (hv : u_val (u_bk g n) ((k : Int) + 1) now = true) :
    u_rvN (u_bk g n) ((k : Int) + 1) now = (((List.range n).filter fun m => decide (now < (g m).u) && h m).length : Nat) := by
  have hlen : (u_bk g n).keysI.length = n := by rw [bk_keysI]; simp [u_lv]
  unfold u_rvN
  rw [if_pos hv]
  congr 1
  have hok : (u_goneA (u_bk g n) ((k : Int) + 1)).ok := (gone_ok (u_bk g n) ((k : Int) + 1) (u_bk g n).keysI.length).1
  have e1 : ((u_goneA (u_bk g n) ((k : Int) + 1)).es.filter fun e => u_val (u_bk g n) e.2.1.gi now).length = (((u_goneA (u_bk g n) ((k : Int) + 1)).es.map (·.2.1)).filter fun d => u_val (u_bk g n) d.gi now).length := by
    rw [List.filter_map, List.length_map]; rfl
  have e2 : ((List.range n).filter fun m => decide (now < (g m).u) && h m).length = ((((List.range n).filter h).map fun (m : Nat) => D.i ((m : Int) + 1)).filter fun d => u_val (u_bk g n) d.gi now).length := by
    rw [List.filter_map, List.length_map, List.filter_filter]
    congr 1
    refine List.filter_congr fun m hm => ?_
    show _ = (u_val (u_bk g n) ((m : Int) + 1) now && h m)
    rw [bk_val (List.mem_range.1 hm)]
  rw [e1, e2]
  refine (List.Perm.filter _ ((List.perm_ext_iff_of_nodup hok.1 ?_).2 fun d => ?_)).length_eq
  · refine List.pairwise_map.2 (List.Pairwise.imp (fun {a b} hne e => ?_) (List.nodup_range.filter _))
    have e : D.i ((a : Int) + 1) = D.i ((b : Int) + 1) := e
    rw [D.i.injEq] at e
    omega
  · constructor
    · intro hd
      obtain ⟨⟨b, q, x⟩, h1, h2⟩ := List.mem_map.1 hd
      have h2 : q = d := h2
      subst h2
      obtain ⟨i, hi⟩ := goneA_keys' (u_bk g n) ((k : Int) + 1) _ h1
      have hi : q = .i i := hi
      subst hi
      have hh : (u_goneA (u_bk g n) ((k : Int) + 1)).has (.i i) = true := by
        unfold MD.has
        rw [find_of_mem hok.1 h1]; rfl
      have hb := goneA_rng o hh
      obtain ⟨m, hm, rfl⟩ := hb
      rw [goneA_has o hm] at hh
      exact List.mem_map.2 ⟨m, List.mem_filter.2 ⟨List.mem_range.2 hm, hh⟩, rfl⟩
    · intro hd
      obtain ⟨m, h1, h2⟩ := List.mem_map.1 hd
      obtain ⟨h3, h4⟩ := List.mem_filter.1 h1
      have h5 := goneA_has o (List.mem_range.1 h3)
      rw [h4] at h5
      subst h2
      unfold MD.has at h5
      cases hf : MD.find (u_goneA (u_bk g n) ((k : Int) + 1)).es (.i ((m : Int) + 1)) with
      | none => rw [hf] at h5; cases h5
      | some d =>
        obtain ⟨b, hb⟩ := MD.find_mem hf
        exact List.mem_map.2 ⟨_, hb, rfl⟩
end Go.Proofs.Ythjlhookepchgaa
set_option linter.unusedVariables false
namespace Go.Vc
open Go Go.RowKit
/-- one of two contracts: the one whose condition holds -/
def orK (s1 s2 : Spec) : KSpec := fun args s K =>
  match (s1 args s.nk).run s.me, (s2 args s.nk).run s.me with
  | some e1, some e2 => (e1.c ∨ e2.c) ∧ (e1.c → K e1.v ⟨s.sl, mputs e1.puts s.me, s.nk + 8⟩) ∧ (e2.c → K e2.v ⟨s.sl, mputs e2.puts s.me, s.nk + 8⟩)
  | _, _ => False
end Go.Vc
set_option linter.unusedVariables false
set_option linter.unusedSimpArgs false
set_option maxRecDepth 100000
set_option maxHeartbeats 2000000
namespace Go.Proofs.Ythjlhookepchgaa
open Go Go.Vc
/-! ## Those that are known -/
theorem kn_l : ∀ j, (u_knG j).l.length ≤ 1000
  | 0 => by decide
  | _ + 1 => by show ([] : List (List UInt8)).length ≤ 1000; decide
theorem kn1 : u_mkE ⟨[], 0⟩ 0 1000 0 = 0 ∧ u_mkX ⟨[], 0⟩ 1 0 1000 0 = 1 ∧ u_mkN ⟨[], 0⟩ 1 0 1000 0 = 2 ∧ u_mkM ⟨[], 0⟩ 1 0 1000 0 [[112]] [] = u_bk u_knG 1 := by
  have h := bk_mk (g := u_knG) (n := 0) (parent := 0) (ttl := 1000) (now := 0) (fun j h => by omega) (by decide) (by decide) (.inl rfl) rfl
  exact h
theorem kn2 : u_mkE (u_bk u_knG 1) 1 500 10 = 0 ∧ u_mkX (u_bk u_knG 1) 2 1 500 10 = 2 ∧ u_mkN (u_bk u_knG 1) 2 1 500 10 = 3 ∧ u_mkM (u_bk u_knG 1) 2 1 500 10 [] [101] = u_bk u_knG 2 := by
  have h := bk_mk (g := u_knG) (n := 1) (parent := 1) (ttl := 500) (now := 10) (fun j h => by
    have : j = 0 := by omega
    subst this; decide) (by decide) (by decide) (.inr ⟨0, by decide, rfl⟩) (by
    have e : u_mkT (u_bk u_knG 1) 1 500 10 = 510 := by
      unfold u_mkT
      rw [if_neg (by decide)]
      have q : (u_bk u_knG 1).get (.i 1) tz = u_tok 1 (u_knG 0) := bk_get (g := u_knG) (n := 1) (j := 0) (by decide)
      rw [q]
      decide
    rw [e]; rfl)
  exact h
theorem mk_n {M : MD} {nx parent ttl now : Int} (h : ¬ u_mkE M parent ttl now = 0) (X : List (List UInt8)) (ent : List UInt8) : u_mkX M nx parent ttl now = 0 ∧ u_mkN M nx parent ttl now = nx ∧ u_mkM M nx parent ttl now X ent = M := by
  unfold u_mkX u_mkN u_mkM
  rw [if_neg h, if_neg h, if_neg h]
  exact ⟨rfl, rfl, rfl⟩
theorem kn3 : u_mkE (u_bk u_knG 2) 9 5 0 = 200 := by
  unfold u_mkE
  rw [if_neg (by decide), if_pos ⟨by decide, bk_val0 (.inr (by decide))⟩]
theorem kn4 : u_mkE (u_bk u_knG 2) 1 0 0 = 12 := by
  unfold u_mkE
  rw [if_pos (by decide)]
theorem kn5 : u_val (u_bk u_knG 2) 1 20 = true := bk_val (g := u_knG) (n := 2) (j := 0) (by decide)
theorem kn3x : u_mkX (u_bk u_knG 2) 3 9 5 0 = 0 ∧ u_mkN (u_bk u_knG 2) 3 9 5 0 = 3 ∧ u_mkM (u_bk u_knG 2) 3 9 5 0 [] [] = u_bk u_knG 2 := mk_n (by rw [kn3]; decide) [] []
theorem kn4x : u_mkX (u_bk u_knG 2) 3 1 0 0 = 0 ∧ u_mkN (u_bk u_knG 2) 3 1 0 0 = 3 ∧ u_mkM (u_bk u_knG 2) 3 1 0 0 [] [] = u_bk u_knG 2 := mk_n (by rw [kn4]; decide) [] []
theorem kn6 : u_get (u_bk u_knG 2) 2 = u_tok 2 (u_knG 1) := bk_get (g := u_knG) (n := 2) (j := 1) (by decide)
theorem kn6a : ((u_get (u_bk u_knG 2) 2).fld 4).gs = [101] := by rw [kn6]; rfl
theorem kn6b : ((u_get (u_bk u_knG 2) 2).fld 2).gi = 510 := by rw [kn6]; rfl
theorem kn6c : ((u_get (u_bk u_knG 2) 2).fld 1).gi = 1 := by rw [kn6]; rfl
theorem kn7 : u_has (u_bk u_knG 2) 2 = true := by
  have h := bk_find (g := u_knG) (n := 2) (j := 1) (by decide)
  have h : MD.find (u_bk u_knG 2).es (.i 2) = some (u_tok 2 (u_knG 1)) := h
  unfold u_has MD.has
  rw [h]; rfl
theorem kn_of : Of u_knG 2 0 (fun _ => true) := by
  refine ⟨fun j hj => ?_, by decide, fun j hj => ?_⟩
  · match j, hj with
    | 0, _ => exact .inl rfl
    | 1, _ => exact .inr ⟨0, by decide, rfl⟩
  · match j, hj with
    | 0, _ => exact ⟨fun _ => .inl rfl, fun _ => rfl⟩
    | 1, _ => exact ⟨fun _ => .inr ⟨0, by decide, rfl, rfl⟩, fun _ => rfl⟩
theorem kn8 : u_rvE (u_bk u_knG 2) 1 20 = 0 := rvE_yes kn5
theorem kn9 : u_rvN (u_bk u_knG 2) 1 20 = 2 := by
  have h := rv_cnt (g := u_knG) (n := 2) (k := 0) (now := 20) kn_of kn5
  exact h.trans (by decide)
theorem kn10 : u_val (u_rvM (u_bk u_knG 2) 1 20) 2 20 = false := by
  have h := rv_val (g := u_knG) (n := 2) (k := 0) (now := 20) kn_of kn5 (m := 1) (by decide)
  exact h.trans (by decide)
theorem okT_0 : u_okT ⟨[], 0⟩ := bk_okT (g := u_knG) (n := 0) (by decide) (fun j _ => kn_l j)
noncomputable def s_token_Book_Make (F : Fs) (U : Us) : Vc.Spec := bySpec 4 (s_token_Book_Make_n F U) noSpec (s_token_Book_Make_r F U) noSpec
theorem r_token_Book_Make : Ready Try.prog 17 := by unfold Ready; kernel_rfl
theorem k_token_Book_Make : SpecOK Try.prog 17 (s_token_Book_Make real us) := by_ok k_token_Book_Make_n no_ok k_token_Book_Make_r no_ok
attribute [local irreducible] u_val u_okT u_live u_mkE u_mkX u_mkN u_mkM u_rvE u_rvN u_rvM u_bk u_get u_has
theorem r_law20_known : Ready Try.prog 15 := by unfold Ready; kernel_rfl
noncomputable def sp_law20_known (F : Fs) (U : Us) : Specs := [(16, s_token_New F U), (53, s_token_Book_Next F U), (17, s_token_Book_Make F U), (18, s_token_Book_Get F U), (21, s_token_Book_Revoke F U), (20, s_token_Book_Valid F U)]
theorem ok_law20_known : SpecsOK Try.prog (sp_law20_known real us) := sp_cons r_token_New k_token_New (sp_cons r_token_Book_Next k_token_Book_Next (sp_cons r_token_Book_Make k_token_Book_Make (sp_cons r_token_Book_Get k_token_Book_Get (sp_cons r_token_Book_Revoke k_token_Book_Revoke (sp_cons r_token_Book_Valid k_token_Book_Valid sp_nil)))))
noncomputable def g_law20_known (F : Fs) (U : Us) : Law
  | [] => some (True, [.val (.b true)])
  | _ => none
noncomputable def s_law20_known (F : Fs) (U : Us) : Vc.Spec := pureSpec F false [] (g_law20_known F U)
noncomputable def x_law20_known (F : Fs) (U : Us) : Cx := ⟨Try.f15.ntmps, tt F, sp_law20_known F U, [], [], [], []⟩
theorem c_law20_known  : vc real (x_law20_known real us) [] [] (Try.f15.body.getD .skip) ⟨zipSl 0 [], [], 64⟩ (retOk real (tt real) false Try.f15.results.toList [.val (.b true)]) := by
  generalize hU : us = U
  generalize hF : real = F
  cbv
  repeat' first | apply And.intro | refine Classical.or_iff_not_imp_left.2 (fun _ => ?_) | exact trivial
  all_goals (subst hF hU; simp only [real, us, Int.cast_ofNat_Int, kn1, kn2, kn3, kn4, kn3x, kn4x, kn6a, kn6b, kn6c, kn7, kn8, kn9, kn10] at *)
  all_goals first
    | exact okT_0
    | exact bk_okT (by decide) (fun j _ => kn_l j)
    | (decide; done)
    | (rename_i h; exact absurd (by decide) h)
theorem k_law20_known : SpecOK Try.prog 15 (s_law20_known real us) := by
  refine pure_sound (x := x_law20_known real us) ⟨tt_ok, ok_law20_known, Go.Vc.ks_nil⟩ mixed Try.func15 rfl rfl (by kernel_rfl) ?_
  intro l c rs hg hc
  unfold g_law20_known at hg
  split at hg
  · cases hg; exact ⟨Nat.le_of_ble_eq_true rfl, [], [], c_law20_known ⟩
  · cases hg

end Go.Proofs.Ythjlhookepchgaa
set_option linter.unusedVariables false
set_option linter.unusedSimpArgs false
namespace Go.Vc
open Go Go.RowKit Go.ChangeShapes
/-- nothing that was there has turned -/
def Held (W w' : World) : Prop := w'.os = W.os ∧ w'.output = W.output ∧ W.heap.size ≤ w'.heap.size ∧ ∀ b, b < W.heap.size → w'.heap[b]? = W.heap[b]?
section
variable {H : Type} {enc : TypeId × Value → H} {P : Program}
end

section
variable {P : Program} {x : Cx} {an cu : Anns}
/-- nothing leads anywhere -/
def mTop : Hd := ⟨fun _ => none, fun _ => True, fun _ => False⟩
end
/-! ## Arguments -/
theorem u32_arg {a : Int} (h : (Lit.int .u32 a).wf = true) : ∃ x : UInt32, a = (x.toNat : Int) := by
  simp only [Lit.wf, Bool.and_eq_true, decide_eq_true_eq, IntKind.min, IntKind.max] at h
  refine ⟨UInt32.ofNat a.toNat, ?_⟩
  simp [IntKind.signed, IntKind.bits] at h
  rw [UInt32.toNat_ofNat_of_lt' (by simp [UInt32.size]; omega)]
  omega
theorem u8_arg {a : Int} (h : (Lit.int .u8 a).wf = true) : ∃ x : UInt8, a = (x.toNat : Int) := by
  simp only [Lit.wf, Bool.and_eq_true, decide_eq_true_eq, IntKind.min, IntKind.max] at h
  refine ⟨UInt8.ofNat a.toNat, ?_⟩
  simp [IntKind.signed, IntKind.bits] at h
  rw [UInt8.toNat_ofNat_of_lt' (by simp [UInt8.size]; omega)]
  omega
theorem u64_arg {a : Int} (h : (Lit.int .u64 a).wf = true) : ∃ x : UInt64, a = (x.toNat : Int) := by
  simp only [Lit.wf, Bool.and_eq_true, decide_eq_true_eq, IntKind.min, IntKind.max] at h
  refine ⟨UInt64.ofNat a.toNat, ?_⟩
  simp [IntKind.signed, IntKind.bits] at h
  rw [UInt64.toNat_ofNat_of_lt' (by simp [UInt64.size]; omega)]
  omega
theorem i64_arg {a : Int} (h : (Lit.int .i64 a).wf = true) : -9223372036854775808 ≤ a ∧ a ≤ 9223372036854775807 := by
  simp only [Lit.wf, Bool.and_eq_true, decide_eq_true_eq, IntKind.min, IntKind.max] at h
  simp [IntKind.signed, IntKind.bits] at h
  omega
end Go.Vc
set_option linter.unusedVariables false
set_option linter.unusedSimpArgs false
namespace Go.Vc
open Go Go.RowKit Go.ChangeShapes Go.WideShapes
section
variable {P : Program} {w : World}
/-- a reading of a one-cell type gives such a cell -/
def Elt (P : Program) (w : World) (t : TypeId) {α : Type} (E : α → Value) (q : α → Prop) : Prop :=
  ∀ (H : Type) (enc : TypeId × Value → H) (base : Nat) (sp : Nat → Bool) (held : Bool) (fuel : Nat) (cs : List Value) (x : DataW H × List MemPlace),
    DataW.trod enc P w base sp held fuel t cs = some x → ∃ a, cs = [E a] ∧ q a
theorem u16_arg {a : Int} (h : (Lit.int .u16 a).wf = true) : ∃ x : UInt16, a = (x.toNat : Int) := by
  simp only [Lit.wf, Bool.and_eq_true, decide_eq_true_eq, IntKind.min, IntKind.max] at h
  refine ⟨UInt16.ofNat a.toNat, ?_⟩
  simp [IntKind.signed, IntKind.bits] at h
  rw [UInt16.toNat_ofNat_of_lt' (by simp [UInt16.size]; omega)]
  omega
theorem elt_i64 {t : TypeId} (ht : P.underlying t = some (.int .i64)) : Elt P w t EI (fun n => -9223372036854775808 ≤ n ∧ n ≤ 9223372036854775807) := by
  intro H enc base sp held fuel cs x h
  obtain ⟨n, rfl, _, hw⟩ := DataW.trod_int ht h
  exact ⟨n, rfl, i64_arg hw⟩
theorem elt_bool {t : TypeId} (ht : P.underlying t = some .bool) : Elt P w t Value.bool (fun _ => True) := by
  intro H enc base sp held fuel cs x h
  obtain ⟨n, rfl, _⟩ := DataW.trod_bool ht h
  exact ⟨n, rfl, trivial⟩
theorem elt_str {t : TypeId} (ht : P.underlying t = some .string) : Elt P w t ES (fun s => s.length ≤ 9223372036854775807) := by
  intro H enc base sp held fuel cs x h
  obtain ⟨s, rfl, _, hs⟩ := DataW.trod_string ht h
  refine ⟨s.data.toList, by simp [ES], ?_⟩
  simpa [maxLen] using hs
theorem elt_u8 {t : TypeId} (ht : P.underlying t = some (.int .u8)) : Elt P w t E8 (fun _ => True) := by
  intro H enc base sp held fuel cs x h
  obtain ⟨n, rfl, _, hw⟩ := DataW.trod_int ht h
  obtain ⟨y, hy⟩ := u8_arg hw
  exact ⟨y, by rw [hy], trivial⟩
theorem elt_u16 {t : TypeId} (ht : P.underlying t = some (.int .u16)) : Elt P w t E16 (fun _ => True) := by
  intro H enc base sp held fuel cs x h
  obtain ⟨n, rfl, _, hw⟩ := DataW.trod_int ht h
  obtain ⟨y, hy⟩ := u16_arg hw
  exact ⟨y, by rw [hy], trivial⟩
theorem elt_u32 {t : TypeId} (ht : P.underlying t = some (.int .u32)) : Elt P w t E32 (fun _ => True) := by
  intro H enc base sp held fuel cs x h
  obtain ⟨n, rfl, _, hw⟩ := DataW.trod_int ht h
  obtain ⟨y, hy⟩ := u32_arg hw
  exact ⟨y, by rw [hy], trivial⟩
theorem elt_u64 {t : TypeId} (ht : P.underlying t = some (.int .u64)) : Elt P w t E64 (fun _ => True) := by
  intro H enc base sp held fuel cs x h
  obtain ⟨n, rfl, _, hw⟩ := DataW.trod_int ht h
  obtain ⟨y, hy⟩ := u64_arg hw
  exact ⟨y, by rw [hy], trivial⟩
theorem drop_take_one {α : Type} {l : List α} {a : α} {i : Nat} (h : (l.drop i).take 1 = [a]) : l[i]? = some a := by
  have h1 := congrArg List.head? h
  rw [List.head?_take, if_neg (by decide), List.head?_drop] at h1
  simpa using h1
theorem list_of {α : Type} (E : α → Value) (q : α → Prop) : ∀ cs : List Value, (∀ i, i < cs.length → ∃ x, cs[i]? = some (E x) ∧ q x) → ∃ xs : List α, cs = xs.map E ∧ ∀ x ∈ xs, q x
  | [], _ => ⟨[], rfl, by simp⟩
  | c :: r, h => by
    obtain ⟨x, hx, hq⟩ := h 0 (by simp)
    obtain ⟨xs, hr, hqs⟩ := list_of E q r fun i hi => by
      obtain ⟨x, hx, hq⟩ := h (i + 1) (by simp; omega)
      exact ⟨x, by simpa using hx, hq⟩
    simp only [List.getElem?_cons_zero, Option.some.injEq] at hx
    refine ⟨x :: xs, by simp [hx, hr], fun y hy => ?_⟩
    rcases List.mem_cons.1 hy with rfl | hy
    · exact hq
    · exact hqs y hy
theorem arr_of {α : Type} {E : α → Value} {q : α → Prop} {t e : TypeId} {n : Nat} (ht : P.underlying t = some (.array n e)) (hc : P.cellsOf e = 1) (hn : P.cellsOf t = n) (hE : Elt P w e E q)
    (H : Type) (enc : TypeId × Value → H) (base : Nat) (sp : Nat → Bool) (held : Bool) (fuel : Nat) (cs : List Value) (x : DataW H × List MemPlace)
    (h : DataW.trod enc P w base sp held fuel t cs = some x) : ∃ xs : List α, cs = xs.map E ∧ xs.length = n ∧ ∀ x ∈ xs, q x := by
  obtain ⟨ys, m, rfl, rfl, hl, hyl, hel⟩ := DataW.trod_array ht h
  obtain ⟨xs, rfl, hq⟩ := list_of E q cs fun i hi => by
    have h1 := hel i (by omega)
    rw [List.getElem?_eq_getElem (by omega), hc] at h1
    obtain ⟨a, ha, hq⟩ := hE H enc base sp held m _ _ h1
    exact ⟨a, drop_take_one (by simpa using ha), hq⟩
  exact ⟨xs, rfl, by simpa [hn] using hl, hq⟩
theorem cell_ltO {a : Addr} {v : Value} (h : w.cell? a = some v) : a.block < w.heap.size := by
  unfold World.cell? at h
  split at h
  · rename_i h1; exact (Array.getElem?_eq_some_iff.1 h1).1
  · cases h
theorem stableAtTop {a : Addr} {ds : List Value} (h0 : 0 < ds.length) (h : ∀ j x, ds[j]? = some x → w.cell? (a.add j) = some x) : StableAt mTop w a ds := by
  refine ⟨⟨?_, trivial, .inr fun k v hk => by cases hk⟩, h⟩
  have := cell_ltO (h 0 ds[0] (by simp [h0]))
  rwa [add_block] at this
theorem sl_of {α : Type} {E : α → Value} {q : α → Prop} {t e : TypeId} (ht : P.underlying t = some (.slice e)) (hc : P.cellsOf e = 1) (hE : Elt P w e E q)
    (H : Type) (enc : TypeId × Value → H) (base : Nat) (sp : Nat → Bool) (held : Bool) (fuel : Nat) (cs : List Value) (x : DataW H × List MemPlace)
    (h : DataW.trod enc P w base sp held fuel t cs = some x) :
    ∃ (xs : List α) (ad : Option Addr) (cap : Nat), cs = [.slice ad xs.length cap] ∧ xs.length ≤ cap ∧ xs.length ≤ 9223372036854775807 ∧ (0 < xs.length → ∃ a, ad = some a ∧ StableAt mTop w a (xs.map E)) ∧ ∀ x ∈ xs, q x := by
  rcases DataW.trod_slice ht h with ⟨rfl, _⟩ | ⟨a, len, cap, elems, rest, m, rfl, rfl, rfl, _, hl, hm, hlen, hel, _⟩
  · exact ⟨[], none, 0, rfl, by simp, by simp, by simp, by simp⟩
  · have key : ∀ k, k ≤ len → ∃ xs : List α, xs.length = k ∧ (∀ j x, (xs.map E)[j]? = some x → w.cell? (a.add j) = some x) ∧ ∀ x ∈ xs, q x := by
      intro k
      induction k with
      | zero => exact fun _ => ⟨[], rfl, by simp, by simp⟩
      | succ k ih =>
        intro hk
        obtain ⟨xs, h1, h2, h3⟩ := ih (by omega)
        have h4 := hel k (by omega)
        rw [List.getElem?_eq_getElem (by omega), hc, Nat.mul_one, Option.bind_eq_some_iff] at h4
        obtain ⟨cs', hcs, hy⟩ := h4
        obtain ⟨y, rfl, hq⟩ := hE H enc base sp held m _ _ hy
        have hcell := cell_of_cells?_one hcs
        refine ⟨xs ++ [y], by simp [h1], fun j x hj => ?_, fun x hx => ?_⟩
        · rw [List.map_append, List.getElem?_append] at hj
          split at hj
          · exact h2 j x hj
          · rename_i hlt
            simp only [List.length_map] at hj hlt
            have : j = k := by
              have := (List.getElem?_eq_some_iff.1 hj).1
              simp at this
              omega
            subst this
            simp [h1] at hj
            rw [← hj]; exact hcell
        · rcases List.mem_append.1 hx with hx | hx
          · exact h3 x hx
          · simp at hx; rw [hx]; exact hq
    obtain ⟨xs, h1, h2, h3⟩ := key len (Nat.le_refl _)
    refine ⟨xs, some a, cap, by rw [h1], by omega, by simp [maxLen] at hm; omega, fun h0 => ⟨a, rfl, stableAtTop (by simpa using h0) h2⟩, h3⟩
theorem cells_oneO {v : Value} (h : ∀ cs, v ≠ .agg cs) : v.cells.toList = [v] := by
  unfold Value.cells
  split
  · rename_i cs; exact absurd rfl (h cs)
  · rfl
section
variable {H : Type} {enc : TypeId × Value → H} {base b0 : Nat} {sp : Nat → Bool} {held : Bool} {t e : TypeId} {v : Value} {d : DataW H} {ps : List MemPlace} {r : Reach}
theorem open8 (ht : P.underlying t = some (.int .u8)) (hval : Value.okWide P w r b0 t v) (hd : DataW.Trod enc P w base sp held t v d ps) : ∃ x, RV mTop w (.w8 x) v := by
  obtain ⟨n, rfl⟩ := okWide_int ht hval
  obtain ⟨fuel, hf⟩ := hd
  rw [cells_oneO (by simp)] at hf
  obtain ⟨a, ha, hq⟩ := elt_u8 ht _ _ _ _ _ _ _ _ hf
  exact ⟨a, by simpa [RV, CR] using ha⟩
theorem open16 (ht : P.underlying t = some (.int .u16)) (hval : Value.okWide P w r b0 t v) (hd : DataW.Trod enc P w base sp held t v d ps) : ∃ x, RV mTop w (.w16 x) v := by
  obtain ⟨n, rfl⟩ := okWide_int ht hval
  obtain ⟨fuel, hf⟩ := hd
  rw [cells_oneO (by simp)] at hf
  obtain ⟨a, ha, hq⟩ := elt_u16 ht _ _ _ _ _ _ _ _ hf
  exact ⟨a, by simpa [RV, CR] using ha⟩
theorem openL8 (ht : P.underlying t = some (.slice e)) (he : P.underlying e = some (.int .u8)) (hc : P.cellsOf e = 1) (hval : Value.okWide P w r b0 t v) (hd : DataW.Trod enc P w base sp held t v d ps) :
    ∃ xs : List UInt8, RV mTop w (.rb 1 (.bt xs)) v ∧ xs.length ≤ 9223372036854775807 := by
  obtain ⟨a, len, cap, rfl⟩ := okWide_slice ht hval
  obtain ⟨fuel, hf⟩ := hd
  rw [cells_oneO (by simp)] at hf
  obtain ⟨xs, ad, cap', h1, h2, h3, h4, hq⟩ := sl_of ht hc (elt_u8 he) _ _ _ _ _ _ _ _ hf
  simp only [List.cons.injEq, and_true, Value.slice.injEq] at h1
  obtain ⟨rfl, rfl, rfl⟩ := h1
  refine ⟨xs, ?_, h3⟩
  simp only [RV, CR]
  exact ⟨_, _, _, xs.map E8, rfl, by simp [RC], by simp, h2, h4⟩
theorem openL16 (ht : P.underlying t = some (.slice e)) (he : P.underlying e = some (.int .u16)) (hc : P.cellsOf e = 1) (hval : Value.okWide P w r b0 t v) (hd : DataW.Trod enc P w base sp held t v d ps) :
    ∃ xs : List UInt16, RV mTop w (.rb 1 (.wh xs)) v ∧ xs.length ≤ 9223372036854775807 := by
  obtain ⟨a, len, cap, rfl⟩ := okWide_slice ht hval
  obtain ⟨fuel, hf⟩ := hd
  rw [cells_oneO (by simp)] at hf
  obtain ⟨xs, ad, cap', h1, h2, h3, h4, hq⟩ := sl_of ht hc (elt_u16 he) _ _ _ _ _ _ _ _ hf
  simp only [List.cons.injEq, and_true, Value.slice.injEq] at h1
  obtain ⟨rfl, rfl, rfl⟩ := h1
  refine ⟨xs, ?_, h3⟩
  simp only [RV, CR]
  exact ⟨_, _, _, xs.map E16, rfl, by simp [RC], by simp, h2, h4⟩
end
theorem rvs_cons {m : Hd} {a : AV} {v : Value} {l : List AV} {vs : List Value} (h : RV m w a v) (hs : RVs m w l vs) : RVs m w (a :: l) (v :: vs) := ⟨v, vs, rfl, h, hs⟩
theorem rvs_nil {m : Hd} : RVs m w [] [] := rfl
/-! ## A law's end -/
theorem trodAll_stays {H : Type} {enc : TypeId × Value → H} {W W' : World} (hl : laidOutB P = true) (hb : Below W.heap.size W W') :
    ∀ {ts : List TypeId} {vs : List Value} {ds : List (DataW H)} {ps : List MemPlace}, (ts.all fun t => P.readableRec t && decide (t < P.types.size)) = true →
      DataW.TrodAll enc P W 0 (fun _ => true) true ts vs ds ps → DataW.TrodAll enc P W' 0 (fun b => decide (b < W.heap.size)) true ts vs ds ps
  | [], [], [], _, _, h => h
  | t :: ts, v :: vs, d :: ds, ps, hr, h => by
    have hlt := h.lt
    obtain ⟨p, q, h1, h2, rfl⟩ := h
    simp only [List.all_cons, Bool.and_eq_true, decide_eq_true_eq] at hr
    exact ⟨p, q, Below.trod hl hr.1.1 hr.1.2 h1 hb fun x hx => hlt x (List.mem_append_left _ hx), trodAll_stays hl hb hr.2 h2, rfl⟩
  | [], [], _ :: _, _, _, h => h.elim
  | [], _ :: _, _, _, _, h => h.elim
  | _ :: _, [], _, _, _, h => h.elim
  | _ :: _, _ :: _, [], _, _, h => h.elim
theorem post_true {H : Type} {enc : TypeId × Value → H} {f : Func} {s : ChangeSpec} {W W' : World} {args : Array Value} {ds gs : List (DataW H)} {before : List MemPlace} {tb : TypeId}
    (hl : laidOutB P = true) (hr : (f.params.toList.all fun t => P.readableRec t && decide (t < P.types.size)) = true) (hrt : f.resultTypes = #[tb]) (hb : P.underlying tb = some .bool) (hsv : s.vars = [])
    (hW : DataW.Whole enc P f.params.toList s.vars false W args.toList ds gs before) (hfn : s.fn H (ds ++ []) = ⟨[.lit (.bool true)], ds, []⟩) (hk : Below W.heap.size W W') :
    s.post enc P f false true false false W args (.bool true) W' := by
  have hW' := hW
  obtain ⟨p, q, hA, hV, rfl, _, _⟩ := hW
  rw [hsv] at hV
  obtain ⟨rfl, rfl⟩ := trodVars_none hV
  refine ⟨ds, [], _, [], p, [], hW', ?_, ?_, ?_, hk.frame _, fun h => by cases h⟩
  · rw [hfn, hrt]
    exact trodAll_mk1 (shut_bool hb _)
  · rw [hfn]
    exact trodAll_stays hl hk hr hA
  · rw [hfn, hsv]
    rfl
/-- a law's walk, from the conditions of its code -/
theorem law_walk2 {x : Cx} {an cu : Anns} (hx : XOK P x) (hmx : P.follows .mixedOrders = true) {f : Nat} {fn : Func} {body : Code} (hf : P.funcs[f]? = some fn) (hbd : fn.body = some body) (hn : fn.ntmps = x.nt) (hdr : drawsOk x.tt x.dr body = true)
    {l : List AV} {vals : List Value} {w : World} (hsh : w.ShapedOpen P) (hl : llen l ≤ x.nt) (hv : RVs mTop w l vals) (hvc : vc real x an cu body ⟨zipSl 0 l, [], 64⟩ (retOk real x.tt false fn.results.toList [.val (.b true)])) :
    Calls P f vals.toArray w fun e w' => e = .returned (.bool true) ∧ Below w.heap.size w w' := by
  have hlen := RVs_length hv
  rw [llen_eq] at hl
  let E : Env := ⟨w, [], fun _ => True, none, [], fun _ => False⟩
  have hr : StR E x.nt ⟨zipSl 0 l, [], 64⟩ mTop { tmps := vals.toArray ++ Array.replicate (fn.ntmps - vals.toArray.size) undef, defers := [] } w :=
    ⟨entry_sl hv _, ⟨fun k ab h => (by cases h), fun k k' ab ab' v v' b h => (by cases h), fun b h => h.elim, fun k ab v b h => (by cases h), fun k ab v b h => (by cases h), fun _ _ => trivial⟩, fun k v b hk => (by cases hk), fun k _ => rfl, (by simp; omega), rfl,
      ⟨rfl, rfl, rfl, Nat.le_refl _, rfl, fun _ _ _ => rfl, fun k v b hk => (by cases hk), fun m0 w1 he => (by cases he), fun j v hj => (by cases hj), fun b h => h.elim, fun b h => h.elim⟩⟩
  have hE : GE P E := ⟨w, hsh, fun g o h1 h2 => ⟨(Array.getElem?_eq_some_iff.1 h2).1, fun h => (by cases h), trivial, h2⟩⟩
  refine calls_of_wp hf hbd (code_mono (vc_sound hx hE (fun j v hj => (by cases hj)) (.inl rfl) hmx body _ _ hdr hvc _ _ w hr) ?_)
  intro en a w' hp
  refine ends_sound hx.tt (fun l vs s' m1 w1 k1 k2 k3 => ?_) hp
  cases l with
  | nil => simp [retM] at k2
  | cons b r =>
    cases r with
    | cons c r => simp [retM, AV.nk] at k2
    | nil =>
      simp only [retM, AV.nk, and_true] at k2
      simp only [RVs] at k1
      obtain ⟨v, q, rfl, h1, rfl⟩ := k1
      have := RV_le b (.b true) v k2 (fun h => by cases h) h1
      simp only [RV, CR, List.cons.injEq, and_true] at this
      subst this
      exact ⟨rfl, k3.fr.os, k3.fr.tape, k3.fr.output, k3.fr.size, fun b hb => k3.fr.block b hb (fun h => by cases h)⟩
end
end Go.Vc
set_option linter.unusedVariables false
set_option linter.unusedSimpArgs false
namespace Go.Vc
open Go Go.RowKit Go.ChangeShapes Go.WideShapes
/-! ## What is handed, opened by the shape of its type -/
section
variable (P : Program)
mutual
/-- a type of this shape -/
def ShT : Sh → TypeId → Prop
  | .i, t => P.underlying t = some (.int .i64)
  | .w8, t => P.underlying t = some (.int .u8)
  | .w32, t => P.underlying t = some (.int .u32)
  | .w64, t => P.underlying t = some (.int .u64)
  | .b, t => P.underlying t = some .bool
  | .s, t => P.underlying t = some .string
  | .l8 n, t => ∃ e, P.underlying t = some (.array n e) ∧ P.underlying e = some (.int .u8) ∧ P.cellsOf e = 1 ∧ P.cellsOf t = n
  | .ss, t => ∃ e, P.underlying t = some (.slice e) ∧ P.underlying e = some .string ∧ P.cellsOf e = 1
  | .bs, t => ∃ e, P.underlying t = some (.slice e) ∧ P.underlying e = some (.int .u8) ∧ P.cellsOf e = 1
  | .t l, t => ∃ fs, P.underlying t = some (.struct fs) ∧ P.cellsOf t = Sh.lcells l ∧ ShTs l fs.toList 0
  | .sl sh, t => ∃ e, P.underlying t = some (.slice e) ∧ P.cellsOf e = sh.cells ∧ 0 < sh.cells ∧ ShT sh e
def ShTs : List Sh → List Field → Nat → Prop
  | [], [], _ => True
  | a :: l, f :: fs, o => f.offset = o ∧ P.cellsOf f.type = a.cells ∧ ShT a f.type ∧ ShTs l fs (o + a.cells)
  | _, _, _ => False
end
end
mutual
/-- data of this shape, within a machine's bounds -/
def DF : Sh → D → Prop
  | .i, d => ∃ n, d = .i n ∧ -9223372036854775808 ≤ n ∧ n ≤ 9223372036854775807
  | .w8, d => ∃ x, d = .w8 x
  | .w32, d => ∃ x, d = .w32 x
  | .w64, d => ∃ x, d = .w64 x
  | .b, d => ∃ x, d = .b x
  | .s, d => ∃ x, d = .s x ∧ x.length ≤ 9223372036854775807
  | .l8 n, d => ∃ x, d = .l8 x ∧ x.length = n
  | .ss, d => ∃ x, d = .ss x ∧ x.length ≤ 9223372036854775807 ∧ ∀ y ∈ x, y.length ≤ 9223372036854775807
  | .bs, d => ∃ x, d = .l8 x ∧ x.length ≤ 9223372036854775807
  | .t l, d => ∃ ds, d = .t ds ∧ DFs l ds
  | .sl sh, d => ∃ ds, d = .t ds ∧ ds.length ≤ 9223372036854775807 ∧ ∀ x, x ∈ ds → DF sh x
def DFs : List Sh → List D → Prop
  | [], [] => True
  | a :: l, d :: ds => DF a d ∧ DFs l ds
  | _, _ => False
end
section
variable {P : Program} {w : World}
theorem sl_sh {sh : Sh} {t e : TypeId} (ht : P.underlying t = some (.slice e)) (hc : P.cellsOf e = sh.cells) (h0 : 0 < sh.cells)
    (hE : ∀ (H : Type) (enc : TypeId × Value → H) (base : Nat) (sp : Nat → Bool) (held : Bool) (fuel : Nat) (cs : List Value) (x : DataW H × List MemPlace), DataW.trod enc P w base sp held fuel e cs = some x → ∃ d, DF sh d ∧ DR mTop w sh d cs)
    (H : Type) (enc : TypeId × Value → H) (base : Nat) (sp : Nat → Bool) (held : Bool) (fuel : Nat) (cs : List Value) (x : DataW H × List MemPlace)
    (h : DataW.trod enc P w base sp held fuel t cs = some x) :
    ∃ (ds : List D) (ad : Option Addr) (cap : Nat) (css : List (List Value)), cs = [.slice ad ds.length cap] ∧ ds.length ≤ cap ∧ ds.length ≤ 9223372036854775807 ∧ css.length = ds.length ∧
      (∀ (j : Nat) (x : List Value) (y : D), css[j]? = some x → ds[j]? = some y → x.length = sh.cells ∧ DR mTop w sh y x) ∧ css.flatten.length = ds.length * sh.cells ∧ (0 < ds.length → ∃ a, ad = some a ∧ StableAt mTop w a css.flatten) ∧ ∀ x, x ∈ ds → DF sh x := by
  rcases DataW.trod_slice ht h with ⟨rfl, _⟩ | ⟨a, len, cap, elems, rest, m, rfl, rfl, rfl, _, hl, hm, hlen, hel, _⟩
  · exact ⟨[], none, 0, [], rfl, by simp, by simp, rfl, by simp, by simp, by simp, by simp⟩
  · have key : ∀ k, k ≤ len → ∃ (ds : List D) (css : List (List Value)), ds.length = k ∧ css.length = k ∧ (∀ (j : Nat) (x : List Value), css[j]? = some x → x.length = sh.cells) ∧ (∀ (j : Nat) (x : List Value) (y : D), css[j]? = some x → ds[j]? = some y → DR mTop w sh y x) ∧
        (∀ (j : Nat) x, css.flatten[j]? = some x → w.cell? (a.add j) = some x) ∧ ∀ x, x ∈ ds → DF sh x := by
      intro k
      induction k with
      | zero => exact fun _ => ⟨[], [], rfl, rfl, by simp, by simp, by simp, by simp⟩
      | succ k ih =>
        intro hk
        obtain ⟨ds, css, h1, h2, h3, h4, h5, h6⟩ := ih (by omega)
        have h7 := hel k (by omega)
        rw [List.getElem?_eq_getElem (by omega), hc, Option.bind_eq_some_iff] at h7
        obtain ⟨cs', hcs, hy⟩ := h7
        obtain ⟨d, hd1, hd2⟩ := hE H enc base sp held m _ _ hy
        have hdl := DR_len sh d cs' hd2
        obtain ⟨_, hn, hcell⟩ := World.cells?_some hcs
        have hfl := flat_len h3
        refine ⟨ds ++ [d], css ++ [cs'], by simp [h1], by simp [h2], fun j x hj => ?_, fun j x y hj hj' => ?_, fun j x hj => ?_, fun x hx => ?_⟩
        · rw [List.getElem?_append] at hj
          split at hj
          · exact h3 j x hj
          · have := List.mem_of_getElem? hj
            simp at this; rw [this]; exact hdl
        · rw [List.getElem?_append] at hj hj'
          rw [h2] at hj
          rw [h1] at hj'
          by_cases hlt : j < k
          · rw [if_pos hlt] at hj hj'
            exact h4 j x y hj hj'
          · rw [if_neg hlt] at hj hj'
            have e1 := List.mem_of_getElem? hj
            have e2 := List.mem_of_getElem? hj'
            simp at e1 e2
            rw [e1, e2]; exact hd2
        · rw [List.flatten_append, List.getElem?_append] at hj
          split at hj
          · exact h5 j x hj
          · rename_i hlt
            rw [hfl, h2] at hj hlt
            simp only [List.flatten_cons, List.flatten_nil, List.append_nil] at hj
            have hjl := (List.getElem?_eq_some_iff.1 hj).1
            have := hcell (j - k * sh.cells) (by omega)
            rw [hj, add_add_at, show k * sh.cells + (j - k * sh.cells) = j by omega] at this
            exact this
        · rcases List.mem_append.1 hx with hx | hx
          · exact h6 x hx
          · simp at hx; rw [hx]; exact hd1
    obtain ⟨ds, css, h1, h2, h3, h4, h5, h6⟩ := key len (Nat.le_refl _)
    have hfl := flat_len h3
    refine ⟨ds, some a, cap, css, by rw [h1], by omega, by simp [maxLen] at hm; omega, by omega, fun j x y hx hy => ⟨h3 j x hx, h4 j x y hx hy⟩, by rw [hfl, h2, h1], fun hn => ⟨a, rfl, stableAtTop ?_ h5⟩, h6⟩
    rw [hfl, h2]
    exact Nat.mul_pos (by omega) h0
mutual
theorem elt_sh : ∀ (sh : Sh) (t : TypeId), ShT P sh t → ∀ (H : Type) (enc : TypeId × Value → H) (base : Nat) (sp : Nat → Bool) (held : Bool) (fuel : Nat) (cs : List Value) (x : DataW H × List MemPlace),
    DataW.trod enc P w base sp held fuel t cs = some x → ∃ d, DF sh d ∧ DR mTop w sh d cs
  | .i, t, ht, H, enc, base, sp, held, fuel, cs, x, h => by
    obtain ⟨a, rfl, hq⟩ := elt_i64 (w := w) ht _ _ _ _ _ _ _ _ h
    exact ⟨.i a, ⟨a, rfl, hq⟩, by simp [DR, D.gi]⟩
  | .w8, t, ht, H, enc, base, sp, held, fuel, cs, x, h => by
    obtain ⟨a, rfl, hq⟩ := elt_u8 (w := w) ht _ _ _ _ _ _ _ _ h
    exact ⟨.w8 a, ⟨a, rfl⟩, by simp [DR, D.g8]⟩
  | .w32, t, ht, H, enc, base, sp, held, fuel, cs, x, h => by
    obtain ⟨a, rfl, hq⟩ := elt_u32 (w := w) ht _ _ _ _ _ _ _ _ h
    exact ⟨.w32 a, ⟨a, rfl⟩, by simp [DR, D.g32]⟩
  | .w64, t, ht, H, enc, base, sp, held, fuel, cs, x, h => by
    obtain ⟨a, rfl, hq⟩ := elt_u64 (w := w) ht _ _ _ _ _ _ _ _ h
    exact ⟨.w64 a, ⟨a, rfl⟩, by simp [DR, D.g64]⟩
  | .b, t, ht, H, enc, base, sp, held, fuel, cs, x, h => by
    obtain ⟨a, rfl, hq⟩ := elt_bool (w := w) ht _ _ _ _ _ _ _ _ h
    exact ⟨.b a, ⟨a, rfl⟩, by simp [DR, D.gb]⟩
  | .s, t, ht, H, enc, base, sp, held, fuel, cs, x, h => by
    obtain ⟨a, rfl, hq⟩ := elt_str (w := w) ht _ _ _ _ _ _ _ _ h
    exact ⟨.s a, ⟨a, rfl, hq⟩, by simp [DR, D.gs]⟩
  | .l8 n, t, ht, H, enc, base, sp, held, fuel, cs, x, h => by
    obtain ⟨e, h1, h2, h3, h4⟩ := ht
    obtain ⟨xs, rfl, hl, _⟩ := arr_of (w := w) h1 h3 h4 (elt_u8 h2) _ _ _ _ _ _ _ _ h
    exact ⟨.l8 xs, ⟨xs, rfl, hl⟩, by simp [DR, D.gl8, hl]⟩
  | .ss, t, ht, H, enc, base, sp, held, fuel, cs, x, h => by
    obtain ⟨e, h1, h2, h3⟩ := ht
    obtain ⟨xs, ad, cap, rfl, h4, h5, h6, h7⟩ := sl_of (w := w) h1 h3 (elt_str h2) _ _ _ _ _ _ _ _ h
    exact ⟨.ss xs, ⟨xs, rfl, h5, h7⟩, by simp only [DR, D.gss]; exact ⟨ad, _, cap, _, rfl, rfl, by simp, h4, h6⟩⟩
  | .bs, t, ht, H, enc, base, sp, held, fuel, cs, x, h => by
    obtain ⟨e, h1, h2, h3⟩ := ht
    obtain ⟨xs, ad, cap, rfl, h4, h5, h6, h7⟩ := sl_of (w := w) h1 h3 (elt_u8 h2) _ _ _ _ _ _ _ _ h
    exact ⟨.l8 xs, ⟨xs, rfl, h5⟩, by simp only [DR, D.gl8]; exact ⟨ad, _, cap, _, rfl, rfl, by simp, h4, h6⟩⟩
  | .t l, t, ht, H, enc, base, sp, held, fuel, cs, x, h => by
    obtain ⟨fs, h1, h2, h3⟩ := ht
    obtain ⟨xs, n, rfl, rfl, hl, hlen, hf⟩ := DataW.trod_struct h1 h
    obtain ⟨ds, g1, g2⟩ := elts_sh l fs.toList 0 h3 H enc base sp held n cs (fun i f hi => by
      have hi' : fs[i]? = some f := by simpa using hi
      have := hf i f hi'
      have hif := (Array.getElem?_eq_some_iff.1 hi').1
      exact ⟨xs[i]'(by omega), by rw [this, List.getElem?_eq_getElem (by omega)]⟩)
    refine ⟨.t ds, ⟨ds, rfl, g1⟩, ?_⟩
    have := g2 (.t ds) 0 (fun i => by simp [D.fld, D.gt])
    rw [List.drop_zero, List.take_of_length_le (by omega)] at this
    simpa only [DR] using this
  | .sl sh, t, ht, H, enc, base, sp, held, fuel, cs, x, h => by
    obtain ⟨e, h1, h2, h3, h4⟩ := ht
    obtain ⟨ds, ad, cap, css, rfl, g1, g2, g3, g4, g5, g6, g7⟩ := sl_sh (w := w) h1 h2 h3 (elt_sh sh e h4) _ _ _ _ _ _ _ _ h
    refine ⟨.t ds, ⟨ds, rfl, g2, g7⟩, ?_⟩
    simp only [DR, D.gt]
    exact ⟨ad, _, cap, _, rfl, ⟨css, g3, rfl, g4⟩, g5, g1, g6⟩
theorem elts_sh : ∀ (l : List Sh) (fs : List Field) (o : Nat), ShTs P l fs o → ∀ (H : Type) (enc : TypeId × Value → H) (base : Nat) (sp : Nat → Bool) (held : Bool) (fuel : Nat) (cs : List Value),
    (∀ (i : Nat) (f : Field), fs[i]? = some f → ∃ y, DataW.trod enc P w base sp held fuel f.type ((cs.drop f.offset).take (P.cellsOf f.type)) = some y) →
    ∃ ds, DFs l ds ∧ ∀ (d : D) (j0 : Nat), (∀ i, d.fld (j0 + i) = ds.getD i D.no) → DRs mTop w l d j0 ((cs.drop o).take (Sh.lcells l))
  | [], fs, o, ht, H, enc, base, sp, held, fuel, cs, h => ⟨[], by simp [DFs], fun d j0 _ => by simp [DRs, Sh.lcells]⟩
  | a :: l, fs, o, ht, H, enc, base, sp, held, fuel, cs, h => by
    cases fs with
    | nil => exact (show False from ht).elim
    | cons f fs =>
      obtain ⟨h1, h2, h3, h4⟩ := ht
      obtain ⟨y, hy⟩ := h 0 f rfl
      rw [h1, h2] at hy
      obtain ⟨d, g1, g2⟩ := elt_sh a f.type h3 H enc base sp held fuel _ _ hy
      obtain ⟨ds, k1, k2⟩ := elts_sh l fs (o + a.cells) h4 H enc base sp held fuel cs (fun i f' hi => h (i + 1) f' (by simpa using hi))
      refine ⟨d :: ds, ⟨g1, k1⟩, fun d0 j0 hd => ?_⟩
      simp only [DRs, Sh.lcells]
      refine ⟨(cs.drop o).take a.cells, (cs.drop (o + a.cells)).take (Sh.lcells l), ?_, ?_, ?_⟩
      · rw [List.take_add, List.drop_drop]
      · have := hd 0
        rw [Nat.add_zero] at this
        rw [this]; exact g2
      · refine k2 d0 (j0 + 1) (fun i => ?_)
        have := hd (i + 1)
        rw [show j0 + 1 + i = j0 + (i + 1) by omega, this]
        simp
end
section
variable {H : Type} {enc : TypeId × Value → H} {base b0 : Nat} {sp : Nat → Bool} {held : Bool} {t e : TypeId} {v : Value} {d : DataW H} {ps : List MemPlace} {r : Reach}
end
end
end Go.Vc
set_option linter.unusedVariables false
namespace Go.Vc
open Go Go.RowKit
/-- the closed facts of a row: what is asked of the whole program is handed in, the rest goes by reckoning -/
theorem joined_of {P : Program} {f : FuncId} {fn : Func} {s : ChangeSpec} {c : OpenClaim} (p1 : laidOutB P = true) (p2 : mapsRowed P = true) (p6 : P.stops = []) (p8 : P.stopKnobs = []) (p24 : P.stopsHeard = true) (p25 : P.mayEnter = true) (p26 : P.liftsFinal = false) (p27 : P.make = some .cut) (c26 : c.lifted = false) (c27 : c.make = .cut) (h0 : (c.wf (OpenSpec.ofChange s)) = true) (h3 : (fn.params.all (P.readableRec ·)) = true) (h4 : (namedTie P c.named s.vars) = true) (h5 : ((c.stops == [])) = true) (h7 : ((c.knobs == [])) = true) (h9 : ((c.inPlace == P.inPlace f)) = true) (h10 : ((c.unfollowed == P.unfollowed f)) = true) (h11 : ((c.recurses == P.recurses f)) = true) (h12 : ((c.named == P.varsNamed f)) = true) (h13 : ((c.maps == (fn.params.toList ++ s.plain.varTypes P).any (P.mapsRec ·))) = true) (h14 : ((c.ifaces == (fn.params.toList ++ s.plain.varTypes P).any (P.ifacesRec ·))) = true) (h15 : ((c.mapsOut == P.mapsAmong fn.resultTypes.toList)) = true) (h16 : ((c.loops == (fn.params.toList ++ s.plain.varTypes P).any (P.loopsFrom ·))) = true) (h17 : ((c.wideKeys == (fn.params.toList ++ s.plain.varTypes P ++ fn.resultTypes.toList).any (P.wideKeysFrom ·))) = true) (h18 : (s.vars.all (P.varReadable ·)) = true) (h19 : (fn.resultTypes.all (fun t => P.readableRec t && decide (t < P.types.size))) = true) (h20 : ((c.ifacesOut == fn.resultTypes.toList.any (P.ifacesRec ·))) = true) (h21 : ((c.loopsOut == fn.resultTypes.toList.any (P.loopsFrom ·))) = true) (h22 : ((c.plainKeys == P.plainKeys)) = true) (h23 : (c.shortTexts.isNone) = true) (h28 : ((c.kinds == (if c.domain.isEmpty then [] else fn.params.toList.map fun t => match P.underlying t with | some (.int k) => some k | _ => none))) = true) (h29 : ((c.pinned == c.pinnedBy)) = true) (h30 : ((c.veiled == (fn.params.toList ++ s.plain.varTypes P ++ fn.resultTypes.toList).any (P.veiledRec ·))) = true) (h31 : (c.veiledFits P fn.params.toList (fn.params.toList ++ s.plain.varTypes P ++ fn.resultTypes.toList)) = true) : joinedFacts P f fn s c = true := by
  unfold joinedFacts
  exact Bool.and_eq_true_iff.2 ⟨Bool.and_eq_true_iff.2 ⟨Bool.and_eq_true_iff.2 ⟨Bool.and_eq_true_iff.2 ⟨Bool.and_eq_true_iff.2 ⟨Bool.and_eq_true_iff.2 ⟨Bool.and_eq_true_iff.2 ⟨Bool.and_eq_true_iff.2 ⟨Bool.and_eq_true_iff.2 ⟨Bool.and_eq_true_iff.2 ⟨Bool.and_eq_true_iff.2 ⟨Bool.and_eq_true_iff.2 ⟨Bool.and_eq_true_iff.2 ⟨Bool.and_eq_true_iff.2 ⟨Bool.and_eq_true_iff.2 ⟨Bool.and_eq_true_iff.2 ⟨Bool.and_eq_true_iff.2 ⟨Bool.and_eq_true_iff.2 ⟨Bool.and_eq_true_iff.2 ⟨Bool.and_eq_true_iff.2 ⟨Bool.and_eq_true_iff.2 ⟨Bool.and_eq_true_iff.2 ⟨Bool.and_eq_true_iff.2 ⟨Bool.and_eq_true_iff.2 ⟨Bool.and_eq_true_iff.2 ⟨Bool.and_eq_true_iff.2 ⟨Bool.and_eq_true_iff.2 ⟨Bool.and_eq_true_iff.2 ⟨Bool.and_eq_true_iff.2 ⟨Bool.and_eq_true_iff.2 ⟨Bool.and_eq_true_iff.2 ⟨h0, p1⟩, p2⟩, h3⟩, h4⟩, h5⟩, (by rw [p6]; rfl)⟩, h7⟩, (by rw [p8]; rfl)⟩, h9⟩, h10⟩, h11⟩, h12⟩, h13⟩, h14⟩, h15⟩, h16⟩, h17⟩, h18⟩, h19⟩, h20⟩, h21⟩, h22⟩, h23⟩, p24⟩, p25⟩, (by rw [c26, p26]; rfl)⟩, (by rw [c27, p27]; rfl)⟩, h28⟩, h29⟩, h30⟩, h31⟩
end Go.Vc
set_option maxRecDepth 100000
namespace Go.Proofs.Ythjlhookepchgaa
open Go
/-- a sign by its number -/
abbrev kc (n : Nat) : Char := Char.ofNat n
theorem io_eq : Try.prog.initOrder = String.ofList [kc 104, kc 97, kc 114, kc 110, kc 101, kc 115, kc 115, kc 32, kc 49, kc 50, kc 49, kc 52, kc 99, kc 99, kc 102, kc 50, kc 54, kc 102, kc 51, kc 56, kc 101, kc 57, kc 97, kc 54, kc 52, kc 48, kc 97, kc 50, kc 52, kc 102, kc 49, kc 101, kc 97, kc 100, kc 97, kc 102, kc 55, kc 53, kc 97, kc 57, kc 100, kc 55, kc 53, kc 51, kc 48, kc 49, kc 56, kc 51, kc 51, kc 55, kc 101, kc 51, kc 102, kc 99, kc 54, kc 49, kc 51, kc 98, kc 98, kc 54, kc 54, kc 57, kc 56, kc 50, kc 98, kc 49, kc 102, kc 48, kc 50, kc 100, kc 56, kc 53, kc 32, kc 99, kc 117, kc 116, kc 32, kc 97, kc 116, kc 32, kc 115, kc 97, kc 99, kc 114, kc 105, kc 115, kc 116, kc 121, kc 47, kc 115, kc 97, kc 99, kc 114, kc 105, kc 115, kc 116, kc 121, kc 108, kc 97, kc 119, kc 50, kc 48, kc 46, kc 84, kc 111, kc 107, kc 101, kc 110, kc 67, kc 104, kc 97, kc 105, kc 110, kc 32, kc 115, kc 97, kc 99, kc 114, kc 105, kc 115, kc 116, kc 121, kc 47, kc 115, kc 97, kc 99, kc 114, kc 105, kc 115, kc 116, kc 121, kc 108, kc 97, kc 119, kc 50, kc 48, kc 46, kc 84, kc 111, kc 107, kc 101, kc 110, kc 70, kc 117, kc 108, kc 108, kc 32, kc 115, kc 97, kc 99, kc 114, kc 105, kc 115, kc 116, kc 121, kc 47, kc 115, kc 97, kc 99, kc 114, kc 105, kc 115, kc 116, kc 121, kc 108, kc 97, kc 119, kc 50, kc 48, kc 46, kc 84, kc 111, kc 107, kc 101, kc 110, kc 84, kc 114, kc 101, kc 101, kc 115, kc 32, kc 115, kc 97, kc 99, kc 114, kc 105, kc 115, kc 116, kc 121, kc 47, kc 115, kc 97, kc 99, kc 114, kc 105, kc 115, kc 116, kc 121, kc 108, kc 97, kc 119, kc 50, kc 50, kc 46, kc 75, kc 118, kc 67, kc 97, kc 115, kc 32, kc 115, kc 97, kc 99, kc 114, kc 105, kc 115, kc 116, kc 121, kc 47, kc 115, kc 97, kc 99, kc 114, kc 105, kc 115, kc 116, kc 121, kc 108, kc 97, kc 119, kc 50, kc 50, kc 46, kc 75, kc 118, kc 86, kc 101, kc 114, kc 115, kc 105, kc 111, kc 110, kc 115, kc 32, kc 115, kc 97, kc 99, kc 114, kc 105, kc 115, kc 116, kc 121, kc 47, kc 115, kc 97, kc 99, kc 114, kc 105, kc 115, kc 116, kc 121, kc 108, kc 97, kc 119, kc 50, kc 50, kc 46, kc 75, kc 118, kc 70, kc 117, kc 108, kc 108, kc 32, kc 115, kc 97, kc 99, kc 114, kc 105, kc 115, kc 116, kc 121, kc 47, kc 115, kc 97, kc 99, kc 114, kc 105, kc 115, kc 116, kc 121, kc 108, kc 97, kc 119, kc 50, kc 50, kc 46, kc 75, kc 118, kc 83, kc 105, kc 122, kc 101, kc 32, kc 115, kc 97, kc 99, kc 114, kc 105, kc 115, kc 116, kc 121, kc 47, kc 115, kc 97, kc 99, kc 114, kc 105, kc 115, kc 116, kc 121, kc 108, kc 97, kc 119, kc 50, kc 50, kc 46, kc 75, kc 118, kc 82, kc 101, kc 115, kc 116, kc 111, kc 114, kc 101, kc 115, kc 32, kc 115, kc 97, kc 99, kc 114, kc 105, kc 115, kc 116, kc 121, kc 47, kc 115, kc 97, kc 99, kc 114, kc 105, kc 115, kc 116, kc 121, kc 108, kc 97, kc 119, kc 50, kc 49, kc 46, kc 69, kc 110, kc 116, kc 105, kc 116, kc 121, kc 71, kc 114, kc 111, kc 117, kc 112, kc 115, kc 32, kc 115, kc 97, kc 99, kc 114, kc 105, kc 115, kc 116, kc 121, kc 47, kc 115, kc 97, kc 99, kc 114, kc 105, kc 115, kc 116, kc 121, kc 108, kc 97, kc 119, kc 50, kc 49, kc 46, kc 69, kc 110, kc 116, kc 105, kc 116, kc 121, kc 70, kc 117, kc 108, kc 108, kc 32, kc 115, kc 97, kc 99, kc 114, kc 105, kc 115, kc 116, kc 121, kc 47, kc 115, kc 97, kc 99, kc 114, kc 105, kc 115, kc 116, kc 121, kc 108, kc 97, kc 119, kc 50, kc 49, kc 46, kc 69, kc 110, kc 116, kc 105, kc 116, kc 121, kc 76, kc 105, kc 115, kc 116, kc 115, kc 32, kc 115, kc 97, kc 99, kc 114, kc 105, kc 115, kc 116, kc 121, kc 47, kc 115, kc 97, kc 99, kc 114, kc 105, kc 115, kc 116, kc 121, kc 108, kc 97, kc 119, kc 50, kc 49, kc 46, kc 69, kc 110, kc 116, kc 105, kc 116, kc 121, kc 80, kc 108, kc 97, kc 121, kc 115] := by kernel_rfl
theorem io_chars : Try.prog.initOrder.toList = [kc 104, kc 97, kc 114, kc 110, kc 101, kc 115, kc 115, kc 32, kc 49, kc 50, kc 49, kc 52, kc 99, kc 99, kc 102, kc 50, kc 54, kc 102, kc 51, kc 56, kc 101, kc 57, kc 97, kc 54, kc 52, kc 48, kc 97, kc 50, kc 52, kc 102, kc 49, kc 101, kc 97, kc 100, kc 97, kc 102, kc 55, kc 53, kc 97, kc 57, kc 100, kc 55, kc 53, kc 51, kc 48, kc 49, kc 56, kc 51, kc 51, kc 55, kc 101, kc 51, kc 102, kc 99, kc 54, kc 49, kc 51, kc 98, kc 98, kc 54, kc 54, kc 57, kc 56, kc 50, kc 98, kc 49, kc 102, kc 48, kc 50, kc 100, kc 56, kc 53, kc 32, kc 99, kc 117, kc 116, kc 32, kc 97, kc 116, kc 32, kc 115, kc 97, kc 99, kc 114, kc 105, kc 115, kc 116, kc 121, kc 47, kc 115, kc 97, kc 99, kc 114, kc 105, kc 115, kc 116, kc 121, kc 108, kc 97, kc 119, kc 50, kc 48, kc 46, kc 84, kc 111, kc 107, kc 101, kc 110, kc 67, kc 104, kc 97, kc 105, kc 110, kc 32, kc 115, kc 97, kc 99, kc 114, kc 105, kc 115, kc 116, kc 121, kc 47, kc 115, kc 97, kc 99, kc 114, kc 105, kc 115, kc 116, kc 121, kc 108, kc 97, kc 119, kc 50, kc 48, kc 46, kc 84, kc 111, kc 107, kc 101, kc 110, kc 70, kc 117, kc 108, kc 108, kc 32, kc 115, kc 97, kc 99, kc 114, kc 105, kc 115, kc 116, kc 121, kc 47, kc 115, kc 97, kc 99, kc 114, kc 105, kc 115, kc 116, kc 121, kc 108, kc 97, kc 119, kc 50, kc 48, kc 46, kc 84, kc 111, kc 107, kc 101, kc 110, kc 84, kc 114, kc 101, kc 101, kc 115, kc 32, kc 115, kc 97, kc 99, kc 114, kc 105, kc 115, kc 116, kc 121, kc 47, kc 115, kc 97, kc 99, kc 114, kc 105, kc 115, kc 116, kc 121, kc 108, kc 97, kc 119, kc 50, kc 50, kc 46, kc 75, kc 118, kc 67, kc 97, kc 115, kc 32, kc 115, kc 97, kc 99, kc 114, kc 105, kc 115, kc 116, kc 121, kc 47, kc 115, kc 97, kc 99, kc 114, kc 105, kc 115, kc 116, kc 121, kc 108, kc 97, kc 119, kc 50, kc 50, kc 46, kc 75, kc 118, kc 86, kc 101, kc 114, kc 115, kc 105, kc 111, kc 110, kc 115, kc 32, kc 115, kc 97, kc 99, kc 114, kc 105, kc 115, kc 116, kc 121, kc 47, kc 115, kc 97, kc 99, kc 114, kc 105, kc 115, kc 116, kc 121, kc 108, kc 97, kc 119, kc 50, kc 50, kc 46, kc 75, kc 118, kc 70, kc 117, kc 108, kc 108, kc 32, kc 115, kc 97, kc 99, kc 114, kc 105, kc 115, kc 116, kc 121, kc 47, kc 115, kc 97, kc 99, kc 114, kc 105, kc 115, kc 116, kc 121, kc 108, kc 97, kc 119, kc 50, kc 50, kc 46, kc 75, kc 118, kc 83, kc 105, kc 122, kc 101, kc 32, kc 115, kc 97, kc 99, kc 114, kc 105, kc 115, kc 116, kc 121, kc 47, kc 115, kc 97, kc 99, kc 114, kc 105, kc 115, kc 116, kc 121, kc 108, kc 97, kc 119, kc 50, kc 50, kc 46, kc 75, kc 118, kc 82, kc 101, kc 115, kc 116, kc 111, kc 114, kc 101, kc 115, kc 32, kc 115, kc 97, kc 99, kc 114, kc 105, kc 115, kc 116, kc 121, kc 47, kc 115, kc 97, kc 99, kc 114, kc 105, kc 115, kc 116, kc 121, kc 108, kc 97, kc 119, kc 50, kc 49, kc 46, kc 69, kc 110, kc 116, kc 105, kc 116, kc 121, kc 71, kc 114, kc 111, kc 117, kc 112, kc 115, kc 32, kc 115, kc 97, kc 99, kc 114, kc 105, kc 115, kc 116, kc 121, kc 47, kc 115, kc 97, kc 99, kc 114, kc 105, kc 115, kc 116, kc 121, kc 108, kc 97, kc 119, kc 50, kc 49, kc 46, kc 69, kc 110, kc 116, kc 105, kc 116, kc 121, kc 70, kc 117, kc 108, kc 108, kc 32, kc 115, kc 97, kc 99, kc 114, kc 105, kc 115, kc 116, kc 121, kc 47, kc 115, kc 97, kc 99, kc 114, kc 105, kc 115, kc 116, kc 121, kc 108, kc 97, kc 119, kc 50, kc 49, kc 46, kc 69, kc 110, kc 116, kc 105, kc 116, kc 121, kc 76, kc 105, kc 115, kc 116, kc 115, kc 32, kc 115, kc 97, kc 99, kc 114, kc 105, kc 115, kc 116, kc 121, kc 47, kc 115, kc 97, kc 99, kc 114, kc 105, kc 115, kc 116, kc 121, kc 108, kc 97, kc 119, kc 50, kc 49, kc 46, kc 69, kc 110, kc 116, kc 105, kc 116, kc 121, kc 80, kc 108, kc 97, kc 121, kc 115] := by
  rw [io_eq]
  exact String.toList_ofList
theorem ws_word : ∀ (w r : List Char), (w.all fun c => c != kc 32) = true → wordsSigns (w ++ kc 32 :: r) = w :: wordsSigns r
  | [], r, _ => rfl
  | c :: w, r, h => by
    simp only [List.all_cons, Bool.and_eq_true, bne_iff_ne, ne_eq] at h
    have ih := ws_word w r h.2
    rw [List.cons_append, wordsSigns]
    · rw [ih]
    · intro e; exact h.1 e
theorem io_words : ∃ ws, behindMainWord (wordsSigns Try.prog.initOrder.toList) = [kc 99, kc 117, kc 116] :: ws := by
  refine ⟨wordsSigns [kc 97, kc 116, kc 32, kc 115, kc 97, kc 99, kc 114, kc 105, kc 115, kc 116, kc 121, kc 47, kc 115, kc 97, kc 99, kc 114, kc 105, kc 115, kc 116, kc 121, kc 108, kc 97, kc 119, kc 50, kc 48, kc 46, kc 84, kc 111, kc 107, kc 101, kc 110, kc 67, kc 104, kc 97, kc 105, kc 110, kc 32, kc 115, kc 97, kc 99, kc 114, kc 105, kc 115, kc 116, kc 121, kc 47, kc 115, kc 97, kc 99, kc 114, kc 105, kc 115, kc 116, kc 121, kc 108, kc 97, kc 119, kc 50, kc 48, kc 46, kc 84, kc 111, kc 107, kc 101, kc 110, kc 70, kc 117, kc 108, kc 108, kc 32, kc 115, kc 97, kc 99, kc 114, kc 105, kc 115, kc 116, kc 121, kc 47, kc 115, kc 97, kc 99, kc 114, kc 105, kc 115, kc 116, kc 121, kc 108, kc 97, kc 119, kc 50, kc 48, kc 46, kc 84, kc 111, kc 107, kc 101, kc 110, kc 84, kc 114, kc 101, kc 101, kc 115, kc 32, kc 115, kc 97, kc 99, kc 114, kc 105, kc 115, kc 116, kc 121, kc 47, kc 115, kc 97, kc 99, kc 114, kc 105, kc 115, kc 116, kc 121, kc 108, kc 97, kc 119, kc 50, kc 50, kc 46, kc 75, kc 118, kc 67, kc 97, kc 115, kc 32, kc 115, kc 97, kc 99, kc 114, kc 105, kc 115, kc 116, kc 121, kc 47, kc 115, kc 97, kc 99, kc 114, kc 105, kc 115, kc 116, kc 121, kc 108, kc 97, kc 119, kc 50, kc 50, kc 46, kc 75, kc 118, kc 86, kc 101, kc 114, kc 115, kc 105, kc 111, kc 110, kc 115, kc 32, kc 115, kc 97, kc 99, kc 114, kc 105, kc 115, kc 116, kc 121, kc 47, kc 115, kc 97, kc 99, kc 114, kc 105, kc 115, kc 116, kc 121, kc 108, kc 97, kc 119, kc 50, kc 50, kc 46, kc 75, kc 118, kc 70, kc 117, kc 108, kc 108, kc 32, kc 115, kc 97, kc 99, kc 114, kc 105, kc 115, kc 116, kc 121, kc 47, kc 115, kc 97, kc 99, kc 114, kc 105, kc 115, kc 116, kc 121, kc 108, kc 97, kc 119, kc 50, kc 50, kc 46, kc 75, kc 118, kc 83, kc 105, kc 122, kc 101, kc 32, kc 115, kc 97, kc 99, kc 114, kc 105, kc 115, kc 116, kc 121, kc 47, kc 115, kc 97, kc 99, kc 114, kc 105, kc 115, kc 116, kc 121, kc 108, kc 97, kc 119, kc 50, kc 50, kc 46, kc 75, kc 118, kc 82, kc 101, kc 115, kc 116, kc 111, kc 114, kc 101, kc 115, kc 32, kc 115, kc 97, kc 99, kc 114, kc 105, kc 115, kc 116, kc 121, kc 47, kc 115, kc 97, kc 99, kc 114, kc 105, kc 115, kc 116, kc 121, kc 108, kc 97, kc 119, kc 50, kc 49, kc 46, kc 69, kc 110, kc 116, kc 105, kc 116, kc 121, kc 71, kc 114, kc 111, kc 117, kc 112, kc 115, kc 32, kc 115, kc 97, kc 99, kc 114, kc 105, kc 115, kc 116, kc 121, kc 47, kc 115, kc 97, kc 99, kc 114, kc 105, kc 115, kc 116, kc 121, kc 108, kc 97, kc 119, kc 50, kc 49, kc 46, kc 69, kc 110, kc 116, kc 105, kc 116, kc 121, kc 70, kc 117, kc 108, kc 108, kc 32, kc 115, kc 97, kc 99, kc 114, kc 105, kc 115, kc 116, kc 121, kc 47, kc 115, kc 97, kc 99, kc 114, kc 105, kc 115, kc 116, kc 121, kc 108, kc 97, kc 119, kc 50, kc 49, kc 46, kc 69, kc 110, kc 116, kc 105, kc 116, kc 121, kc 76, kc 105, kc 115, kc 116, kc 115, kc 32, kc 115, kc 97, kc 99, kc 114, kc 105, kc 115, kc 116, kc 121, kc 47, kc 115, kc 97, kc 99, kc 114, kc 105, kc 115, kc 116, kc 121, kc 108, kc 97, kc 119, kc 50, kc 49, kc 46, kc 69, kc 110, kc 116, kc 105, kc 116, kc 121, kc 80, kc 108, kc 97, kc 121, kc 115], ?_⟩
  rw [io_chars]
  show behindMainWord (wordsSigns ([kc 104, kc 97, kc 114, kc 110, kc 101, kc 115, kc 115] ++ kc 32 :: ([kc 49, kc 50, kc 49, kc 52, kc 99, kc 99, kc 102, kc 50, kc 54, kc 102, kc 51, kc 56, kc 101, kc 57, kc 97, kc 54, kc 52, kc 48, kc 97, kc 50, kc 52, kc 102, kc 49, kc 101, kc 97, kc 100, kc 97, kc 102, kc 55, kc 53, kc 97, kc 57, kc 100, kc 55, kc 53, kc 51, kc 48, kc 49, kc 56, kc 51, kc 51, kc 55, kc 101, kc 51, kc 102, kc 99, kc 54, kc 49, kc 51, kc 98, kc 98, kc 54, kc 54, kc 57, kc 56, kc 50, kc 98, kc 49, kc 102, kc 48, kc 50, kc 100, kc 56, kc 53] ++ kc 32 :: ([kc 99, kc 117, kc 116] ++ kc 32 :: [kc 97, kc 116, kc 32, kc 115, kc 97, kc 99, kc 114, kc 105, kc 115, kc 116, kc 121, kc 47, kc 115, kc 97, kc 99, kc 114, kc 105, kc 115, kc 116, kc 121, kc 108, kc 97, kc 119, kc 50, kc 48, kc 46, kc 84, kc 111, kc 107, kc 101, kc 110, kc 67, kc 104, kc 97, kc 105, kc 110, kc 32, kc 115, kc 97, kc 99, kc 114, kc 105, kc 115, kc 116, kc 121, kc 47, kc 115, kc 97, kc 99, kc 114, kc 105, kc 115, kc 116, kc 121, kc 108, kc 97, kc 119, kc 50, kc 48, kc 46, kc 84, kc 111, kc 107, kc 101, kc 110, kc 70, kc 117, kc 108, kc 108, kc 32, kc 115, kc 97, kc 99, kc 114, kc 105, kc 115, kc 116, kc 121, kc 47, kc 115, kc 97, kc 99, kc 114, kc 105, kc 115, kc 116, kc 121, kc 108, kc 97, kc 119, kc 50, kc 48, kc 46, kc 84, kc 111, kc 107, kc 101, kc 110, kc 84, kc 114, kc 101, kc 101, kc 115, kc 32, kc 115, kc 97, kc 99, kc 114, kc 105, kc 115, kc 116, kc 121, kc 47, kc 115, kc 97, kc 99, kc 114, kc 105, kc 115, kc 116, kc 121, kc 108, kc 97, kc 119, kc 50, kc 50, kc 46, kc 75, kc 118, kc 67, kc 97, kc 115, kc 32, kc 115, kc 97, kc 99, kc 114, kc 105, kc 115, kc 116, kc 121, kc 47, kc 115, kc 97, kc 99, kc 114, kc 105, kc 115, kc 116, kc 121, kc 108, kc 97, kc 119, kc 50, kc 50, kc 46, kc 75, kc 118, kc 86, kc 101, kc 114, kc 115, kc 105, kc 111, kc 110, kc 115, kc 32, kc 115, kc 97, kc 99, kc 114, kc 105, kc 115, kc 116, kc 121, kc 47, kc 115, kc 97, kc 99, kc 114, kc 105, kc 115, kc 116, kc 121, kc 108, kc 97, kc 119, kc 50, kc 50, kc 46, kc 75, kc 118, kc 70, kc 117, kc 108, kc 108, kc 32, kc 115, kc 97, kc 99, kc 114, kc 105, kc 115, kc 116, kc 121, kc 47, kc 115, kc 97, kc 99, kc 114, kc 105, kc 115, kc 116, kc 121, kc 108, kc 97, kc 119, kc 50, kc 50, kc 46, kc 75, kc 118, kc 83, kc 105, kc 122, kc 101, kc 32, kc 115, kc 97, kc 99, kc 114, kc 105, kc 115, kc 116, kc 121, kc 47, kc 115, kc 97, kc 99, kc 114, kc 105, kc 115, kc 116, kc 121, kc 108, kc 97, kc 119, kc 50, kc 50, kc 46, kc 75, kc 118, kc 82, kc 101, kc 115, kc 116, kc 111, kc 114, kc 101, kc 115, kc 32, kc 115, kc 97, kc 99, kc 114, kc 105, kc 115, kc 116, kc 121, kc 47, kc 115, kc 97, kc 99, kc 114, kc 105, kc 115, kc 116, kc 121, kc 108, kc 97, kc 119, kc 50, kc 49, kc 46, kc 69, kc 110, kc 116, kc 105, kc 116, kc 121, kc 71, kc 114, kc 111, kc 117, kc 112, kc 115, kc 32, kc 115, kc 97, kc 99, kc 114, kc 105, kc 115, kc 116, kc 121, kc 47, kc 115, kc 97, kc 99, kc 114, kc 105, kc 115, kc 116, kc 121, kc 108, kc 97, kc 119, kc 50, kc 49, kc 46, kc 69, kc 110, kc 116, kc 105, kc 116, kc 121, kc 70, kc 117, kc 108, kc 108, kc 32, kc 115, kc 97, kc 99, kc 114, kc 105, kc 115, kc 116, kc 121, kc 47, kc 115, kc 97, kc 99, kc 114, kc 105, kc 115, kc 116, kc 121, kc 108, kc 97, kc 119, kc 50, kc 49, kc 46, kc 69, kc 110, kc 116, kc 105, kc 116, kc 121, kc 76, kc 105, kc 115, kc 116, kc 115, kc 32, kc 115, kc 97, kc 99, kc 114, kc 105, kc 115, kc 116, kc 121, kc 47, kc 115, kc 97, kc 99, kc 114, kc 105, kc 115, kc 116, kc 121, kc 108, kc 97, kc 119, kc 50, kc 49, kc 46, kc 69, kc 110, kc 116, kc 105, kc 116, kc 121, kc 80, kc 108, kc 97, kc 121, kc 115])))) = _
  rw [ws_word _ _ (by kernel_rfl), ws_word _ _ (by kernel_rfl), ws_word _ _ (by kernel_rfl)]
  generalize wordsSigns _ = ws
  kernel_rfl
theorem w_gc : ([kc 99, kc 117, kc 116] == "gc".toList) = false := by kernel_rfl
theorem w_spec : ([kc 99, kc 117, kc 116] == "spec".toList) = false := by kernel_rfl
theorem w_cut : ([kc 99, kc 117, kc 116] == "cut".toList) = true := by kernel_rfl
theorem w_some : (some [kc 99, kc 117, kc 116] == some "cut".toList) = true := by kernel_rfl
theorem w_lays : Try.prog.laysLater = false := by kernel_rfl
theorem w_refl : Try.prog.bearsReflect = false := by kernel_rfl
theorem w_door : Try.prog.doorFits [] = true := by kernel_rfl
theorem w_strip (ws : List (List Char)) : stripLifts liftWords ([kc 99, kc 117, kc 116] :: ws) = ([], [kc 99, kc 117, kc 116] :: ws) := by kernel_rfl
theorem may_of {P : Program} {C : List Char} {ws : List (List Char)} (h : behindMainWord (wordsSigns P.initOrder.toList) = C :: ws) (h1 : (some C == some "cut".toList) = true) (hs : stripLifts liftWords (C :: ws) = ([], C :: ws)) (h2 : P.laysLater = false) (h3 : P.bearsReflect = false) (h4 : P.doorFits [] = true) : P.mayEnter = true := by
  unfold Program.mayEnter
  rw [h]
  simp only [hs, List.head?_cons, h1, h2, h3, h4]
  simp
theorem p_mayEnter : Try.prog.mayEnter = true := by
  obtain ⟨ws, h⟩ := io_words
  exact may_of h w_some (w_strip ws) w_lays w_refl w_door
theorem p_lifts : Try.prog.liftsFinal = false := by
  obtain ⟨ws, h⟩ := io_words
  unfold Program.liftsFinal Program.headLifts
  rw [h]
  kernel_rfl
theorem make_of {P : Program} {C : List Char} {ws : List (List Char)} (h : behindMainWord (wordsSigns P.initOrder.toList) = C :: ws) (h1 : (C == "gc".toList) = false) (h2 : (C == "spec".toList) = false) (h3 : (C == "cut".toList) = true) : P.make = some .cut := by
  unfold Program.make
  rw [h]
  simp only [h1, h2, h3]
  simp
theorem p_make : Try.prog.make = some .cut := by
  obtain ⟨ws, h⟩ := io_words
  exact make_of h w_gc w_spec w_cut
theorem p_laidOut : laidOutB Try.prog = true := by kernel_rfl
theorem p_maps : mapsRowed Try.prog = true := by kernel_rfl
theorem p_stops : Try.prog.stops = [] := by kernel_rfl
theorem p_knobs : Try.prog.stopKnobs = [] := by kernel_rfl
theorem p_heard : Try.prog.stopsHeard = true := by kernel_rfl
end Go.Proofs.Ythjlhookepchgaa
