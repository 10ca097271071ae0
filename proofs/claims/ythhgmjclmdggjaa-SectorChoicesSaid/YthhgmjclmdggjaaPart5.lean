/- A part of the proof of given statements: a verified condition generator for the model, and contracts of the program's functions. No condition. -/
import Derived.Test.YthhgmjclmdggjaaPart4
import Derived.Shelf.SlIterI.Keys
import Derived.Shelf.SlIterI.Sorted
import Derived.Maps.OwnSet
import Derived.Shelf.SlIterI.Collect
import Derived.Shelf.SortM.Plain
import Derived.Shelf.SortM.SortNone
import Derived.Ground.GgzProg
import Derived.Ground.SlgmProg
import Derived.KernelRfl
import Derived.Test.YthhgmjclmdggjaaPart3
import Derived.ProofKit
import Derived.Carry
import Derived.OpenShut
import Derived.WideShapes
import Derived.ChangeOld
import Derived.JoinedOf
import Derived.Test.YthhgmjclmdggjaaRows
set_option linter.unusedVariables false
set_option linter.unusedSimpArgs false
set_option linter.constructorNameAsVariable false
set_option linter.unusedVariables false
set_option linter.unusedSimpArgs false
set_option maxRecDepth 100000
set_option maxHeartbeats 1000000
namespace Go.Proofs.Ythhgmjclmdggjaa
open Go Go.Vc
theorem r_sector_power_off : Ready Try.prog 30 := by unfold Ready; kernel_rfl
noncomputable def sp_sector_power_off (F : Fs) (U : Us) : Specs := []
theorem ok_sector_power_off : SpecsOK Try.prog (sp_sector_power_off real us) := sp_nil
noncomputable def g_sector_power_off (F : Fs) (U : Us) : GLaw := fun l mm => match l, mm with
  | [.p 0 0 0], [.bk T1 [(n2, .vs [.i st]), (n3, .vs [.i off]), (n4, .vs [.rw 1]), (n5, .vs [.mh 2])], .row T0 e0 (.ds (.l8 n7) xs), .mp T6 .i (.l8 n8) M] => match Nat.beq T0 60, Nat.beq e0 64, Nat.beq T1 47, Nat.beq n2 1, Nat.beq n3 1, Nat.beq n4 1, Nat.beq n5 1, Nat.beq T6 45, Nat.beq n7 64, Nat.beq n8 64 with
    | true, true, true, true, true, true, true, true, true, true => some ⟨True, [.b (U.off st off)], [.bk 47 [(1, .vs [.i st]), (1, .vs [.i off]), (1, .vs [.rw 1]), (1, .vs [.mh 2])], .row 60 64 (.ds (.l8 64) xs), .mp 45 .i (.l8 64) M], []⟩
    | _, _, _, _, _, _, _, _, _, _ => none
  | _, _ => none
noncomputable def s_sector_power_off (F : Fs) (U : Us) : Vc.Spec := gSpec 3 0 (g_sector_power_off F U)
noncomputable def x_sector_power_off (F : Fs) (U : Us) : Cx := ⟨Try.f30.ntmps, tt F, sp_sector_power_off F U, [], [(1, ([(13, [9])], []))], [0, 1, 2], []⟩
theorem c_sector_power_off (xs : List D) (st off : Int) (M : MD) : vc real (x_sector_power_off real us) [] [] (Try.f30.body.getD .skip) ⟨zipSl 0 [.p 0 0 0], zipMe 0 [.bk 47 [(1, .vs [.i st]), (1, .vs [.i off]), (1, .vs [.rw 1]), (1, .vs [.mh 2])], .row 60 64 (.ds (.l8 64) xs), .mp 45 .i (.l8 64) M], 64⟩ (retGOk real (tt real) Try.f30.results.toList [.b (us.off st off)] [.bk 47 [(1, .vs [.i st]), (1, .vs [.i off]), (1, .vs [.rw 1]), (1, .vs [.mh 2])], .row 60 64 (.ds (.l8 64) xs), .mp 45 .i (.l8 64) M] []) := by
  generalize hU : us = U
  generalize hF : real = F
  cbv
  repeat' first | apply And.intro | refine Classical.or_iff_not_imp_left.2 (fun _ => ?_) | exact trivial
  all_goals (subst hF hU; simp only [real, us, u_off, Bool.not_eq_false, Bool.not_eq_true, decide_eq_true_eq, decide_eq_false_iff_not, Int.cast_ofNat_Int] at *)
  · rename_i h
    rw [decide_eq_true (p := 0 < off) (by omega), Bool.true_and]
  · rename_i h
    rw [decide_eq_false (p := 0 < off) (by omega), Bool.false_and]
theorem k_sector_power_off : SpecOK Try.prog 30 (s_sector_power_off real us) := by
  refine g_sound (n := 3) (q := 0) (x := x_sector_power_off real us) ⟨tt_ok, ok_sector_power_off, Go.Vc.ks_nil⟩ mixed Try.func30 rfl rfl (by kernel_rfl) (by decide) (fun j hj => by simp [x_sector_power_off]; omega) ?_
  intro l mm c rs ch news hg hl hc
  unfold g_sector_power_off at hg
  split at hg
  · split at hg
    · rename_i h0 h1 h2 h3 h4 h5 h6 h7 h8 h9
      have z0 := beq_nat h0
      have z1 := beq_nat h1
      have z2 := beq_nat h2
      have z3 := beq_nat h3
      have z4 := beq_nat h4
      have z5 := beq_nat h5
      have z6 := beq_nat h6
      have z7 := beq_nat h7
      have z8 := beq_nat h8
      have z9 := beq_nat h9
      subst z0
      subst z1
      subst z2
      subst z3
      subst z4
      subst z5
      subst z6
      subst z7
      subst z8
      subst z9
      cases hg
      exact ⟨Nat.le_of_ble_eq_true rfl, [], [], c_sector_power_off _ _ _ _⟩
    · cases hg
  · cases hg

theorem r_sector_Disk_Len : Ready Try.prog 25 := by unfold Ready; kernel_rfl
noncomputable def sp_sector_Disk_Len (F : Fs) (U : Us) : Specs := []
theorem ok_sector_Disk_Len : SpecsOK Try.prog (sp_sector_Disk_Len real us) := sp_nil
noncomputable def g_sector_Disk_Len (F : Fs) (U : Us) : GLaw := fun l mm => match l, mm with
  | [.p 0 0 0], [.bk T1 [(n2, .vs [.i st]), (n3, .vs [.i off]), (n4, .vs [.rw 1]), (n5, .vs [.mh 2])], .row T0 e0 (.ds (.l8 n7) xs), .mp T6 .i (.l8 n8) M] => match Nat.beq T0 60, Nat.beq e0 64, Nat.beq T1 47, Nat.beq n2 1, Nat.beq n3 1, Nat.beq n4 1, Nat.beq n5 1, Nat.beq T6 45, Nat.beq n7 64, Nat.beq n8 64 with
    | true, true, true, true, true, true, true, true, true, true => some ⟨True, [.i (F.int (F.lenD xs))], [.bk 47 [(1, .vs [.i st]), (1, .vs [.i off]), (1, .vs [.rw 1]), (1, .vs [.mh 2])], .row 60 64 (.ds (.l8 64) xs), .mp 45 .i (.l8 64) M], []⟩
    | _, _, _, _, _, _, _, _, _, _ => none
  | _, _ => none
noncomputable def s_sector_Disk_Len (F : Fs) (U : Us) : Vc.Spec := gSpec 3 0 (g_sector_Disk_Len F U)
noncomputable def x_sector_Disk_Len (F : Fs) (U : Us) : Cx := ⟨Try.f25.ntmps, tt F, sp_sector_Disk_Len F U, [], [], [0, 1, 2], []⟩
theorem c_sector_Disk_Len (xs : List D) (st off : Int) (M : MD) : vc real (x_sector_Disk_Len real us) [] [] (Try.f25.body.getD .skip) ⟨zipSl 0 [.p 0 0 0], zipMe 0 [.bk 47 [(1, .vs [.i st]), (1, .vs [.i off]), (1, .vs [.rw 1]), (1, .vs [.mh 2])], .row 60 64 (.ds (.l8 64) xs), .mp 45 .i (.l8 64) M], 64⟩ (retGOk real (tt real) Try.f25.results.toList [.i (real.int (real.lenD xs))] [.bk 47 [(1, .vs [.i st]), (1, .vs [.i off]), (1, .vs [.rw 1]), (1, .vs [.mh 2])], .row 60 64 (.ds (.l8 64) xs), .mp 45 .i (.l8 64) M] []) := by
  generalize hU : us = U
  generalize hF : real = F
  cbv
  repeat' first | apply And.intro | refine Classical.or_iff_not_imp_left.2 (fun _ => ?_) | exact trivial
theorem k_sector_Disk_Len : SpecOK Try.prog 25 (s_sector_Disk_Len real us) := by
  refine g_sound (n := 3) (q := 0) (x := x_sector_Disk_Len real us) ⟨tt_ok, ok_sector_Disk_Len, Go.Vc.ks_nil⟩ mixed Try.func25 rfl rfl (by kernel_rfl) (by decide) (fun j hj => by simp [x_sector_Disk_Len]; omega) ?_
  intro l mm c rs ch news hg hl hc
  unfold g_sector_Disk_Len at hg
  split at hg
  · split at hg
    · rename_i h0 h1 h2 h3 h4 h5 h6 h7 h8 h9
      have z0 := beq_nat h0
      have z1 := beq_nat h1
      have z2 := beq_nat h2
      have z3 := beq_nat h3
      have z4 := beq_nat h4
      have z5 := beq_nat h5
      have z6 := beq_nat h6
      have z7 := beq_nat h7
      have z8 := beq_nat h8
      have z9 := beq_nat h9
      subst z0
      subst z1
      subst z2
      subst z3
      subst z4
      subst z5
      subst z6
      subst z7
      subst z8
      subst z9
      cases hg
      exact ⟨Nat.le_of_ble_eq_true rfl, [], [], c_sector_Disk_Len _ _ _ _⟩
    · cases hg
  · cases hg

theorem r_sector_Disk_is : Ready Try.prog 28 := by unfold Ready; kernel_rfl
noncomputable def sp_sector_Disk_is (F : Fs) (U : Us) : Specs := []
theorem ok_sector_Disk_is : SpecsOK Try.prog (sp_sector_Disk_is real us) := sp_nil
noncomputable def g_sector_Disk_is (F : Fs) (U : Us) : GLaw := fun l mm => match l, mm with
  | [.p 0 0 0, .i i], [.bk T1 [(n2, .vs [.i st]), (n3, .vs [.i off]), (n4, .vs [.rw 1]), (n5, .vs [.mh 2])], .row T0 e0 (.ds (.l8 n7) xs), .mp T6 .i (.l8 n8) M] => match Nat.beq T0 60, Nat.beq e0 64, Nat.beq T1 47, Nat.beq n2 1, Nat.beq n3 1, Nat.beq n4 1, Nat.beq n5 1, Nat.beq T6 45, Nat.beq n7 64, Nat.beq n8 64 with
    | true, true, true, true, true, true, true, true, true, true => some ⟨True, [.b (U.isI i xs)], [.bk 47 [(1, .vs [.i st]), (1, .vs [.i off]), (1, .vs [.rw 1]), (1, .vs [.mh 2])], .row 60 64 (.ds (.l8 64) xs), .mp 45 .i (.l8 64) M], []⟩
    | _, _, _, _, _, _, _, _, _, _ => none
  | _, _ => none
noncomputable def s_sector_Disk_is (F : Fs) (U : Us) : Vc.Spec := gSpec 3 0 (g_sector_Disk_is F U)
noncomputable def x_sector_Disk_is (F : Fs) (U : Us) : Cx := ⟨Try.f28.ntmps, tt F, sp_sector_Disk_is F U, [], [], [0, 1, 2], []⟩
theorem c_sector_Disk_is (i : Int) (xs : List D) (st off : Int) (M : MD) : vc real (x_sector_Disk_is real us) [] [] (Try.f28.body.getD .skip) ⟨zipSl 0 [.p 0 0 0, .i i], zipMe 0 [.bk 47 [(1, .vs [.i st]), (1, .vs [.i off]), (1, .vs [.rw 1]), (1, .vs [.mh 2])], .row 60 64 (.ds (.l8 64) xs), .mp 45 .i (.l8 64) M], 64⟩ (retGOk real (tt real) Try.f28.results.toList [.b (us.isI i xs)] [.bk 47 [(1, .vs [.i st]), (1, .vs [.i off]), (1, .vs [.rw 1]), (1, .vs [.mh 2])], .row 60 64 (.ds (.l8 64) xs), .mp 45 .i (.l8 64) M] []) := by
  generalize hU : us = U
  generalize hF : real = F
  cbv
  repeat' first | apply And.intro | refine Classical.or_iff_not_imp_left.2 (fun _ => ?_) | exact trivial
  all_goals (subst hF hU; simp only [real, us, u_isI, Bool.not_eq_false, Bool.not_eq_true, decide_eq_true_eq, decide_eq_false_iff_not, Int.cast_ofNat_Int] at *)
  · rename_i h
    rw [decide_eq_true (p := 0 ≤ i) (by omega), Bool.true_and]
  · rename_i h
    rw [decide_eq_false (p := 0 ≤ i) (by omega), Bool.false_and]
theorem k_sector_Disk_is : SpecOK Try.prog 28 (s_sector_Disk_is real us) := by
  refine g_sound (n := 3) (q := 0) (x := x_sector_Disk_is real us) ⟨tt_ok, ok_sector_Disk_is, Go.Vc.ks_nil⟩ mixed Try.func28 rfl rfl (by kernel_rfl) (by decide) (fun j hj => by simp [x_sector_Disk_is]; omega) ?_
  intro l mm c rs ch news hg hl hc
  unfold g_sector_Disk_is at hg
  split at hg
  · split at hg
    · rename_i h0 h1 h2 h3 h4 h5 h6 h7 h8 h9
      have z0 := beq_nat h0
      have z1 := beq_nat h1
      have z2 := beq_nat h2
      have z3 := beq_nat h3
      have z4 := beq_nat h4
      have z5 := beq_nat h5
      have z6 := beq_nat h6
      have z7 := beq_nat h7
      have z8 := beq_nat h8
      have z9 := beq_nat h9
      subst z0
      subst z1
      subst z2
      subst z3
      subst z4
      subst z5
      subst z6
      subst z7
      subst z8
      subst z9
      cases hg
      exact ⟨Nat.le_of_ble_eq_true rfl, [], [], c_sector_Disk_is _ _ _ _ _⟩
    · cases hg
  · cases hg

theorem new_le (n : Int) : real.nat (real.mini (real.maxi n (real.int 0)) (real.int 4000)) ≤ 4000 := by
  show (if (4000 : Int) < (if (0 : Int) > n then 0 else n) then (4000 : Int) else (if (0 : Int) > n then 0 else n)).toNat ≤ 4000
  split <;> split at * <;> omega
theorem r_sector_New : Ready Try.prog 10 := by unfold Ready; kernel_rfl
noncomputable def sp_sector_New (F : Fs) (U : Us) : Specs := []
theorem ok_sector_New : SpecsOK Try.prog (sp_sector_New real us) := sp_nil
noncomputable def g_sector_New (F : Fs) (U : Us) : GLaw := fun l mm => match l, mm with
  | [.i n], [] => some ⟨True, [.p 0 0 0], [], [.bk 47 [(1, .vs [.i 0]), (1, .vs [.i 0]), (1, .vs [.rw 1]), (1, .vs [.mh 2])], .row 60 64 (.ds (.l8 64) (F.repD (U.nlen n) (F.dz (.l8 64)))), .mp 45 .i (.l8 64) ⟨[], 0⟩]⟩
  | _, _ => none
noncomputable def s_sector_New (F : Fs) (U : Us) : Vc.Spec := gSpec 0 3 (g_sector_New F U)
noncomputable def x_sector_New (F : Fs) (U : Us) : Cx := ⟨Try.f10.ntmps, tt F, sp_sector_New F U, [], [], [], []⟩
theorem c_sector_New (n : Int) : vc real (x_sector_New real us) [] [] (Try.f10.body.getD .skip) ⟨zipSl 0 [.i n], zipMe 0 [], 64⟩ (retGOk real (tt real) Try.f10.results.toList [.p 0 0 0] [] [.bk 47 [(1, .vs [.i 0]), (1, .vs [.i 0]), (1, .vs [.rw 1]), (1, .vs [.mh 2])], .row 60 64 (.ds (.l8 64) (real.repD (us.nlen n) (real.dz (.l8 64)))), .mp 45 .i (.l8 64) ⟨[], 0⟩]) := by
  generalize hU : us = U
  generalize hF : real = F
  have e : real.nat (real.mini (real.maxi n (real.int 0)) (real.int 4000)) = us.nlen n := by
    show (if (4000 : Int) < (if (0 : Int) > n then 0 else n) then (4000 : Int) else (if (0 : Int) > n then 0 else n)).toNat = (min (max n 0) 4000).toNat
    congr 1
    split <;> split at * <;> omega
  cbv
  repeat' first | apply And.intro | refine Classical.or_iff_not_imp_left.2 (fun _ => ?_) | exact trivial
  all_goals try (subst hF hU; simp only [real, us, Nat.le_eq, Int.cast_ofNat_Int, decide_eq_false_iff_not, decide_eq_true_eq, List.length_take, List.length_drop, List.length_append, List.length_replicate, List.length_set, List.length_cons, List.length_nil, List.length_zipWith] at *; (try simp (disch := omega) only [wrap_sm] at *); omega)
  · show F.repD (F.nat (F.mini (F.maxi n (F.int 0)) (F.int 4000))) _ = F.repD (U.nlen n) _
    subst hF hU
    rw [e]
theorem k_sector_New : SpecOK Try.prog 10 (s_sector_New real us) := by
  refine g_sound (n := 0) (q := 3) (x := x_sector_New real us) ⟨tt_ok, ok_sector_New, Go.Vc.ks_nil⟩ mixed Try.func10 rfl rfl (by kernel_rfl) (by decide) (fun j hj => by omega) ?_
  intro l mm c rs ch news hg hl hc
  unfold g_sector_New at hg
  split at hg
  · cases hg
    exact ⟨Nat.le_of_ble_eq_true rfl, [], [], c_sector_New _⟩
  · cases hg

theorem r_sector_power_step : Ready Try.prog 27 := by unfold Ready; kernel_rfl
noncomputable def sp_sector_power_step (F : Fs) (U : Us) : Specs := [(30, s_sector_power_off F U)]
theorem ok_sector_power_step : SpecsOK Try.prog (sp_sector_power_step real us) := sp_cons r_sector_power_off k_sector_power_off sp_nil
noncomputable def g_sector_power_step (F : Fs) (U : Us) : GLaw := fun l mm => match l, mm with
  | [.p 0 0 0], [.bk T1 [(n2, .vs [.i st]), (n3, .vs [.i off]), (n4, .vs [.rw 1]), (n5, .vs [.mh 2])], .row T0 e0 (.ds (.l8 n7) xs), .mp T6 .i (.l8 n8) M] => match Nat.beq T0 60, Nat.beq e0 64, Nat.beq T1 47, Nat.beq n2 1, Nat.beq n3 1, Nat.beq n4 1, Nat.beq n5 1, Nat.beq T6 45, Nat.beq n7 64, Nat.beq n8 64 with
    | true, true, true, true, true, true, true, true, true, true => some ⟨True, [.b (F.notb (U.off (F.addi st (F.int 1)) off))], [.bk 47 [(1, .vs [.i (F.addi st (F.int 1))]), (1, .vs [.i off]), (1, .vs [.rw 1]), (1, .vs [.mh 2])], .row 60 64 (.ds (.l8 64) xs), .mp 45 .i (.l8 64) M], []⟩
    | _, _, _, _, _, _, _, _, _, _ => none
  | _, _ => none
noncomputable def s_sector_power_step (F : Fs) (U : Us) : Vc.Spec := gSpec 3 0 (g_sector_power_step F U)
noncomputable def x_sector_power_step (F : Fs) (U : Us) : Cx := ⟨Try.f27.ntmps, tt F, sp_sector_power_step F U, [], [], [0, 1, 2], []⟩
theorem c_sector_power_step (xs : List D) (st off : Int) (M : MD) : vc real (x_sector_power_step real us) [] [] (Try.f27.body.getD .skip) ⟨zipSl 0 [.p 0 0 0], zipMe 0 [.bk 47 [(1, .vs [.i st]), (1, .vs [.i off]), (1, .vs [.rw 1]), (1, .vs [.mh 2])], .row 60 64 (.ds (.l8 64) xs), .mp 45 .i (.l8 64) M], 64⟩ (retGOk real (tt real) Try.f27.results.toList [.b (real.notb (us.off (real.addi st (real.int 1)) off))] [.bk 47 [(1, .vs [.i (real.addi st (real.int 1))]), (1, .vs [.i off]), (1, .vs [.rw 1]), (1, .vs [.mh 2])], .row 60 64 (.ds (.l8 64) xs), .mp 45 .i (.l8 64) M] []) := by
  generalize hU : us = U
  generalize hF : real = F
  cbv
  repeat' first | apply And.intro | refine Classical.or_iff_not_imp_left.2 (fun _ => ?_) | exact trivial
theorem k_sector_power_step : SpecOK Try.prog 27 (s_sector_power_step real us) := by
  refine g_sound (n := 3) (q := 0) (x := x_sector_power_step real us) ⟨tt_ok, ok_sector_power_step, Go.Vc.ks_nil⟩ mixed Try.func27 rfl rfl (by kernel_rfl) (by decide) (fun j hj => by simp [x_sector_power_step]; omega) ?_
  intro l mm c rs ch news hg hl hc
  unfold g_sector_power_step at hg
  split at hg
  · split at hg
    · rename_i h0 h1 h2 h3 h4 h5 h6 h7 h8 h9
      have z0 := beq_nat h0
      have z1 := beq_nat h1
      have z2 := beq_nat h2
      have z3 := beq_nat h3
      have z4 := beq_nat h4
      have z5 := beq_nat h5
      have z6 := beq_nat h6
      have z7 := beq_nat h7
      have z8 := beq_nat h8
      have z9 := beq_nat h9
      subst z0
      subst z1
      subst z2
      subst z3
      subst z4
      subst z5
      subst z6
      subst z7
      subst z8
      subst z9
      cases hg
      exact ⟨Nat.le_of_ble_eq_true rfl, [], [], c_sector_power_step _ _ _ _⟩
    · cases hg
  · cases hg

theorem r_sector_power_Steps : Ready Try.prog 26 := by unfold Ready; kernel_rfl
noncomputable def sp_sector_power_Steps (F : Fs) (U : Us) : Specs := []
theorem ok_sector_power_Steps : SpecsOK Try.prog (sp_sector_power_Steps real us) := sp_nil
noncomputable def g_sector_power_Steps (F : Fs) (U : Us) : GLaw := fun l mm => match l, mm with
  | [.p 0 0 0], [.bk T1 [(n2, .vs [.i st]), (n3, .vs [.i off]), (n4, .vs [.rw 1]), (n5, .vs [.mh 2])], .row T0 e0 (.ds (.l8 n7) xs), .mp T6 .i (.l8 n8) M] => match Nat.beq T0 60, Nat.beq e0 64, Nat.beq T1 47, Nat.beq n2 1, Nat.beq n3 1, Nat.beq n4 1, Nat.beq n5 1, Nat.beq T6 45, Nat.beq n7 64, Nat.beq n8 64 with
    | true, true, true, true, true, true, true, true, true, true => some ⟨True, [.i st], [.bk 47 [(1, .vs [.i st]), (1, .vs [.i off]), (1, .vs [.rw 1]), (1, .vs [.mh 2])], .row 60 64 (.ds (.l8 64) xs), .mp 45 .i (.l8 64) M], []⟩
    | _, _, _, _, _, _, _, _, _, _ => none
  | _, _ => none
noncomputable def s_sector_power_Steps (F : Fs) (U : Us) : Vc.Spec := gSpec 3 0 (g_sector_power_Steps F U)
noncomputable def x_sector_power_Steps (F : Fs) (U : Us) : Cx := ⟨Try.f26.ntmps, tt F, sp_sector_power_Steps F U, [], [], [0, 1, 2], []⟩
theorem c_sector_power_Steps (xs : List D) (st off : Int) (M : MD) : vc real (x_sector_power_Steps real us) [] [] (Try.f26.body.getD .skip) ⟨zipSl 0 [.p 0 0 0], zipMe 0 [.bk 47 [(1, .vs [.i st]), (1, .vs [.i off]), (1, .vs [.rw 1]), (1, .vs [.mh 2])], .row 60 64 (.ds (.l8 64) xs), .mp 45 .i (.l8 64) M], 64⟩ (retGOk real (tt real) Try.f26.results.toList [.i st] [.bk 47 [(1, .vs [.i st]), (1, .vs [.i off]), (1, .vs [.rw 1]), (1, .vs [.mh 2])], .row 60 64 (.ds (.l8 64) xs), .mp 45 .i (.l8 64) M] []) := by
  generalize hU : us = U
  generalize hF : real = F
  cbv
  repeat' first | apply And.intro | refine Classical.or_iff_not_imp_left.2 (fun _ => ?_) | exact trivial
theorem k_sector_power_Steps : SpecOK Try.prog 26 (s_sector_power_Steps real us) := by
  refine g_sound (n := 3) (q := 0) (x := x_sector_power_Steps real us) ⟨tt_ok, ok_sector_power_Steps, Go.Vc.ks_nil⟩ mixed Try.func26 rfl rfl (by kernel_rfl) (by decide) (fun j hj => by simp [x_sector_power_Steps]; omega) ?_
  intro l mm c rs ch news hg hl hc
  unfold g_sector_power_Steps at hg
  split at hg
  · split at hg
    · rename_i h0 h1 h2 h3 h4 h5 h6 h7 h8 h9
      have z0 := beq_nat h0
      have z1 := beq_nat h1
      have z2 := beq_nat h2
      have z3 := beq_nat h3
      have z4 := beq_nat h4
      have z5 := beq_nat h5
      have z6 := beq_nat h6
      have z7 := beq_nat h7
      have z8 := beq_nat h8
      have z9 := beq_nat h9
      subst z0
      subst z1
      subst z2
      subst z3
      subst z4
      subst z5
      subst z6
      subst z7
      subst z8
      subst z9
      cases hg
      exact ⟨Nat.le_of_ble_eq_true rfl, [], [], c_sector_power_Steps _ _ _ _⟩
    · cases hg
  · cases hg

theorem r_sector_power_Power : Ready Try.prog 16 := by unfold Ready; kernel_rfl
noncomputable def sp_sector_power_Power (F : Fs) (U : Us) : Specs := [(30, s_sector_power_off F U)]
theorem ok_sector_power_Power : SpecsOK Try.prog (sp_sector_power_Power real us) := sp_cons r_sector_power_off k_sector_power_off sp_nil
noncomputable def g_sector_power_Power (F : Fs) (U : Us) : GLaw := fun l mm => match l, mm with
  | [.p 0 0 0, .i a], [.bk T1 [(n2, .vs [.i st]), (n3, .vs [.i off]), (n4, .vs [.rw 1]), (n5, .vs [.mh 2])], .row T0 e0 (.ds (.l8 n7) xs), .mp T6 .i (.l8 n8) M] => match Nat.beq T0 60, Nat.beq e0 64, Nat.beq T1 47, Nat.beq n2 1, Nat.beq n3 1, Nat.beq n4 1, Nat.beq n5 1, Nat.beq T6 45, Nat.beq n7 64, Nat.beq n8 64 with
    | true, true, true, true, true, true, true, true, true, true => some ⟨True, [], [.bk 47 [(1, .vs [.i st]), (1, .vs [.i (U.pow st off a)]), (1, .vs [.rw 1]), (1, .vs [.mh 2])], .row 60 64 (.ds (.l8 64) xs), .mp 45 .i (.l8 64) M], []⟩
    | _, _, _, _, _, _, _, _, _, _ => none
  | _, _ => none
noncomputable def s_sector_power_Power (F : Fs) (U : Us) : Vc.Spec := gSpec 3 0 (g_sector_power_Power F U)
noncomputable def x_sector_power_Power (F : Fs) (U : Us) : Cx := ⟨Try.f16.ntmps, tt F, sp_sector_power_Power F U, [], [], [0, 1, 2], []⟩
theorem c_sector_power_Power (a : Int) (xs : List D) (st off : Int) (M : MD) : vc real (x_sector_power_Power real us) [] [] (Try.f16.body.getD .skip) ⟨zipSl 0 [.p 0 0 0, .i a], zipMe 0 [.bk 47 [(1, .vs [.i st]), (1, .vs [.i off]), (1, .vs [.rw 1]), (1, .vs [.mh 2])], .row 60 64 (.ds (.l8 64) xs), .mp 45 .i (.l8 64) M], 64⟩ (retGOk real (tt real) Try.f16.results.toList [] [.bk 47 [(1, .vs [.i st]), (1, .vs [.i (us.pow st off a)]), (1, .vs [.rw 1]), (1, .vs [.mh 2])], .row 60 64 (.ds (.l8 64) xs), .mp 45 .i (.l8 64) M] []) := by
  generalize hU : us = U
  generalize hF : real = F
  cbv
  repeat' first | apply And.intro | refine Classical.or_iff_not_imp_left.2 (fun _ => ?_) | exact trivial
  all_goals subst hF hU
  · have h : ¬ (u_off st off = false) := by assumption
    show off = u_pow st off a
    unfold u_pow
    rw [if_pos (by simpa using h)]
  · have h : ¬ (u_off st off = true) := by assumption
    have h1 : ¬ (decide (a ≤ (0 : Int)) = false) := by assumption
    have h2 : a ≤ 0 := by simpa using h1
    show 0 = u_pow st off a
    unfold u_pow
    rw [if_neg h, if_pos h2]
  · have h : ¬ (u_off st off = true) := by assumption
    have h1 : ¬ (decide (a ≤ (0 : Int)) = true) := by assumption
    have h2 : ¬ a ≤ 0 := by simpa using h1
    show IntKind.i64.wrap (st + if (1099511627776 : Int) < a then 1099511627776 else a) = u_pow st off a
    unfold u_pow
    rw [if_neg h, if_neg h2]
    have e : (if (1099511627776 : Int) < a then (1099511627776 : Int) else a) = min a 1099511627776 := by split <;> omega
    rw [e]
theorem k_sector_power_Power : SpecOK Try.prog 16 (s_sector_power_Power real us) := by
  refine g_sound (n := 3) (q := 0) (x := x_sector_power_Power real us) ⟨tt_ok, ok_sector_power_Power, Go.Vc.ks_nil⟩ mixed Try.func16 rfl rfl (by kernel_rfl) (by decide) (fun j hj => by simp [x_sector_power_Power]; omega) ?_
  intro l mm c rs ch news hg hl hc
  unfold g_sector_power_Power at hg
  split at hg
  · split at hg
    · rename_i h0 h1 h2 h3 h4 h5 h6 h7 h8 h9
      have z0 := beq_nat h0
      have z1 := beq_nat h1
      have z2 := beq_nat h2
      have z3 := beq_nat h3
      have z4 := beq_nat h4
      have z5 := beq_nat h5
      have z6 := beq_nat h6
      have z7 := beq_nat h7
      have z8 := beq_nat h8
      have z9 := beq_nat h9
      subst z0
      subst z1
      subst z2
      subst z3
      subst z4
      subst z5
      subst z6
      subst z7
      subst z8
      subst z9
      cases hg
      exact ⟨Nat.le_of_ble_eq_true rfl, [], [], c_sector_power_Power _ _ _ _ _⟩
    · cases hg
  · cases hg

theorem r_sector_Disk_now : Ready Try.prog 29 := by unfold Ready; kernel_rfl
noncomputable def sp_sector_Disk_now (F : Fs) (U : Us) : Specs := []
theorem ok_sector_Disk_now : SpecsOK Try.prog (sp_sector_Disk_now real us) := sp_nil
noncomputable def g_sector_Disk_now (F : Fs) (U : Us) : GLaw := fun l mm => match l, mm with
  | [.p 0 0 0, .i i], [.bk T1 [(n2, .vs [.i st]), (n3, .vs [.i off]), (n4, .vs [.rw 1]), (n5, .vs [.mh 2])], .row T0 e0 (.ds (.l8 n7) xs), .mp T6 .i (.l8 n8) M] => match Nat.beq T0 60, Nat.beq e0 64, Nat.beq T1 47, Nat.beq n2 1, Nat.beq n3 1, Nat.beq n4 1, Nat.beq n5 1, Nat.beq T6 45, Nat.beq n7 64, Nat.beq n8 64 with
    | true, true, true, true, true, true, true, true, true, true => some ⟨U.ok xs M ∧ F.pB (U.isI i xs) true, [.ag 64 (.bt (U.now xs M i))], [.bk 47 [(1, .vs [.i st]), (1, .vs [.i off]), (1, .vs [.rw 1]), (1, .vs [.mh 2])], .row 60 64 (.ds (.l8 64) xs), .mp 45 .i (.l8 64) M], []⟩
    | _, _, _, _, _, _, _, _, _, _ => none
  | _, _ => none
noncomputable def s_sector_Disk_now (F : Fs) (U : Us) : Vc.Spec := gSpec 3 0 (g_sector_Disk_now F U)
noncomputable def x_sector_Disk_now (F : Fs) (U : Us) : Cx := ⟨Try.f29.ntmps, tt F, sp_sector_Disk_now F U, [], [], [0, 1, 2], []⟩
theorem c_sector_Disk_now (i : Int) (xs : List D) (st off : Int) (M : MD) (hc : us.ok xs M ∧ real.pB (us.isI i xs) true) : vc real (x_sector_Disk_now real us) [] [] (Try.f29.body.getD .skip) ⟨zipSl 0 [.p 0 0 0, .i i], zipMe 0 [.bk 47 [(1, .vs [.i st]), (1, .vs [.i off]), (1, .vs [.rw 1]), (1, .vs [.mh 2])], .row 60 64 (.ds (.l8 64) xs), .mp 45 .i (.l8 64) M], 64⟩ (retGOk real (tt real) Try.f29.results.toList [.ag 64 (.bt (us.now xs M i))] [.bk 47 [(1, .vs [.i st]), (1, .vs [.i off]), (1, .vs [.rw 1]), (1, .vs [.mh 2])], .row 60 64 (.ds (.l8 64) xs), .mp 45 .i (.l8 64) M] []) := by
  generalize hU : us = U
  generalize hF : real = F
  cbv
  repeat' first | apply And.intro | refine Classical.or_iff_not_imp_left.2 (fun _ => ?_) | exact trivial
  all_goals (subst hF hU; obtain ⟨hk, hi⟩ := hc; have hi : (decide (0 ≤ i) && decide (i < xs.length)) = true := hi; rw [Bool.and_eq_true, decide_eq_true_eq, decide_eq_true_eq] at hi)
  · have h : ¬ (M.has (.i i) = false) := by assumption
    show _ = u_now xs M i
    unfold u_now
    rw [if_pos (by simpa using h)]
    rfl
  · exact hi
  · show i.toNat < xs.length
    omega
  · have h : ¬ (M.has (.i i) = true) := by assumption
    show _ = u_now xs M i
    unfold u_now
    rw [if_neg h]
    rfl
theorem k_sector_Disk_now : SpecOK Try.prog 29 (s_sector_Disk_now real us) := by
  refine g_sound (n := 3) (q := 0) (x := x_sector_Disk_now real us) ⟨tt_ok, ok_sector_Disk_now, Go.Vc.ks_nil⟩ mixed Try.func29 rfl rfl (by kernel_rfl) (by decide) (fun j hj => by simp [x_sector_Disk_now]; omega) ?_
  intro l mm c rs ch news hg hl hc
  unfold g_sector_Disk_now at hg
  split at hg
  · split at hg
    · rename_i h0 h1 h2 h3 h4 h5 h6 h7 h8 h9
      have z0 := beq_nat h0
      have z1 := beq_nat h1
      have z2 := beq_nat h2
      have z3 := beq_nat h3
      have z4 := beq_nat h4
      have z5 := beq_nat h5
      have z6 := beq_nat h6
      have z7 := beq_nat h7
      have z8 := beq_nat h8
      have z9 := beq_nat h9
      subst z0
      subst z1
      subst z2
      subst z3
      subst z4
      subst z5
      subst z6
      subst z7
      subst z8
      subst z9
      cases hg
      exact ⟨Nat.le_of_ble_eq_true rfl, [], [], c_sector_Disk_now _ _ _ _ _ hc⟩
    · cases hg
  · cases hg

theorem torn_s (a b : List UInt8) (n : Nat) (hb : b.length = 64) (hn : n ≤ 64) : real.splB a 0 (real.cutB (real.cutB b 0 n) 0 (real.minn (real.lenB (real.cutB b 0 n)) n)) = b.take n ++ a.drop n := by
  have h1 : real.cutB b 0 n = b.take n := rfl
  have h2 : (b.take n).length = n := by rw [List.length_take]; omega
  rw [h1]
  show a.take 0 ++ (b.take n).take (min (b.take n).length n) ++ a.drop (0 + ((b.take n).take (min (b.take n).length n)).length) = _
  rw [h2, Nat.min_self, List.take_take, Nat.min_self, h2]
  simp
theorem r_sector_torn : Ready Try.prog 33 := by unfold Ready; kernel_rfl
noncomputable def sp_sector_torn (F : Fs) (U : Us) : Specs := []
theorem ok_sector_torn : SpecsOK Try.prog (sp_sector_torn real us) := sp_nil
noncomputable def g_sector_torn (F : Fs) (U : Us) : Law
  | [.ag 64 (.bt a), .ag 64 (.bt b), .w8 c] => some (U.is64 a ∧ U.is64 b, [.val (.ag 64 (.bt (U.torn a b c)))])
  | _ => none
noncomputable def s_sector_torn (F : Fs) (U : Us) : Vc.Spec := pureSpec F false [.keep, .keep, .keep] (g_sector_torn F U)
noncomputable def x_sector_torn (F : Fs) (U : Us) : Cx := ⟨Try.f33.ntmps, tt F, sp_sector_torn F U, [], [(4, ([(3, [1])], []))], [], []⟩
theorem c_sector_torn (a b : List UInt8) (c : UInt8) (hc : us.is64 a ∧ us.is64 b) : vc real (x_sector_torn real us) [] [] (Try.f33.body.getD .skip) ⟨zipSl 0 [.ag 64 (.bt a), .ag 64 (.bt b), .w8 c], [], 64⟩ (retOk real (tt real) false Try.f33.results.toList [.val (.ag 64 (.bt (us.torn a b c)))]) := by
  generalize hU : us = U
  generalize hF : real = F
  have ha : a.length = 64 := hc.1
  have hb : b.length = 64 := hc.2
  have hl : c.toNat % 64 < 64 := Nat.mod_lt _ (by decide)
  have hm : (c % 64).toNat = c.toNat % 64 := by rw [UInt8.toNat_mod]; rfl
  obtain ⟨n, hn⟩ : ∃ n : Nat, n = c.toNat % 64 := ⟨_, rfl⟩
  rw [← hn] at hl hm
  have hw : IntKind.i64.wrap ((c % 64).toNat : Int) = (n : Int) := by rw [hm, wrap_sm (by omega) (by omega)]
  cbv
  repeat' first | apply And.intro | refine Classical.or_iff_not_imp_left.2 (fun _ => ?_) | exact trivial
  all_goals subst hF hU
  · show ((64 : UInt8).toNat : Int) ≠ 0
    decide
  · show (0 : Int) ≤ 64
    decide
  · show (64 : Int).toNat ≤ 64
    decide
  · show (0 : Int) ≤ 64
    decide
  · show (64 : Int).toNat ≤ 64
    decide
  · show 0 + (64 : Int).toNat ≤ b.length
    rw [hb]; decide
  · show 0 + (64 : Int).toNat ≤ 64
    decide
  · have h : ¬ ((c == 255) = false) := by assumption
    have e : c = 255 := by simpa using h
    show real.splB a 0 (real.cutB (real.cutB b 0 64) 0 (real.minn (real.lenB (real.cutB b 0 64)) 64)) = u_torn a b c
    unfold u_torn
    rw [if_pos e]
    exact torn_s a b 64 hb (Nat.le_refl _)
  · show (0 : Int) ≤ IntKind.i64.wrap ((c % 64).toNat : Int)
    rw [hw]; exact Int.natCast_nonneg n
  · show (IntKind.i64.wrap ((c % 64).toNat : Int)).toNat ≤ 64
    rw [hw, Int.toNat_natCast]; omega
  · show (0 : Int) ≤ IntKind.i64.wrap ((c % 64).toNat : Int)
    rw [hw]; exact Int.natCast_nonneg n
  · show (IntKind.i64.wrap ((c % 64).toNat : Int)).toNat ≤ 64
    rw [hw, Int.toNat_natCast]; omega
  · show 0 + (IntKind.i64.wrap ((c % 64).toNat : Int)).toNat ≤ b.length
    rw [hw, hb, Int.toNat_natCast]; omega
  · show 0 + (IntKind.i64.wrap ((c % 64).toNat : Int)).toNat ≤ 64
    rw [hw, Int.toNat_natCast]; omega
  · have h : ¬ ((c == 255) = true) := by assumption
    have e : ¬ c = 255 := by simpa using h
    show real.splB a 0 (real.cutB (real.cutB b 0 (IntKind.i64.wrap ((c % 64).toNat : Int)).toNat) 0 (real.minn (real.lenB (real.cutB b 0 (IntKind.i64.wrap ((c % 64).toNat : Int)).toNat)) (IntKind.i64.wrap ((c % 64).toNat : Int)).toNat)) = u_torn a b c
    unfold u_torn
    rw [if_neg e, hw, ← hn]
    exact torn_s a b n hb (by omega)
theorem k_sector_torn : SpecOK Try.prog 33 (s_sector_torn real us) := by
  refine pure_sound (x := x_sector_torn real us) ⟨tt_ok, ok_sector_torn, Go.Vc.ks_nil⟩ mixed Try.func33 rfl rfl (by kernel_rfl) ?_
  intro l c rs hg hc
  unfold g_sector_torn at hg
  split at hg
  · cases hg; exact ⟨Nat.le_of_ble_eq_true rfl, [], [], c_sector_torn _ _ _ hc⟩
  · cases hg

end Go.Proofs.Ythhgmjclmdggjaa
set_option linter.unusedVariables false
set_option linter.unusedSimpArgs false
set_option maxRecDepth 100000
set_option maxHeartbeats 1000000
namespace Go.Proofs.Ythhgmjclmdggjaa
open Go Go.Vc
theorem nn_t {b : Bool} (h : ¬ real.pB (real.notb (real.notb b)) false) : b = true := by
  cases b with
  | true => rfl
  | false => exact absurd rfl h
theorem nn_f {b : Bool} (h : ¬ real.pB (real.notb (real.notb b)) true) : b = false := by
  cases b with
  | false => rfl
  | true => exact absurd rfl h
theorem n_t {b : Bool} (h : ¬ real.pB (real.notb b) false) : b = false := by
  cases b with
  | false => rfl
  | true => exact absurd rfl h
theorem n_f {b : Bool} (h : ¬ real.pB (real.notb b) true) : b = true := by
  cases b with
  | true => rfl
  | false => exact absurd rfl h
theorem p_t {b : Bool} (h : ¬ real.pB b false) : b = true := by
  cases b with
  | true => rfl
  | false => exact absurd rfl h
theorem p_f {b : Bool} (h : ¬ real.pB b true) : b = false := by
  cases b with
  | false => rfl
  | true => exact absurd rfl h
theorem wE_off {st off i : Int} {xs : List D} {b : List UInt8} (h : u_off (IntKind.i64.wrap (st + 1)) off = true) : u_wE st off xs i b = 61 := by
  unfold u_wE; rw [if_pos h]
theorem wE_len {st off i : Int} {xs : List D} {b : List UInt8} (h : u_off (IntKind.i64.wrap (st + 1)) off = false) (h2 : 64 < b.length) : u_wE st off xs i b = 60 := by
  unfold u_wE; rw [if_neg (by rw [h]; decide), decide_eq_false (by omega), Bool.and_false]; rfl
theorem wE_no {st off i : Int} {xs : List D} {b : List UInt8} (h : u_off (IntKind.i64.wrap (st + 1)) off = false) (h2 : u_isI i xs = false) : u_wE st off xs i b = 60 := by
  unfold u_wE; rw [if_neg (by rw [h]; decide), h2]; rfl
theorem wE_ok {st off i : Int} {xs : List D} {b : List UInt8} (h : u_off (IntKind.i64.wrap (st + 1)) off = false) (h2 : u_isI i xs = true) (h3 : b.length ≤ 64) : u_wE st off xs i b = 0 := by
  unfold u_wE; rw [if_neg (by rw [h]; decide), h2, decide_eq_true h3]; rfl
theorem wM_no {st off i : Int} {xs : List D} {M : MD} {b : List UInt8} (h : u_wE st off xs i b ≠ 0) : u_wM st off xs M i b = M := by
  unfold u_wM; rw [if_neg h]
theorem wM_ok {st off i : Int} {xs : List D} {M : MD} {b : List UInt8} (h : u_wE st off xs i b = 0) : u_wM st off xs M i b = M.set (.i i) (.l8 (b ++ (u_now xs M i).drop b.length)) := by
  unfold u_wM; rw [if_pos h]
theorem MD.find_mem : ∀ {l : List (Nat × D × D)} {k d : D}, MD.find l k = some d → ∃ b, (b, k, d) ∈ l
  | [], k, d, h => by simp [MD.find] at h
  | (b, k', d') :: l, k, d, h => by
    simp only [MD.find] at h
    split at h
    · rename_i e; cases h; subst e; exact ⟨b, by simp⟩
    · obtain ⟨b2, hb⟩ := MD.find_mem h; exact ⟨b2, by simp [hb]⟩
theorem now_len {xs : List D} {M : MD} {i : Int} (h : u_ok xs M) (hi : u_isI i xs = true) : (u_now xs M i).length = 64 := by
  have hi : (decide (0 ≤ i) && decide (i < xs.length)) = true := hi
  rw [Bool.and_eq_true, decide_eq_true_eq, decide_eq_true_eq] at hi
  unfold u_now
  split
  · rename_i hh
    unfold MD.has at hh
    cases hf : MD.find M.es (.i i) with
    | none => rw [hf] at hh; cases hh
    | some d =>
      obtain ⟨b, hb⟩ := MD.find_mem hf
      obtain ⟨n, l, h1, h2, h3, h4⟩ := h.2.2.1 _ hb
      have h3 : d = .l8 l := h3
      unfold MD.get
      rw [hf, h3]
      exact h4
  · have hj : i.toNat < xs.length := by omega
    have hm : xs.getD i.toNat D.no ∈ xs := by
      rw [List.getD_eq_getElem?_getD, List.getElem?_eq_getElem hj]
      exact List.getElem_mem hj
    obtain ⟨l, h1, h2⟩ := h.2.1 _ hm
    rw [h1]; exact h2
attribute [local irreducible] u_off u_isI u_now u_ok u_wE
theorem r_sector_Disk_Write_b : Ready Try.prog 11 := by unfold Ready; kernel_rfl
noncomputable def sp_sector_Disk_Write_b (F : Fs) (U : Us) : Specs := [(27, s_sector_power_step F U), (28, s_sector_Disk_is F U), (29, s_sector_Disk_now F U)]
theorem ok_sector_Disk_Write_b : SpecsOK Try.prog (sp_sector_Disk_Write_b real us) := sp_cons r_sector_power_step k_sector_power_step (sp_cons r_sector_Disk_is k_sector_Disk_is (sp_cons r_sector_Disk_now k_sector_Disk_now sp_nil))
noncomputable def g_sector_Disk_Write_b (F : Fs) (U : Us) : GLaw := fun l mm => match l, mm with
  | [.p 0 0 0, .i i, .rb 1 (.bt b)], [.bk T1 [(n2, .vs [.i st]), (n3, .vs [.i off]), (n4, .vs [.rw 1]), (n5, .vs [.mh 2])], .row T0 e0 (.ds (.l8 n7) xs), .mp T6 .i (.l8 n8) M] => match Nat.beq T0 60, Nat.beq e0 64, Nat.beq T1 47, Nat.beq n2 1, Nat.beq n3 1, Nat.beq n4 1, Nat.beq n5 1, Nat.beq T6 45, Nat.beq n7 64, Nat.beq n8 64 with
    | true, true, true, true, true, true, true, true, true, true => some ⟨U.ok xs M ∧ F.pLe (F.lenB b) 1000000000, [.i (U.wE st off xs i b)], [.bk 47 [(1, .vs [.i (F.addi st (F.int 1))]), (1, .vs [.i off]), (1, .vs [.rw 1]), (1, .vs [.mh 2])], .row 60 64 (.ds (.l8 64) xs), .mp 45 .i (.l8 64) (U.wM st off xs M i b)], []⟩
    | _, _, _, _, _, _, _, _, _, _ => none
  | _, _ => none
noncomputable def s_sector_Disk_Write_b (F : Fs) (U : Us) : Vc.Spec := gSpec 3 0 (g_sector_Disk_Write_b F U)
noncomputable def x_sector_Disk_Write_b (F : Fs) (U : Us) : Cx := ⟨Try.f11.ntmps, tt F, sp_sector_Disk_Write_b F U, [], [(7, ([(5, [3])], []))], [0, 1, 2], []⟩
theorem c_sector_Disk_Write_b (b : List UInt8) (i : Int) (xs : List D) (st off : Int) (M : MD) (hc : us.ok xs M ∧ real.pLe (real.lenB b) 1000000000) : vc real (x_sector_Disk_Write_b real us) [] [] (Try.f11.body.getD .skip) ⟨zipSl 0 [.p 0 0 0, .i i, .rb 1 (.bt b)], zipMe 0 [.bk 47 [(1, .vs [.i st]), (1, .vs [.i off]), (1, .vs [.rw 1]), (1, .vs [.mh 2])], .row 60 64 (.ds (.l8 64) xs), .mp 45 .i (.l8 64) M], 64⟩ (retGOk real (tt real) Try.f11.results.toList [.i (us.wE st off xs i b)] [.bk 47 [(1, .vs [.i (real.addi st (real.int 1))]), (1, .vs [.i off]), (1, .vs [.rw 1]), (1, .vs [.mh 2])], .row 60 64 (.ds (.l8 64) xs), .mp 45 .i (.l8 64) (us.wM st off xs M i b)] []) := by
  generalize hU : us = U
  generalize hF : real = F
  obtain ⟨hk, hb⟩ := hc
  cbv
  repeat' first | apply And.intro | refine Classical.or_iff_not_imp_left.2 (fun _ => ?_) | exact trivial
  all_goals subst hF hU
  · have o : u_off (IntKind.i64.wrap (st + 1)) off = true := nn_t (by assumption)
    exact (wE_off o).symm
  · have o : u_off (IntKind.i64.wrap (st + 1)) off = true := nn_t (by assumption)
    exact (wM_no (by rw [wE_off o]; decide)).symm
  · have o : u_off (IntKind.i64.wrap (st + 1)) off = false := nn_f (by assumption)
    have l : 64 < b.length := lt_g (by assumption)
    exact (wE_len o l).symm
  · have o : u_off (IntKind.i64.wrap (st + 1)) off = false := nn_f (by assumption)
    have l : 64 < b.length := lt_g (by assumption)
    exact (wM_no (by rw [wE_len o l]; decide)).symm
  · exact hk
  · exact n_f (by assumption)
  · show 0 + 64 ≤ 64
    decide
  · have o : u_off (IntKind.i64.wrap (st + 1)) off = false := nn_f (by assumption)
    have i0 : u_isI i xs = true := n_f (by assumption)
    have l : b.length ≤ 64 := ge_g (by assumption)
    exact (wE_ok o i0 l).symm
  · have o : u_off (IntKind.i64.wrap (st + 1)) off = false := nn_f (by assumption)
    have i0 : u_isI i xs = true := n_f (by assumption)
    have l : b.length ≤ 64 := ge_g (by assumption)
    have hn := now_len hk i0
    refine Eq.trans ?_ (wM_ok (wE_ok o i0 l)).symm
    show M.set (.i i) (.l8 ((u_now xs M i).take 0 ++ b.take (min b.length 64) ++ (u_now xs M i).drop (0 + (b.take (min b.length 64)).length))) = _
    have e : b.take (min b.length 64) = b := List.take_of_length_le (by omega)
    rw [e, Nat.zero_add]
    rfl
  · have o : u_off (IntKind.i64.wrap (st + 1)) off = false := nn_f (by assumption)
    have i0 : u_isI i xs = false := n_t (by assumption)
    exact (wE_no o i0).symm
  · have o : u_off (IntKind.i64.wrap (st + 1)) off = false := nn_f (by assumption)
    have i0 : u_isI i xs = false := n_t (by assumption)
    exact (wM_no (by rw [wE_no o i0]; decide)).symm
theorem k_sector_Disk_Write_b : SpecOK Try.prog 11 (s_sector_Disk_Write_b real us) := by
  refine g_sound (n := 3) (q := 0) (x := x_sector_Disk_Write_b real us) ⟨tt_ok, ok_sector_Disk_Write_b, Go.Vc.ks_nil⟩ mixed Try.func11 rfl rfl (by kernel_rfl) (by decide) (fun j hj => by simp [x_sector_Disk_Write_b]; omega) ?_
  intro l mm c rs ch news hg hl hc
  unfold g_sector_Disk_Write_b at hg
  split at hg
  · split at hg
    · rename_i h0 h1 h2 h3 h4 h5 h6 h7 h8 h9
      have z0 := beq_nat h0
      have z1 := beq_nat h1
      have z2 := beq_nat h2
      have z3 := beq_nat h3
      have z4 := beq_nat h4
      have z5 := beq_nat h5
      have z6 := beq_nat h6
      have z7 := beq_nat h7
      have z8 := beq_nat h8
      have z9 := beq_nat h9
      subst z0
      subst z1
      subst z2
      subst z3
      subst z4
      subst z5
      subst z6
      subst z7
      subst z8
      subst z9
      cases hg
      exact ⟨Nat.le_of_ble_eq_true rfl, [], [], c_sector_Disk_Write_b _ _ _ _ _ _ hc⟩
    · cases hg
  · cases hg

noncomputable def s_sector_Disk_Write (F : Fs) (U : Us) : Vc.Spec := rbSpec F [.keep, .keep, .row (.kB)] (s_sector_Disk_Write_b F U)
theorem r_sector_Disk_Write : Ready Try.prog 11 := by unfold Ready; kernel_rfl
theorem k_sector_Disk_Write : SpecOK Try.prog 11 (s_sector_Disk_Write real us) := rb_ok k_sector_Disk_Write_b
theorem r_sector_Disk_Read_o : Ready Try.prog 12 := by unfold Ready; kernel_rfl
noncomputable def sp_sector_Disk_Read_o (F : Fs) (U : Us) : Specs := [(30, s_sector_power_off F U), (28, s_sector_Disk_is F U), (29, s_sector_Disk_now F U)]
theorem ok_sector_Disk_Read_o : SpecsOK Try.prog (sp_sector_Disk_Read_o real us) := sp_cons r_sector_power_off k_sector_power_off (sp_cons r_sector_Disk_is k_sector_Disk_is (sp_cons r_sector_Disk_now k_sector_Disk_now sp_nil))
noncomputable def g_sector_Disk_Read_o (F : Fs) (U : Us) : GLaw := fun l mm => match l, mm with
  | [.p 0 0 0, .i i], [.bk T1 [(n2, .vs [.i st]), (n3, .vs [.i off]), (n4, .vs [.rw 1]), (n5, .vs [.mh 2])], .row T0 e0 (.ds (.l8 n7) xs), .mp T6 .i (.l8 n8) M] => match Nat.beq T0 60, Nat.beq e0 64, Nat.beq T1 47, Nat.beq n2 1, Nat.beq n3 1, Nat.beq n4 1, Nat.beq n5 1, Nat.beq T6 45, Nat.beq n7 64, Nat.beq n8 64 with
    | true, true, true, true, true, true, true, true, true, true => some ⟨U.ok xs M ∧ F.pB (F.eqi (U.rE st off xs i) 0) true, [.sl 3 0 0 1 0 64, .i 0], [.bk 47 [(1, .vs [.i st]), (1, .vs [.i off]), (1, .vs [.rw 1]), (1, .vs [.mh 2])], .row 60 64 (.ds (.l8 64) xs), .mp 45 .i (.l8 64) M], [.bk 60 [(64, .bt (U.now xs M i))]]⟩
    | _, _, _, _, _, _, _, _, _, _ => none
  | _, _ => none
noncomputable def s_sector_Disk_Read_o (F : Fs) (U : Us) : Vc.Spec := gSpec 3 1 (g_sector_Disk_Read_o F U)
noncomputable def x_sector_Disk_Read_o (F : Fs) (U : Us) : Cx := ⟨Try.f12.ntmps, tt F, sp_sector_Disk_Read_o F U, [], [], [0, 1, 2], []⟩
theorem c_sector_Disk_Read_o (i : Int) (xs : List D) (st off : Int) (M : MD) (hc : us.ok xs M ∧ real.pB (real.eqi (us.rE st off xs i) 0) true) : vc real (x_sector_Disk_Read_o real us) [] [] (Try.f12.body.getD .skip) ⟨zipSl 0 [.p 0 0 0, .i i], zipMe 0 [.bk 47 [(1, .vs [.i st]), (1, .vs [.i off]), (1, .vs [.rw 1]), (1, .vs [.mh 2])], .row 60 64 (.ds (.l8 64) xs), .mp 45 .i (.l8 64) M], 64⟩ (retGOk real (tt real) Try.f12.results.toList [.sl 3 0 0 1 0 64, .i 0] [.bk 47 [(1, .vs [.i st]), (1, .vs [.i off]), (1, .vs [.rw 1]), (1, .vs [.mh 2])], .row 60 64 (.ds (.l8 64) xs), .mp 45 .i (.l8 64) M] [.bk 60 [(64, .bt (us.now xs M i))]]) := by
  generalize hU : us = U
  generalize hF : real = F
  obtain ⟨hk, hE⟩ := hc
  have hE : decide (u_rE st off xs i = 0) = true := hE
  rw [decide_eq_true_eq] at hE
  have e1 : u_off st off = false := by
    cases h : u_off st off with
    | false => rfl
    | true => unfold u_rE at hE; rw [if_pos h] at hE; cases hE
  have e2 : u_isI i xs = true := by
    cases h : u_isI i xs with
    | true => rfl
    | false => unfold u_rE at hE; rw [if_neg (by rw [e1]; decide), if_neg (by rw [h]; decide)] at hE; cases hE
  cbv
  repeat' first | apply And.intro | refine Classical.or_iff_not_imp_left.2 (fun _ => ?_) | exact trivial
  all_goals subst hF hU
  · rename_i h; exact h e1
  · rename_i h; exact h (by show (!u_isI i xs) = false; rw [e2]; rfl)
  · exact hk
  · exact e2
  · rfl
theorem k_sector_Disk_Read_o : SpecOK Try.prog 12 (s_sector_Disk_Read_o real us) := by
  refine g_sound (n := 3) (q := 1) (x := x_sector_Disk_Read_o real us) ⟨tt_ok, ok_sector_Disk_Read_o, Go.Vc.ks_nil⟩ mixed Try.func12 rfl rfl (by kernel_rfl) (by decide) (fun j hj => by simp [x_sector_Disk_Read_o]; omega) ?_
  intro l mm c rs ch news hg hl hc
  unfold g_sector_Disk_Read_o at hg
  split at hg
  · split at hg
    · rename_i h0 h1 h2 h3 h4 h5 h6 h7 h8 h9
      have z0 := beq_nat h0
      have z1 := beq_nat h1
      have z2 := beq_nat h2
      have z3 := beq_nat h3
      have z4 := beq_nat h4
      have z5 := beq_nat h5
      have z6 := beq_nat h6
      have z7 := beq_nat h7
      have z8 := beq_nat h8
      have z9 := beq_nat h9
      subst z0
      subst z1
      subst z2
      subst z3
      subst z4
      subst z5
      subst z6
      subst z7
      subst z8
      subst z9
      cases hg
      exact ⟨Nat.le_of_ble_eq_true rfl, [], [], c_sector_Disk_Read_o _ _ _ _ _ hc⟩
    · cases hg
  · cases hg

theorem r_sector_Disk_Read_n : Ready Try.prog 12 := by unfold Ready; kernel_rfl
noncomputable def sp_sector_Disk_Read_n (F : Fs) (U : Us) : Specs := [(30, s_sector_power_off F U), (28, s_sector_Disk_is F U), (29, s_sector_Disk_now F U)]
theorem ok_sector_Disk_Read_n : SpecsOK Try.prog (sp_sector_Disk_Read_n real us) := sp_cons r_sector_power_off k_sector_power_off (sp_cons r_sector_Disk_is k_sector_Disk_is (sp_cons r_sector_Disk_now k_sector_Disk_now sp_nil))
noncomputable def g_sector_Disk_Read_n (F : Fs) (U : Us) : GLaw := fun l mm => match l, mm with
  | [.p 0 0 0, .i i], [.bk T1 [(n2, .vs [.i st]), (n3, .vs [.i off]), (n4, .vs [.rw 1]), (n5, .vs [.mh 2])], .row T0 e0 (.ds (.l8 n7) xs), .mp T6 .i (.l8 n8) M] => match Nat.beq T0 60, Nat.beq e0 64, Nat.beq T1 47, Nat.beq n2 1, Nat.beq n3 1, Nat.beq n4 1, Nat.beq n5 1, Nat.beq T6 45, Nat.beq n7 64, Nat.beq n8 64 with
    | true, true, true, true, true, true, true, true, true, true => some ⟨U.ok xs M ∧ F.pB (F.eqi (U.rE st off xs i) 0) false, [.nl, .i (U.rE st off xs i)], [.bk 47 [(1, .vs [.i st]), (1, .vs [.i off]), (1, .vs [.rw 1]), (1, .vs [.mh 2])], .row 60 64 (.ds (.l8 64) xs), .mp 45 .i (.l8 64) M], []⟩
    | _, _, _, _, _, _, _, _, _, _ => none
  | _, _ => none
noncomputable def s_sector_Disk_Read_n (F : Fs) (U : Us) : Vc.Spec := gSpec 3 0 (g_sector_Disk_Read_n F U)
noncomputable def x_sector_Disk_Read_n (F : Fs) (U : Us) : Cx := ⟨Try.f12.ntmps, tt F, sp_sector_Disk_Read_n F U, [], [], [0, 1, 2], []⟩
theorem c_sector_Disk_Read_n (i : Int) (xs : List D) (st off : Int) (M : MD) (hc : us.ok xs M ∧ real.pB (real.eqi (us.rE st off xs i) 0) false) : vc real (x_sector_Disk_Read_n real us) [] [] (Try.f12.body.getD .skip) ⟨zipSl 0 [.p 0 0 0, .i i], zipMe 0 [.bk 47 [(1, .vs [.i st]), (1, .vs [.i off]), (1, .vs [.rw 1]), (1, .vs [.mh 2])], .row 60 64 (.ds (.l8 64) xs), .mp 45 .i (.l8 64) M], 64⟩ (retGOk real (tt real) Try.f12.results.toList [.nl, .i (us.rE st off xs i)] [.bk 47 [(1, .vs [.i st]), (1, .vs [.i off]), (1, .vs [.rw 1]), (1, .vs [.mh 2])], .row 60 64 (.ds (.l8 64) xs), .mp 45 .i (.l8 64) M] []) := by
  generalize hU : us = U
  generalize hF : real = F
  obtain ⟨hk, hE⟩ := hc
  have hE : decide (u_rE st off xs i = 0) = false := hE
  rw [decide_eq_false_iff_not] at hE
  cbv
  repeat' first | apply And.intro | refine Classical.or_iff_not_imp_left.2 (fun _ => ?_) | exact trivial
  all_goals subst hF hU
  · rename_i h
    show 61 = u_rE st off xs i
    have o : u_off st off = true := p_t (by assumption)
    unfold u_rE; rw [if_pos o]
  · rename_i h1 h
    show 60 = u_rE st off xs i
    have o : u_off st off = false := p_f (by assumption)
    have i0 : u_isI i xs = false := n_t (by assumption)
    unfold u_rE; rw [if_neg (by rw [o]; decide), if_neg (by rw [i0]; decide)]
  all_goals first
    | exact hk
    | (have o : u_off st off = false := p_f (by assumption)
       have i0 : u_isI i xs = true := n_f (by assumption)
       exfalso
       refine hE ?_
       unfold u_rE; rw [if_neg (by rw [o]; decide), if_pos i0])
theorem k_sector_Disk_Read_n : SpecOK Try.prog 12 (s_sector_Disk_Read_n real us) := by
  refine g_sound (n := 3) (q := 0) (x := x_sector_Disk_Read_n real us) ⟨tt_ok, ok_sector_Disk_Read_n, Go.Vc.ks_nil⟩ mixed Try.func12 rfl rfl (by kernel_rfl) (by decide) (fun j hj => by simp [x_sector_Disk_Read_n]; omega) ?_
  intro l mm c rs ch news hg hl hc
  unfold g_sector_Disk_Read_n at hg
  split at hg
  · split at hg
    · rename_i h0 h1 h2 h3 h4 h5 h6 h7 h8 h9
      have z0 := beq_nat h0
      have z1 := beq_nat h1
      have z2 := beq_nat h2
      have z3 := beq_nat h3
      have z4 := beq_nat h4
      have z5 := beq_nat h5
      have z6 := beq_nat h6
      have z7 := beq_nat h7
      have z8 := beq_nat h8
      have z9 := beq_nat h9
      subst z0
      subst z1
      subst z2
      subst z3
      subst z4
      subst z5
      subst z6
      subst z7
      subst z8
      subst z9
      cases hg
      exact ⟨Nat.le_of_ble_eq_true rfl, [], [], c_sector_Disk_Read_n _ _ _ _ _ hc⟩
    · cases hg
  · cases hg

end Go.Proofs.Ythhgmjclmdggjaa
set_option linter.unusedVariables false
set_option linter.unusedSimpArgs false
set_option maxRecDepth 100000
set_option maxHeartbeats 1000000
namespace Go.Proofs.Ythhgmjclmdggjaa
open Go Go.Vc
/-! ## Plain words about disks -/
theorem nodup_le : ∀ (n : Nat) (l : List Int), l.Nodup → (∀ x ∈ l, 0 ≤ x ∧ x < (n : Int)) → l.length ≤ n
  | 0, l, hn, h => by
    cases l with
    | nil => exact Nat.le_refl _
    | cons a r => have := h a (by simp); omega
  | n + 1, l, hn, h => by
    by_cases hm : (n : Int) ∈ l
    · have h1 := nodup_le n (l.erase (n : Int)) (hn.erase _) (fun x hx => by
        rw [hn.mem_erase_iff] at hx
        have := h x hx.2
        have h2 := hx.1
        omega)
      rw [List.length_erase_of_mem hm] at h1
      omega
    · have h1 := nodup_le n l hn (fun x hx => by
        have := h x hx
        have h2 : x ≠ (n : Int) := fun e => hm (e ▸ hx)
        omega)
      omega
theorem MD.find_of_mem : ∀ {l : List (Nat × D × D)} {e : Nat × D × D}, (l.map (·.2.1)).Nodup → e ∈ l → MD.find l e.2.1 = some e.2.2
  | [], e, hn, h => by simp at h
  | (b, k', d') :: l, e, hn, h => by
    simp only [List.map_cons, List.nodup_cons] at hn
    simp only [MD.find]
    simp only [List.mem_cons] at h
    rcases h with rfl | h
    · simp
    · have hne : k' ≠ e.2.1 := fun e2 => hn.1 (e2 ▸ List.mem_map_of_mem h)
      rw [if_neg hne]
      exact MD.find_of_mem hn.2 h
theorem MD.find_upd : ∀ (l : List (Nat × D × D)) (k d k2 : D), (MD.find l k).isSome → MD.find (MD.upd l k d) k2 = if k2 = k then some d else MD.find l k2
  | [], k, d, k2, h => by simp [MD.find] at h
  | (b, k', d') :: l, k, d, k2, h => by
    simp only [MD.upd, MD.find] at h ⊢
    by_cases e : k' = k
    · subst e
      rw [if_pos rfl]
      simp only [MD.find]
      by_cases e2 : k2 = k'
      · subst e2; simp
      · rw [if_neg (fun x => e2 x.symm), if_neg e2, if_neg (fun x => e2 x.symm)]
    · rw [if_neg e] at h
      rw [if_neg e]
      simp only [MD.find]
      rw [MD.find_upd l k d k2 h]
      by_cases e2 : k' = k2
      · subst e2; rw [if_pos rfl, if_neg e, if_pos rfl]
      · rw [if_neg e2, if_neg e2]
theorem MD.find_app : ∀ (l : List (Nat × D × D)) (b : Nat) (k d k2 : D), MD.find l k = none → MD.find (l ++ [(b, k, d)]) k2 = if k2 = k then some d else MD.find l k2
  | [], b, k, d, k2, h => by
    simp only [List.nil_append, MD.find]
    by_cases e : k = k2
    · subst e; simp
    · rw [if_neg e, if_neg (fun x => e x.symm)]
  | (b', k', d') :: l, b, k, d, k2, h => by
    simp only [List.cons_append, MD.find] at h ⊢
    by_cases e : k' = k
    · rw [if_pos e] at h; cases h
    · rw [if_neg e] at h
      rw [MD.find_app l b k d k2 h]
      by_cases e2 : k' = k2
      · subst e2; rw [if_pos rfl, if_neg e, if_pos rfl]
      · rw [if_neg e2, if_neg e2]
theorem MD.find_set (M : MD) (k d k2 : D) : MD.find (M.set k d).es k2 = if k2 = k then some d else MD.find M.es k2 := by
  unfold MD.set MD.has
  cases h : MD.find M.es k with
  | none => simp only [Option.isSome_none, Bool.false_eq_true, if_false]; exact MD.find_app _ _ _ _ _ h
  | some x => simp only [Option.isSome_some, if_true]; exact MD.find_upd _ _ _ _ (by rw [h]; rfl)
theorem MD.get_eq (M : MD) (k z : D) : M.get k z = (MD.find M.es k).getD z := rfl
theorem MD.has_eq (M : MD) (k : D) : M.has k = (MD.find M.es k).isSome := rfl
theorem ok_find {xs : List D} {M : MD} (h : u_ok xs M) {i : Int} {d : D} (hf : MD.find M.es (.i i) = some d) : 0 ≤ i ∧ i < xs.length ∧ ∃ l : List UInt8, d = .l8 l ∧ l.length = 64 := by
  obtain ⟨b, hb⟩ := MD.find_mem hf
  obtain ⟨n, l, h1, h2, h3, h4⟩ := h.2.2.1 _ hb
  have h1 : D.i i = .i (n : Int) := h1
  cases h1
  exact ⟨Int.natCast_nonneg n, by omega, l, h3, h4⟩
theorem upd_mem : ∀ {l : List (Nat × D × D)} {k d : D} {e : Nat × D × D}, e ∈ MD.upd l k d → e ∈ l ∨ (e.2.1 = k ∧ e.2.2 = d)
  | [], k, d, e, h => by simp [MD.upd] at h
  | (b, k', d') :: l, k, d, e, h => by
    simp only [MD.upd] at h
    split at h
    · rename_i e2
      simp only [List.mem_cons] at h ⊢
      rcases h with rfl | h
      · exact .inr ⟨e2, rfl⟩
      · exact .inl (.inr h)
    · simp only [List.mem_cons] at h ⊢
      rcases h with rfl | h
      · exact .inl (.inl rfl)
      · rcases upd_mem h with h | h
        · exact .inl (.inr h)
        · exact .inr h
theorem ok_set {xs : List D} {M : MD} (h : u_ok xs M) {i : Nat} {l : List UInt8} (hi : i < xs.length) (hl : l.length = 64) : u_ok xs (M.set (.i (i : Int)) (.l8 l)) := by
  refine ⟨h.1, h.2.1, fun e he => ?_, MD.set_ok h.2.2.2 _ _⟩
  unfold MD.set at he
  split at he
  · rcases upd_mem he with he | ⟨h1, h2⟩
    · exact h.2.2.1 e he
    · exact ⟨i, l, h1, hi, h2, hl⟩
  · simp only [List.mem_append, List.mem_singleton] at he
    rcases he with he | rfl
    · exact h.2.2.1 e he
    · exact ⟨i, l, rfl, hi, rfl, hl⟩
theorem isI_nat {i : Int} {xs : List D} (h : u_isI i xs = true) : ∃ n : Nat, i = n ∧ n < xs.length := by
  have hi : (decide (0 ≤ i) && decide (i < xs.length)) = true := h
  rw [Bool.and_eq_true, decide_eq_true_eq, decide_eq_true_eq] at hi
  exact ⟨i.toNat, by omega, by omega⟩
theorem isI_of {i : Nat} {xs : List D} (h : i < xs.length) : u_isI (i : Int) xs = true := by
  show (decide ((0 : Int) ≤ i) && decide ((i : Int) < xs.length)) = true
  rw [decide_eq_true (by omega), decide_eq_true (by omega)]; rfl
theorem ok_wM {xs : List D} {M : MD} {st off i : Int} {b : List UInt8} (h : u_ok xs M) : u_ok xs (u_wM st off xs M i b) := by
  by_cases hE : u_wE st off xs i b = 0
  · rw [wM_ok hE]
    have h1 : u_isI i xs = true ∧ b.length ≤ 64 := by
      unfold u_wE at hE
      split at hE
      · cases hE
      · split at hE
        · rename_i h2
          rw [Bool.and_eq_true, decide_eq_true_eq] at h2
          exact h2
        · cases hE
    obtain ⟨n, rfl, hn⟩ := isI_nat h1.1
    refine ok_set h hn ?_
    rw [List.length_append, List.length_drop, now_len h h1.1]
    omega
  · rw [wM_no hE]; exact h
theorem ok_new {n : Nat} (h : n ≤ 4000) (c : Nat) : u_ok (List.replicate n z64) ⟨[], c⟩ := by
  refine ⟨by simpa using h, fun x hx => ?_, fun e he => by simp at he, by simp [MD.ok]⟩
  rw [List.mem_replicate] at hx
  exact ⟨_, hx.2, by simp⟩
theorem ok_mlen {xs : List D} {M : MD} (h : u_ok xs M) : M.es.length ≤ xs.length := by
  have h1 := nodup_le xs.length (M.es.map fun e => e.2.1.gi) ?_ ?_
  · simpa using h1
  · have h2 : M.es.map (fun e => e.2.1.gi) = (M.es.map (·.2.1)).map D.gi := by rw [List.map_map]; rfl
    rw [h2]
    refine List.pairwise_map.2 (List.Pairwise.imp_of_mem (fun {a b} ha hb hne => ?_) h.2.2.2.1)
    obtain ⟨x, hx, rfl⟩ := List.mem_map.1 ha
    obtain ⟨y, hy, rfl⟩ := List.mem_map.1 hb
    obtain ⟨n, l, q1, _⟩ := h.2.2.1 x hx
    obtain ⟨n', l', p1, _⟩ := h.2.2.1 y hy
    have hne : x.2.1 ≠ y.2.1 := hne
    show x.2.1.gi ≠ y.2.1.gi
    rw [q1, p1] at hne ⊢
    intro heq
    exact hne (congrArg D.i heq)
  · intro x hx
    obtain ⟨e, he, rfl⟩ := List.mem_map.1 hx
    obtain ⟨n, l, q1, q2, _⟩ := h.2.2.1 e he
    rw [q1]
    show (0 : Int) ≤ n ∧ (n : Int) < xs.length
    omega
theorem ok_keyI {xs : List D} {M : MD} (h : u_ok xs M) : M.keyOkI := by
  refine ⟨by have := ok_mlen h; have := h.1; omega, fun e he => ?_⟩
  obtain ⟨n, l, q1, q2, _⟩ := h.2.2.1 e he
  have := h.1
  rw [q1]
  show -9223372036854775808 ≤ (n : Int) ∧ (n : Int) ≤ 9223372036854775807
  omega
theorem keysI_mem {M : MD} {k : Int} : k ∈ M.keysI ↔ ∃ e ∈ M.es, e.2.1.gi = k := by
  unfold MD.keysI
  rw [List.mem_mergeSort, List.mem_map]
theorem ck_key {xs : List D} {M : MD} (h : u_ok xs M) {j : Nat} (hj : j < M.keysI.length) : ∃ (n : Nat) (l : List UInt8), M.keysI.getD j 0 = n ∧ n < xs.length ∧ MD.find M.es (.i (n : Int)) = some (.l8 l) ∧ l.length = 64 := by
  have hm : M.keysI.getD j 0 ∈ M.keysI := by
    rw [List.getD_eq_getElem?_getD, List.getElem?_eq_getElem hj]
    exact List.getElem_mem hj
  obtain ⟨e, he, h1⟩ := keysI_mem.1 hm
  obtain ⟨n, l, q1, q2, q3, q4⟩ := h.2.2.1 e he
  have hf := MD.find_of_mem h.2.2.2.1 he
  rw [q1, q3] at hf
  refine ⟨n, l, ?_, q2, hf, q4⟩
  rw [← h1, q1]; rfl
theorem torn_len {a b : List UInt8} {c : UInt8} (ha : a.length = 64) (hb : b.length = 64) : (u_torn a b c).length = 64 := by
  unfold u_torn
  have : (if c = 255 then 64 else c.toNat % 64) ≤ 64 := by split <;> omega
  simp only [List.length_append, List.length_take, List.length_drop]
  omega
def allL (xs : List D) : Prop := ∀ x ∈ xs, ∃ l : List UInt8, x = .l8 l ∧ l.length = 64
theorem allL_get {xs : List D} (h : allL xs) {i : Nat} (hi : i < xs.length) : ∃ l : List UInt8, xs.getD i D.no = .l8 l ∧ l.length = 64 := by
  refine h _ ?_
  rw [List.getD_eq_getElem?_getD, List.getElem?_eq_getElem hi]
  exact List.getElem_mem hi
theorem allL_set {xs : List D} (h : allL xs) (i : Nat) {l : List UInt8} (hl : l.length = 64) : allL (xs.set i (.l8 l)) := by
  intro x hx
  rcases List.mem_or_eq_of_mem_set hx with hx | rfl
  · exact h x hx
  · exact ⟨l, rfl, hl⟩
theorem cP_ok {xs : List D} {M : MD} (h : u_ok xs M) (cs : List UInt8) : ∀ j, j ≤ M.keysI.length → (u_cP xs M M.keysI cs j).length = xs.length ∧ allL (u_cP xs M M.keysI cs j)
  | 0, _ => ⟨rfl, h.2.1⟩
  | j + 1, hj => by
    obtain ⟨h1, h2⟩ := cP_ok h cs j (by omega)
    obtain ⟨n, l, k1, k2, k3, k4⟩ := ck_key h (j := j) (by omega)
    rw [u_cP]
    refine ⟨by rw [List.length_set]; exact h1, allL_set h2 _ ?_⟩
    rw [k1]
    obtain ⟨l2, g1, g2⟩ := allL_get h2 (i := (n : Int).toNat) (by rw [h1]; exact k2)
    rw [g1, MD.get_eq, k3]
    exact torn_len g2 k4
theorem ok_crash {xs : List D} {M : MD} (h : u_ok xs M) (cs : List UInt8) (c : Nat) : u_ok (u_cP xs M M.keysI cs M.keysI.length) ⟨[], c⟩ := by
  obtain ⟨h1, h2⟩ := cP_ok h cs _ (Nat.le_refl _)
  exact ⟨by rw [h1]; exact h.1, h2, fun e he => by simp at he, by simp [MD.ok]⟩
/-! ## Flushing -/
theorem nodup_sub : ∀ (l m : List Nat), l.Nodup → (∀ x ∈ l, x ∈ m) → l.length ≤ m.length
  | [], m, _, _ => Nat.zero_le _
  | a :: l, m, hn, h => by
    rw [List.nodup_cons] at hn
    have ha := h a (by simp)
    have h1 := nodup_sub l (m.erase a) hn.2 (fun x hx => (List.mem_erase_of_ne (fun e => by subst e; exact hn.1 hx)).2 (h x (by simp [hx])))
    rw [List.length_erase_of_mem ha] at h1
    have := List.length_pos_of_mem ha
    rw [List.length_cons]; omega
theorem atB_mem : ∀ {l : List (Nat × D × D)} {b : Nat}, b ∈ l.map (·.1) → ∃ e ∈ l, e.1 = b ∧ MD.atB l b = some (e.2.1, e.2.2)
  | [], b, h => by simp at h
  | (b', k, d) :: l, b, h => by
    simp only [MD.atB]
    by_cases e : b' = b
    · exact ⟨(b', k, d), by simp, e, by rw [if_pos e]⟩
    · rw [if_neg e]
      have h2 : b ∈ l.map (·.1) := by
        simp only [List.map_cons, List.mem_cons] at h
        rcases h with h | h
        · exact absurd h.symm e
        · exact h
      obtain ⟨x, hx, h3, h4⟩ := atB_mem h2
      exact ⟨x, by simp [hx], h3, h4⟩
theorem left_key {xs : List D} {M : MD} (h : u_ok xs M) {b : Nat} (hb : b ∈ M.es.map (·.1)) : ∃ (n : Nat) (l : List UInt8), M.keyB b = .i n ∧ n < xs.length ∧ M.valB b = .l8 l ∧ l.length = 64 ∧ MD.find M.es (.i (n : Int)) = some (.l8 l) := by
  obtain ⟨e, he, h1, h2⟩ := atB_mem hb
  obtain ⟨n, l, q1, q2, q3, q4⟩ := h.2.2.1 e he
  have hf := MD.find_of_mem h.2.2.2.1 he
  unfold MD.keyB MD.valB
  rw [h2]
  rw [q1, q3] at hf
  exact ⟨n, l, q1, q2, q3, q4, hf⟩
theorem flP_s (xs : List D) (M : MD) (l : List Nat) (b : Nat) : u_flP xs M (l ++ [b]) = (u_flP xs M l).set (M.keyB b).gi.toNat (M.valB b) := by
  unfold u_flP
  rw [List.foldl_append]; rfl
theorem flP_ok {xs : List D} {M : MD} (h : u_ok xs M) : ∀ (l : List Nat), (∀ b ∈ l, b ∈ M.es.map (·.1)) → (u_flP xs M l.reverse).length = xs.length ∧ allL (u_flP xs M l.reverse)
  | [], _ => ⟨rfl, h.2.1⟩
  | b :: l, hl => by
    obtain ⟨h1, h2⟩ := flP_ok h l (fun x hx => hl x (by simp [hx]))
    obtain ⟨n, v, k1, k2, k3, k4, _⟩ := left_key h (hl b (by simp))
    rw [List.reverse_cons, flP_s]
    refine ⟨by rw [List.length_set]; exact h1, ?_⟩
    rw [k3]
    exact allL_set h2 _ k4
theorem flP_ok' {xs : List D} {M : MD} (h : u_ok xs M) {l : List Nat} (hl : ∀ b ∈ l, b ∈ M.es.map (·.1)) : (u_flP xs M l).length = xs.length ∧ allL (u_flP xs M l) := by
  have := flP_ok h l.reverse (fun b hb => hl b (by simpa using hb))
  rwa [List.reverse_reverse] at this
def hitK (M : MD) (l : List Nat) (i : Nat) : Bool := l.any fun b => decide (M.keyB b = .i (i : Int))
theorem flP_get {xs : List D} {M : MD} (h : u_ok xs M) (i : Nat) (hi : i < xs.length) : ∀ (l : List Nat), (∀ b ∈ l, b ∈ M.es.map (·.1)) → (u_flP xs M l.reverse).getD i D.no = if hitK M l i = true then (MD.find M.es (.i (i : Int))).getD D.no else xs.getD i D.no
  | [], _ => rfl
  | b :: l, hl => by
    have ih := flP_get h i hi l (fun x hx => hl x (by simp [hx]))
    obtain ⟨h1, h2⟩ := flP_ok h l (fun x hx => hl x (by simp [hx]))
    obtain ⟨n, v, k1, k2, k3, k4, k5⟩ := left_key h (hl b (by simp))
    rw [List.reverse_cons, flP_s, k1, k3]
    show ((u_flP xs M l.reverse).set n (.l8 v)).getD i D.no = _
    have hh : hitK M (b :: l) i = (decide (n = i) || hitK M l i) := by
      unfold hitK
      rw [List.any_cons, k1]
      congr 1
      refine decide_eq_decide.2 ⟨fun e => ?_, fun e => by rw [e]⟩
      injection e with e
      omega
    rw [hh]
    by_cases e : n = i
    · subst e
      rw [List.getD_eq_getElem?_getD, List.getElem?_set_self (by rw [h1]; exact k2), decide_eq_true rfl, Bool.true_or, if_pos rfl, k5]
    · rw [List.getD_eq_getElem?_getD, List.getElem?_set_ne e, ← List.getD_eq_getElem?_getD, ih, decide_eq_false e, Bool.false_or]
theorem flush_end {xs : List D} {M : MD} (h : u_ok xs M) {l : List Nat} (hl : ∀ b ∈ l, b ∈ M.es.map (·.1)) (hn : M.noLeft l) : u_flP xs M l = u_flush xs M := by
  obtain ⟨h1, h2⟩ := flP_ok' h hl
  have hlen : (u_flush xs M).length = xs.length := by unfold u_flush; simp
  refine List.ext_getElem (by rw [h1, hlen]) fun i q1 q2 => ?_
  have hi : i < xs.length := by omega
  have g1 := flP_get h i hi l.reverse (fun b hb => hl b (by simpa using hb))
  rw [List.reverse_reverse, List.getD_eq_getElem?_getD, List.getElem?_eq_getElem q1] at g1
  have g1 : (u_flP xs M l)[i] = _ := g1
  rw [g1]
  have g2 : (u_flush xs M)[i] = (MD.find M.es (.i (i : Int))).getD (xs.getD i D.no) := by
    unfold u_flush; simp
  rw [g2]
  cases hf : MD.find M.es (.i (i : Int)) with
  | some d =>
    have : hitK M l.reverse i = true := by
      obtain ⟨b, hb⟩ := MD.find_mem hf
      have hbm : b ∈ M.es.map (·.1) := List.mem_map.2 ⟨_, hb, rfl⟩
      unfold hitK
      rw [List.any_eq_true]
      refine ⟨b, by simpa using hn b hbm, ?_⟩
      rw [decide_eq_true_eq]
      obtain ⟨e, he, h3, h4⟩ := atB_mem hbm
      unfold MD.keyB
      rw [h4]
      have : e = (b, .i (i : Int), d) := by
        have hnd := h.2.2.2.2.1
        obtain ⟨j1, hj1⟩ := List.mem_iff_getElem?.1 he
        obtain ⟨j2, hj2⟩ := List.mem_iff_getElem?.1 hb
        have a1 : (M.es.map (·.1))[j1]? = some b := by rw [List.getElem?_map, hj1]; simp [h3]
        have a2 : (M.es.map (·.1))[j2]? = some b := by rw [List.getElem?_map, hj2]; rfl
        have e12 : j1 = j2 := by
          obtain ⟨b1, c1⟩ := List.getElem?_eq_some_iff.1 a1
          obtain ⟨b2, c2⟩ := List.getElem?_eq_some_iff.1 a2
          exact (List.getElem?_inj b1 hnd).1 (a1.trans a2.symm)
        subst e12
        rw [hj1] at hj2
        exact Option.some.inj hj2
      rw [this]
      rfl
    rw [if_pos this]; rfl
  | none =>
    have : hitK M l.reverse i = false := by
      cases hq : hitK M l.reverse i with
      | false => rfl
      | true =>
        exfalso
        unfold hitK at hq
        rw [List.any_eq_true] at hq
        obtain ⟨b, hb, hk⟩ := hq
        rw [decide_eq_true_eq] at hk
        obtain ⟨n, v, k1, k2, k3, k4, k5⟩ := left_key h (hl b (by simpa using hb))
        rw [k1] at hk
        injection hk with hk
        rw [hk, hf] at k5
        cases k5
    rw [if_neg (by rw [this]; decide)]; rfl
theorem ok_flush {xs : List D} {M : MD} (h : u_ok xs M) (c : Nat) : u_ok (u_flush xs M) ⟨[], c⟩ := by
  have e := flush_end h (l := M.es.map (·.1)) (fun b hb => hb) (fun b hb => hb)
  obtain ⟨h1, h2⟩ := flP_ok' h (l := M.es.map (·.1)) (fun b hb => hb)
  rw [e] at h1 h2
  exact ⟨by rw [h1]; exact h.1, h2, fun e he => by simp at he, by simp [MD.ok]⟩
theorem left_step {M : MD} {l : List Nat} {b : Nat} (hl : u_seenOk M l) (hb : M.left l b) : u_seenOk M (l ++ [b]) ∧ u_left M (l ++ [b]) < u_left M l := by
  have h1 : (l ++ [b]).Nodup := by
    rw [List.nodup_append]
    exact ⟨hl.1, by simp, fun x hx y hy => by simp at hy; subst hy; intro e; subst e; exact hb.2 hx⟩
  have h2 : ∀ x ∈ l ++ [b], x ∈ M.es.map (·.1) := by
    intro x hx
    simp only [List.mem_append, List.mem_singleton] at hx
    rcases hx with hx | rfl
    · exact hl.2 x hx
    · exact hb.1
  have h3 := nodup_sub _ _ h1 h2
  simp only [List.length_append, List.length_singleton, List.length_map] at h3
  refine ⟨⟨h1, h2⟩, ?_⟩
  unfold u_left
  simp only [List.length_append, List.length_singleton]
  omega
/-! ## The image -/
theorem imgP_s {xs : List D} {j : Nat} (hj : j < xs.length) : u_imgP xs (j + 1) = u_imgP xs j ++ (xs.getD j D.no).gl8 := by
  unfold u_imgP
  rw [List.take_add_one, List.getElem?_eq_getElem hj, List.map_append, List.flatten_append, List.getD_eq_getElem?_getD, List.getElem?_eq_getElem hj]
  simp
theorem imgP_len {xs : List D} (h : allL xs) : ∀ j, j ≤ xs.length → (u_imgP xs j).length = 64 * j
  | 0, _ => by simp [u_imgP]
  | j + 1, hj => by
    rw [imgP_s (by omega), List.length_append, imgP_len h j (by omega)]
    obtain ⟨l, h1, h2⟩ := allL_get h (i := j) (by omega)
    rw [h1]
    show 64 * j + l.length = _
    omega
end Go.Proofs.Ythhgmjclmdggjaa
set_option linter.unusedVariables false
set_option linter.unusedSimpArgs false
namespace Go.Vc
open Go Go.RowKit Go.Proofs Go.Maps Go.Sort
open Go.WideElems (Fit)
open Go.WideShapes (sorted_perm)
/-! ## slices.Sorted(maps.Keys(m)), the keys ints -/
/-- maps.Keys: an iterator, which holds the map in a box -/
def keysSpec (g T : Nat) : Spec := fun args kb => match args with
  | [.mh j] => .look j fun
    | .mp _ _ _ _ => .ret ⟨True, .fv g [.p kb 0 0], [(kb, .bk T [(1, .vs [.mh j])])]⟩
    | _ => .no
  | _ => .no
/-- slices.Sorted of such an iterator -/
def sortedISpec (F : Fs) (g E : Nat) : Spec := fun args kb => match args with
  | [.fv f [.p k 0 0]] => match Nat.beq f g with
    | true => .look k fun
      | .bk _ [(_, .vs [.mh j])] => .look j fun
        | .mp _ .i _ M => .ret ⟨F.pKeyI M, .rw kb, [(kb, .row E 1 (.is (F.keysI M)))]⟩
        | _ => .no
      | _ => .no
    | false => .no
  | _ => .no
section
variable {P : Program} {ρ ρ' : Go.Shelf.Ren} {m : Hd} {w : World} {me : Mem} {kb : Nat}
theorem cell_of {g : Nat} {cs : Array Value} {T : Nat} {fz : Nat × Nat} {v : Value} {r : List Value} (h : w.heap[g]? = some (.cells cs T fz)) (hv : cs.toList = v :: r) : w.cell? ⟨g, 0, none⟩ = some v := by
  unfold World.cell?
  have : cs[0]? = some v := by rw [← Array.getElem?_toList, hv]; rfl
  simp [h, this]
theorem keys_ok (L : SlLaysZI.n7 P ρ) {g T : Nat} (hg : ρ.f 10 = g) (hT : ρ.t 23 = T) : SpecOK P (ρ.f 7) (keysSpec g T) := by
  subst hg hT
  intro m w me kb args vals e hgi hb hv he hc
  unfold keysSpec at he
  split at he
  · rename_i j
    have h' := Look.run_look he
    clear he
    obtain ⟨ab, hab, h⟩ := h'
    split at h
    · rename_i Tm kk sh M
      simp only [Look.run, Option.some.injEq] at h
      subst h
      obtain ⟨v, rfl, hv1⟩ := RVs_one hv
      obtain ⟨r, es, rfl, g1, g2, g3, g4⟩ := mh_val hb hab hv1
      refine ((callsIn_wide (n := 5)).1 (AnyZI.keys_in L Fence.wide 5 trivial rfl (some r) w)).mono ?_
      rintro en w' ⟨rfl, rfl⟩
      have hk := hb.fresh kb (Nat.le_refl _) (by omega)
      have hjk : j ≠ kb := fun e => by subst e; rw [g1] at hk; cases hk
      have hjv : hput m kb (.pointer (some ⟨w.heap.size, 0, none⟩)) j = some (.map (some r)) := by rw [hput_apply, if_neg (by omega)]; exact g1
      have hnew := hb.new (w' := w.alloc (.cells #[.map (some r)] (ρ.t 23))) (v := .pointer (some ⟨w.heap.size, 0, none⟩)) (ab := .bk (ρ.t 23) [(1, .vs [.mh j])]) (av := .p kb 0 0) (by simp) (fun b hb' => by simp [blk] at hb'; omega) (fun b hb' => by simp [blk] at hb'; subst hb'; simp) (fun b hb' => Below.heap_alloc w _ b hb') rfl rfl rfl
        ⟨w.heap.size, #[.map (some r)], (0, 0), by simp [hput_apply], heap_alloc_new w _, .inl rfl, [.map (some r)], [], rfl, rfl, by
          simp only [RC, LR, CR]
          exact ⟨[.map (some r)], [], rfl, ⟨_, hjv, rfl, rfl⟩, rfl⟩, rfl⟩
        (by simp only [RV, CR]; exact ⟨_, by simp [hput_apply], rfl⟩)
      refine ⟨_, rfl, _, hnew.tr, ?_, hnew.mem, hnew.keys, hnew.bd⟩
      have hrv := hnew.rv
      simp only [RV, CR, LR] at hrv ⊢
      exact ⟨[.pointer (some ⟨w.heap.size, 0, none⟩)], rfl, [_], [], rfl, hrv, rfl⟩
    · exact (Look.run_no h).elim
  · exact (Look.run_no he).elim
theorem ER_keyI {sh : Sh} : ∀ {l : List (Nat × D × D)} {es : List MapEntry}, ER m w .i sh l es → es.map (·.key) = l.map (fun e => encZ e.2.1.gi) ∧ (∀ e ∈ l, e.2.1 = .i e.2.1.gi) ∧ es.length = l.length
  | [], es, h => by simp only [ER] at h; subst h; exact ⟨rfl, fun e he => by simp at he, rfl⟩
  | (b, k, d) :: l, es, h => by
    obtain ⟨e, r, rfl, h1, ⟨n, rfl, h3⟩, h4, h5⟩ := h
    obtain ⟨q1, q2, q3⟩ := ER_keyI h5
    refine ⟨by simp [h3, q1, D.gi], fun e he => ?_, by simp [q3]⟩
    simp only [List.mem_cons] at he
    rcases he with rfl | he
    · rfl
    · exact q2 e he
abbrev anyR (v : Value) : Option (DataW Unit × List MemPlace) := some (.nil, [])
theorem rd_i {kt : Nat} (hk : P.underlying kt = some (.int .i64)) {x : MapEntry} {n : Int} (hx : x.key = encZ n) (hw : -9223372036854775808 ≤ n ∧ n ≤ 9223372036854775807) : WideElems.rd P kt anyR x = some (.int .i64 n, .nil) := by
  have h1 : (Lit.int .i64 n).wf = true := by
    show (decide ((-9223372036854775808 : Int) ≤ n) && decide (n ≤ (9223372036854775807 : Int))) = true
    rw [decide_eq_true hw.1, decide_eq_true hw.2]; rfl
  have h2 := keyOf_int_mk (P := P) hk h1
  unfold WideElems.rd
  rw [hx, h2]
  rfl
theorem sortedI_ok (L : SlLaysZI.n6 P ρ) (L' : SlLaysZI.n7 P ρ') (hs : ∀ n, AnyZI.SortsIn P ρ Fence.wide n) (h9 : Ready P (ρ.f 9)) (h10 : Ready P (ρ'.f 10)) (ht : ρ'.t 26 = ρ.t 26) (hL10 : SlLaysZI.n10 P ρ') {g E : Nat} (hg : ρ'.f 10 = g) (hE : ρ.t 26 = E) (hu : P.underlying E = some (.int .i64)) : SpecOK P (ρ.f 6) (sortedISpec real g E) := by
  subst hg hE
  intro m w me kb args vals e hgi hb hv he hc
  unfold sortedISpec at he
  split at he
  · rename_i f k
    split at he
    · rename_i hf
      have hf := beq_nat hf
      subst hf
      have h' := Look.run_look he
      clear he
      obtain ⟨ab, hbox, he⟩ := h'
      split at he
      · rename_i T' n' j
        have h' := Look.run_look he
        clear he
        obtain ⟨ab, hab, he⟩ := h'
        split at he
        · rename_i Tm sh M
          simp only [Look.run, Option.some.injEq] at he
          subst he
          obtain ⟨v, rfl, hv1⟩ := RVs_one hv
          obtain ⟨q1, q2⟩ : real.pKeyI M := hc
          obtain ⟨r, es, g1, g2, g3, g4⟩ := hb.mem.at_ j _ hab
          obtain ⟨bx, cs, fz, b1, b2, b3, b4⟩ := hb.mem.at_ k _ hbox
          unfold SegsR at b4
          unfold SegsR at b4
          obtain ⟨c1, c2, b4, b5, ⟨c3, c4, b6, ⟨v1, b7, b8, b9⟩, b10⟩, b11⟩ := b4
          rw [g1] at b7; cases b7
          subst b8 b10 b6 b11
          simp only [RV, CR, LR, List.cons.injEq, and_true] at hv1
          obtain ⟨vs, rfl, d1, d2, d3, ⟨gb, e1, rfl⟩, rfl⟩ := hv1
          rw [List.append_nil] at d3
          subst d3
          rw [b1] at e1; cases e1
          obtain ⟨k1, k2, k3⟩ := ER_keyI g3
          have hsz : es.size = M.es.length := by rw [← Array.length_toList]; exact k3
          have hkey : ∀ x ∈ es.toList, ∃ n : Int, x.key = encZ n ∧ -9223372036854775808 ≤ n ∧ n ≤ 9223372036854775807 := by
            intro x hx
            obtain ⟨jx, kd, d, i1, i2, i3⟩ := ER_back g3 hx
            obtain ⟨n, rfl, i4⟩ := i2
            have := q2 _ (List.mem_of_getElem? i1)
            exact ⟨n, i4, this⟩
          have hfit : Fit P (ρ'.t 26) anyR es M.clock := by
            refine ⟨by rw [hsz]; exact Nat.le_trans q1 (by decide), ⟨fun x hx => ?_, ?_, ?_⟩, fun x hx => ?_⟩
            · obtain ⟨jx, kd, d, i1, _⟩ := ER_back g3 hx
              exact g4.2.2 _ (List.mem_of_getElem? i1)
            · rw [ER_born g3]; exact g4.2.1
            · rw [k1]
              have h1 := g4.1
              have h2 : M.es.map (fun e => encZ e.2.1.gi) = (M.es.map (·.2.1)).map (fun d => encZ d.gi) := by rw [List.map_map]; rfl
              rw [h2]
              refine List.pairwise_map.2 (List.Pairwise.imp_of_mem (fun {a b} ha hb hne => ?_) h1)
              obtain ⟨x, hx, rfl⟩ := List.mem_map.1 ha
              obtain ⟨y, hy, rfl⟩ := List.mem_map.1 hb
              intro heq
              have := encZ_inj heq
              exact hne (by rw [k2 x hx, k2 y hy, this])
            · obtain ⟨n, hn, hw⟩ := hkey x hx
              exact ⟨_, rd_i (by rw [ht]; exact hu) hn hw⟩
          have hown : w.ownsMap P (ρ'.t 26) anyR r es.size (.map ((es.toList.map (WideElems.rg P (ρ'.t 26) anyR)).foldr DataW.insert [])) := ⟨es, M.clock, g2, hfit, Nat.le_refl _, rfl⟩
          have hsize : Maps.size (DataW.map ((es.toList.map (WideElems.rg P (ρ'.t 26) anyR)).foldr DataW.insert [])) = M.es.length := by
            show (List.foldr DataW.insert [] _).length = _
            rw [(sorted_perm _).length_eq, List.length_map]
            exact k3
          have hkeys : (intKeys (DataW.map ((es.toList.map (WideElems.rg P (ρ'.t 26) anyR)).foldr DataW.insert []))).Perm (M.es.map fun e => e.2.1.gi) := by
            have h1 : (es.toList.map (WideElems.rg P (ρ'.t 26) anyR)).map (fun p => intOf p.1) = M.es.map fun e => e.2.1.gi := by
              have h3 : (es.toList.map (·.key)).map (fun v => match v with | .int _ a => a | _ => 0) = M.es.map fun e => e.2.1.gi := by
                rw [k1, List.map_map]; rfl
              rw [← h3, List.map_map, List.map_map]
              refine List.map_congr_left fun x hx => ?_
              obtain ⟨n, hn, hw⟩ := hkey x hx
              have hr : WideElems.rg P (ρ'.t 26) anyR x = (.int .i64 n, .nil) := by
                unfold WideElems.rg; rw [rd_i (by rw [ht]; exact hu) hn hw]; rfl
              simp [hr, hn, intOf]
            rw [← h1]
            exact (sorted_perm _).map _
          have hcell : w.cell? ⟨bx, 0, none⟩ = some (.map (some r)) := cell_of b2 b4
          have hbx : bx < w.heap.size := (Array.getElem?_eq_some_iff.1 b2).1
          have hseq := AnyZI.keys_gives hL10 Fence.wide (5 - 1 - 1 - 1) trivial rfl (by omega) bx r es.size _ w hbx hcell hown
          have cS := AnyZI.sorted_in L Fence.wide 5 trivial trivial trivial trivial rfl (by omega) (hs _) (fun args w => callFunc_run h9 args w) (ρ'.f 10) #[.pointer (some ⟨bx, 0, none⟩)] trivial (fun args w => callFunc_run h10 args w) _ _ (by rw [hsize]; exact Nat.le_trans q1 (by decide)) (by rw [hsize]; omega) w hseq
          refine ((callsIn_wide (n := 5)).1 cS).mono ?_
          rintro en w' ⟨v, ss, rfl, hS, hrow, hnil, hbel⟩
          have hss : ss.mergeSort (fun x y => decide (x ≤ y)) = real.keysI M := mergeSort_of_perm_i (hS.trans hkeys)
          rw [hss] at hrow
          have hlen : ss.length = (real.keysI M).length := by rw [← hss, List.length_mergeSort]
          rw [hlen] at hrow
          have hone : v.oneCell' = true := by
            rcases hrow.2 with ⟨rfl, _⟩ | ⟨g, cap, cur, rfl, _⟩ <;> rfl
          have hOwn : OwnRow w' (ρ.t 26) 1 v (real.keysI M).length ((real.keysI M).map EI) := by
            refine ⟨hrow.1, ?_⟩
            rcases hrow.2 with ⟨rfl, hz⟩ | ⟨g, cap, cur, rfl, i1, i2, i3, i4, i5, i6⟩
            · exact .inl ⟨_, rfl, hz⟩
            · by_cases hcap : cap = 0
              · subst hcap
                have hz : (real.keysI M).length = 0 := by omega
                left
                rw [hz]
                exact ⟨_, rfl, rfl⟩
              · right
                exact ⟨g, 0, cap, cur, (0, 0), rfl, i2, .inl rfl, i3, by omega, i4, by omega, by simpa using i6⟩
          refine ⟨_, rfl, hput m kb v, hb.new hbel.size (fun b hb' => ?_) (fun b hb' => ?_) (fun b hb' => hbel.block b hb') hbel.os hbel.tape hbel.output ⟨v, _, _, by simp [hput_apply], hOwn, rfl⟩ ?_⟩
          · rcases hrow.2 with ⟨rfl, hz⟩ | ⟨g, cap, cur, rfl, i1, i2, i3, i4, i5, i6⟩
            · simp [blk] at hb'
            · cases cap with
              | zero => simp [blk] at hb'
              | succ c => simp [blk] at hb'; omega
          · rcases hrow.2 with ⟨rfl, hz⟩ | ⟨g, cap, cur, rfl, i1, i2, i3, i4, i5, i6⟩
            · simp [blk] at hb'
            · cases cap with
              | zero => simp [blk] at hb'
              | succ c =>
                simp [blk] at hb'; subst hb'
                exact (Array.getElem?_eq_some_iff.1 i2).1
          · simp only [RV, CR]
            exact ⟨v, by simp [hput_apply], rfl, hone⟩
        · exact (Look.run_no he).elim
      · exact (Look.run_no he).elim
    · exact (Look.run_no he).elim
  · exact (Look.run_no he).elim
end
end Go.Vc
set_option linter.unusedVariables false
set_option linter.unusedSimpArgs false
set_option maxRecDepth 100000
set_option maxHeartbeats 1000000
namespace Go.Proofs
open Go.RowKit Go.Maps Go.Sort Go.Shelf
def Try.keysA_ren : Go.Shelf.Ren := ⟨fun | 7 => 32 | 10 => 41 | n => n, fun | 23 => 45 | 26 => 3 | 3 => 60 | 28 => 65 | 0 => 0 | 27 => 64 | 33 => 59 | 4 => 4 | n => n, fun | n => n⟩
theorem Try.keysA : Go.Proofs.SlLaysZI.n7 Try.prog Try.keysA_ren := {
  mixed := by kernel_rfl
  f7 := ⟨Try.f32.name, by decide, Try.func32.trans (congrArg some (by kernel_rfl))⟩
  f10 := ⟨Try.f41.name, by decide, Try.func41.trans (congrArg some (by kernel_rfl))⟩
  t0 := Try.underlying0
  a0 := Try.isAgg0
  z0 := Try.sizeOf0
  v0 := Try.zeroValue0
  t4 := Try.underlying4
  a4 := Try.isAgg4
  z4 := Try.sizeOf4
  v4 := Try.zeroValue4
  t23 := Try.underlying45
  a23 := Try.isAgg45
  z23 := Try.sizeOf45
  v23 := Try.zeroValue45
  t26 := Try.underlying3
  a26 := Try.isAgg3
  z26 := Try.sizeOf3
  v26 := Try.zeroValue3
  t27 := Try.underlying64
  a27 := Try.isAgg64
  z27 := Try.sizeOf64
  v27 := Try.zeroValue64
  t28 := Try.underlying65
  a28 := Try.isAgg65
  z28 := Try.sizeOf65
  v28 := Try.zeroValue65
  t33 := Try.underlying59
  a33 := Try.isAgg59
  z33 := Try.sizeOf59
  v33 := Try.zeroValue59 }
def Try.sortedA_ren : Go.Shelf.Ren := ⟨fun | 6 => 31 | 8 => 39 | 9 => 40 | 11 => 43 | 13 => 45 | 12 => 44 | 23 => 55 | 24 => 56 | 14 => 46 | 15 => 47 | 16 => 48 | 17 => 49 | 18 => 50 | 19 => 51 | 20 => 52 | 21 => 53 | 22 => 54 | 25 => 57 | 26 => 58 | 27 => 59 | 28 => 60 | 29 => 61 | 30 => 62 | 31 => 63 | n => n, fun | 26 => 3 | 28 => 65 | 24 => 62 | 0 => 0 | 3 => 3 | 37 => 83 | 48 => 94 | 50 => 96 | 4 => 4 | 40 => 86 | 39 => 85 | 45 => 91 | 5 => 5 | 9 => 9 | 51 => 97 | 55 => 101 | 57 => 103 | 58 => 104 | 33 => 59 | n => n, fun | n => n⟩
theorem Try.sortedA : Go.Proofs.SlLaysZI.n6 Try.prog Try.sortedA_ren := {
  mixed := by kernel_rfl
  f6 := ⟨Try.f31.name, by decide, Try.func31.trans (congrArg some (by kernel_rfl))⟩
  f8 := ⟨Try.f39.name, by decide, Try.func39.trans (congrArg some (by kernel_rfl))⟩
  f11 := ⟨Try.f43.name, by decide, Try.func43.trans (congrArg some (by kernel_rfl))⟩
  t0 := Try.underlying0
  a0 := Try.isAgg0
  z0 := Try.sizeOf0
  v0 := Try.zeroValue0
  t24 := Try.underlying62
  a24 := Try.isAgg62
  z24 := Try.sizeOf62
  v24 := Try.zeroValue62
  t26 := Try.underlying3
  a26 := Try.isAgg3
  z26 := Try.sizeOf3
  v26 := Try.zeroValue3
  t28 := Try.underlying65
  a28 := Try.isAgg65
  z28 := Try.sizeOf65
  v28 := Try.zeroValue65
  i26 := by kernel_rfl }
def Try.sortA_ren : Go.Shelf.Ren := ⟨fun | 5 => 40 | 8 => 45 | 7 => 44 | 19 => 55 | 20 => 56 | 10 => 46 | 11 => 47 | 12 => 48 | 13 => 49 | 14 => 50 | 15 => 51 | 16 => 52 | 17 => 53 | 18 => 54 | 30 => 57 | 31 => 58 | 32 => 59 | 33 => 60 | 34 => 61 | 35 => 62 | 40 => 63 | n => n, fun | 23 => 62 | 25 => 3 | 3 => 3 | 32 => 83 | 22 => 62 | 0 => 0 | 44 => 94 | 46 => 96 | 4 => 4 | 36 => 86 | 35 => 85 | 41 => 91 | 5 => 5 | 9 => 9 | 53 => 97 | 57 => 101 | 63 => 103 | 64 => 104 | n => n, fun | n => n⟩
theorem Try.sortA : Go.Proofs.SlLaysM.n5 Try.prog Try.sortA_ren := {
  mixed := by kernel_rfl
  f5 := ⟨Try.f40.name, by decide, Try.func40.trans (congrArg some (by kernel_rfl))⟩
  f7 := ⟨Try.f44.name, by decide, Try.func44.trans (congrArg some (by kernel_rfl))⟩
  f8 := Try.func45.trans (congrArg some (by kernel_rfl))
  f10 := ⟨Try.f46.name, by decide, Try.func46.trans (congrArg some (by kernel_rfl))⟩
  f11 := ⟨Try.f47.name, by decide, Try.func47.trans (congrArg some (by kernel_rfl))⟩
  f12 := ⟨Try.f48.name, by decide, Try.func48.trans (congrArg some (by kernel_rfl))⟩
  f13 := ⟨Try.f49.name, by decide, Try.func49.trans (congrArg some (by kernel_rfl))⟩
  f14 := ⟨Try.f50.name, by decide, Try.func50.trans (congrArg some (by kernel_rfl))⟩
  f15 := ⟨Try.f51.name, by decide, Try.func51.trans (congrArg some (by kernel_rfl))⟩
  f16 := ⟨Try.f52.name, by decide, Try.func52.trans (congrArg some (by kernel_rfl))⟩
  f17 := ⟨Try.f53.name, by decide, Try.func53.trans (congrArg some (by kernel_rfl))⟩
  f18 := ⟨Try.f54.name, by decide, Try.func54.trans (congrArg some (by kernel_rfl))⟩
  f19 := Try.func55.trans (congrArg some (by kernel_rfl))
  f20 := Try.func56.trans (congrArg some (by kernel_rfl))
  f30 := ⟨Try.f57.name, by decide, Try.func57.trans (congrArg some (by kernel_rfl))⟩
  f31 := Try.func58.trans (congrArg some (by kernel_rfl))
  f32 := Try.func59.trans (congrArg some (by kernel_rfl))
  f33 := ⟨Try.f60.name, by decide, Try.func60.trans (congrArg some (by kernel_rfl))⟩
  f34 := ⟨Try.f61.name, by decide, Try.func61.trans (congrArg some (by kernel_rfl))⟩
  f35 := ⟨Try.f62.name, by decide, Try.func62.trans (congrArg some (by kernel_rfl))⟩
  f40 := ⟨Try.f63.name, by decide, Try.func63.trans (congrArg some (by kernel_rfl))⟩
  t0 := Try.underlying0
  a0 := Try.isAgg0
  z0 := Try.sizeOf0
  v0 := Try.zeroValue0
  t3 := Try.underlying3
  a3 := Try.isAgg3
  z3 := Try.sizeOf3
  v3 := Try.zeroValue3
  t4 := Try.underlying4
  a4 := Try.isAgg4
  z4 := Try.sizeOf4
  v4 := Try.zeroValue4
  t5 := Try.underlying5
  a5 := Try.isAgg5
  z5 := Try.sizeOf5
  v5 := Try.zeroValue5
  t9 := Try.underlying9
  a9 := Try.isAgg9
  z9 := Try.sizeOf9
  v9 := Try.zeroValue9
  t22 := Try.underlying62
  a22 := Try.isAgg62
  z22 := Try.sizeOf62
  v22 := Try.zeroValue62
  t23 := Try.underlying62
  a23 := Try.isAgg62
  z23 := Try.sizeOf62
  v23 := Try.zeroValue62
  t25 := Try.underlying3
  a25 := Try.isAgg3
  z25 := Try.sizeOf3
  v25 := Try.zeroValue3
  t32 := Try.underlying83
  a32 := Try.isAgg83
  z32 := Try.sizeOf83
  v32 := Try.zeroValue83
  t35 := Try.underlying85
  a35 := Try.isAgg85
  z35 := Try.sizeOf85
  v35 := Try.zeroValue85
  t36 := Try.underlying86
  a36 := Try.isAgg86
  z36 := Try.sizeOf86
  v36 := Try.zeroValue86
  t41 := Try.underlying91
  a41 := Try.isAgg91
  z41 := Try.sizeOf91
  v41 := Try.zeroValue91
  t44 := Try.underlying94
  a44 := Try.isAgg94
  z44 := Try.sizeOf94
  v44 := Try.zeroValue94
  t46 := Try.underlying96
  a46 := Try.isAgg96
  z46 := Try.sizeOf96
  v46 := Try.zeroValue96
  t53 := Try.underlying97
  a53 := Try.isAgg97
  z53 := Try.sizeOf97
  v53 := Try.zeroValue97
  t57 := Try.underlying101
  a57 := Try.isAgg101
  z57 := Try.sizeOf101
  v57 := Try.zeroValue101
  t63 := Try.underlying103
  a63 := Try.isAgg103
  z63 := Try.sizeOf103
  v63 := Try.zeroValue103
  t64 := Try.underlying104
  a64 := Try.isAgg104
  z64 := Try.sizeOf104
  v64 := Try.zeroValue104 }
theorem Try.sortsA (m : Nat) : AnyZI.SortsIn Try.prog Try.sortedA_ren Fence.wide m :=
  ⟨fun blk off cap ss W hH hblk hsz => callsIn_wide.2 (AnyM.slices_Sort_int Try.sortA blk off cap ss W hH hblk hsz),
   fun p cap W => callsIn_wide.2 (AnyM.slices_Sort_int_none Try.sortA p cap W)⟩
end Go.Proofs
namespace Go.Proofs.Ythhgmjclmdggjaa
open Go Go.Vc
theorem r_keys : Ready Try.prog 32 := by unfold Ready; kernel_rfl
theorem r_sorted : Ready Try.prog 31 := by unfold Ready; kernel_rfl
theorem r_sort : Ready Try.prog 40 := by unfold Ready; kernel_rfl
theorem r_keys1 : Ready Try.prog 41 := by unfold Ready; kernel_rfl
noncomputable def s_keys (F : Fs) (U : Us) : Vc.Spec := keysSpec 41 45
noncomputable def s_sorted (F : Fs) (U : Us) : Vc.Spec := sortedISpec F 41 3
theorem k_keys : SpecOK Try.prog 32 (s_keys real us) := keys_ok (ρ := Try.keysA_ren) Try.keysA rfl rfl
theorem k_sorted : SpecOK Try.prog 31 (s_sorted real us) := sortedI_ok (ρ := Try.sortedA_ren) (ρ' := Try.keysA_ren) Try.sortedA Try.keysA Try.sortsA r_sort r_keys1 rfl { Try.keysA with } rfl rfl (by kernel_rfl)
end Go.Proofs.Ythhgmjclmdggjaa
set_option linter.unusedVariables false
set_option linter.unusedSimpArgs false
set_option maxRecDepth 100000
set_option maxHeartbeats 1000000
namespace Go.Proofs.Ythhgmjclmdggjaa
open Go Go.Vc
abbrev r_maps_Keys := @r_keys
abbrev r_slices_Sorted := @r_sorted
noncomputable abbrev s_maps_Keys := @s_keys
noncomputable abbrev s_slices_Sorted := @s_sorted
abbrev k_maps_Keys := @k_keys
abbrev k_slices_Sorted := @k_sorted
theorem crash_facts {xs : List D} {M : MD} (h : u_ok xs M) (cs : List UInt8) {j : Nat} (hj : j < M.keysI.length) :
    real.pIn (real.getI (real.keysI M) (real.nat (real.int j))) (real.lenD (us.cP xs M (real.keysI M) cs j)) ∧ real.pLt (real.nat (real.getI (real.keysI M) (real.nat (real.int j)))) (real.lenD (us.cP xs M (real.keysI M) cs j)) ∧
    us.is64 (real.dL8 (real.getD (us.cP xs M (real.keysI M) cs j) (real.nat (real.getI (real.keysI M) (real.nat (real.int j)))))) ∧ us.is64 (real.dL8 (real.mget M (.i (real.getI (real.keysI M) (real.nat (real.int j)))) (real.dz (.l8 64)))) := by
  obtain ⟨n, l, k1, k2, k3, k4⟩ := ck_key h hj
  obtain ⟨h1, h2⟩ := cP_ok h cs j (by omega)
  obtain ⟨l2, g1, g2⟩ := allL_get h2 (i := n) (by rw [h1]; exact k2)
  have e : real.getI (real.keysI M) (real.nat (real.int j)) = (n : Int) := k1
  rw [e]
  refine ⟨⟨Int.natCast_nonneg n, ?_⟩, ?_, ?_, ?_⟩
  · show (n : Int) < ((u_cP xs M M.keysI cs j).length : Int)
    rw [h1]; omega
  · show n < (u_cP xs M M.keysI cs j).length
    rw [h1]; exact k2
  · show ((u_cP xs M M.keysI cs j).getD n D.no).gl8.length = 64
    rw [g1]; exact g2
  · show (M.get (.i (n : Int)) z64).gl8.length = 64
    rw [MD.get_eq, k3]; exact k4
theorem ch_some {cs : List UInt8} {j : Nat} (h : ¬ real.pB (real.lti (real.int 0) (real.int (real.lenB (us.dropC cs j)))) false) : j < cs.length := by
  have h := lt_g h
  have : 0 < (cs.drop j).length := h
  rw [List.length_drop] at this
  omega
theorem ch_none {cs : List UInt8} {j : Nat} (h : ¬ real.pB (real.lti (real.int 0) (real.int (real.lenB (us.dropC cs j)))) true) : cs.length ≤ j := by
  have h := ge_g h
  have : (cs.drop j).length ≤ 0 := h
  rw [List.length_drop] at this
  omega
theorem ch_drop {cs : List UInt8} {j : Nat} (h : j < cs.length) : real.cutB (us.dropC cs j) (real.nat (real.int 1)) (real.subn (real.lenB (us.dropC cs j)) (real.nat (real.int 1))) = us.dropC cs (j + 1) := by
  show ((cs.drop j).drop 1).take ((cs.drop j).length - 1) = cs.drop (j + 1)
  rw [List.drop_drop, List.take_of_length_le (by rw [List.length_drop, List.length_drop]; omega)]
theorem ch_drop0 {cs : List UInt8} {j : Nat} (h : cs.length ≤ j) : us.dropC cs j = us.dropC cs (j + 1) := by
  show cs.drop j = cs.drop (j + 1)
  rw [List.drop_of_length_le h, List.drop_of_length_le (by omega)]
theorem ch_get {cs : List UInt8} {j : Nat} (h : j < cs.length) : real.getB (us.dropC cs j) (real.nat (real.int 0)) = cs.getD j 0 := by
  show (cs.drop j).getD 0 0 = _
  rw [List.getD_eq_getElem?_getD, List.getElem?_drop, List.getD_eq_getElem?_getD]; rfl
theorem ch_get0 {cs : List UInt8} {j : Nat} (h : cs.length ≤ j) : real.ofI8 (real.int 0) = cs.getD j 0 := by
  rw [List.getD_eq_getElem?_getD, List.getElem?_eq_none h]; rfl
theorem cP_s {xs : List D} {M : MD} {cs : List UInt8} {j : Nat} {c : UInt8} (h : c = cs.getD j 0) : real.setD (us.cP xs M (real.keysI M) cs j) (real.nat (real.getI (real.keysI M) (real.nat (real.int j)))) (.l8 (us.torn (real.dL8 (real.getD (us.cP xs M (real.keysI M) cs j) (real.nat (real.getI (real.keysI M) (real.nat (real.int j)))))) (real.dL8 (real.mget M (.i (real.getI (real.keysI M) (real.nat (real.int j)))) (real.dz (.l8 64)))) c)) = us.cP xs M (real.keysI M) cs (j + 1) := by
  subst h; rfl
theorem keys_small {xs : List D} {M : MD} (h : u_ok xs M) : M.keysI.length ≤ 4000 := by
  have h1 := ok_mlen h
  have h2 := h.1
  unfold MD.keysI
  rw [List.length_mergeSort, List.length_map]; omega
theorem cP_0 (xs : List D) (M : MD) (cs : List UInt8) : xs = us.cP xs M (real.keysI M) cs 0 := rfl
theorem flP_0 (xs : List D) (M : MD) : xs = us.flP xs M [] := rfl
theorem ok_len {xs : List D} {M : MD} (h : u_ok xs M) : xs.length ≤ 4000 := h.1
theorem ok_all {xs : List D} {M : MD} (h : u_ok xs M) : allL xs := h.2.1
theorem imgP_0 (xs : List D) : real.repB (real.nat (real.int 0)) = us.imgP xs 0 := by
  show _ = ((xs.take 0).map D.gl8).flatten
  simp [real]
theorem cX_e (xs : List D) (M : MD) (cs : List UInt8) : us.cP xs M (real.keysI M) cs M.keysI.length = us.cX xs M cs := rfl
theorem img_s {xs : List D} {M : MD} (h : u_ok xs M) {j : Nat} (hj : j < xs.length) : real.appB (us.imgP xs j) (real.cutB (real.dL8 (real.getD xs (real.nat (real.int j)))) 0 64) = us.imgP xs (j + 1) := by
  obtain ⟨l, g1, g2⟩ := allL_get h.2.1 hj
  refine Eq.trans ?_ (imgP_s hj).symm
  show u_imgP xs j ++ (xs.getD j D.no).gl8.take 64 = _
  rw [g1]
  show _ ++ l.take 64 = _ ++ l
  rw [List.take_of_length_le (by omega)]
theorem img_e (xs : List D) : us.imgP xs xs.length = us.img xs := rfl
theorem fl_idx {xs : List D} {M : MD} (h : u_ok xs M) {l : List Nat} (hl : u_seenOk M l) {b : Nat} (hb : M.left l b) : real.pIn (real.dI (real.mkeyB M (real.backN (real.appN l b)))) (real.lenD (us.flP xs M l)) ∧ real.pLt (real.nat (real.dI (real.mkeyB M (real.backN (real.appN l b))))) (real.lenD (us.flP xs M l)) := by
  have e : real.backN (real.appN l b) = b := by show (l ++ [b]).getLastD 0 = b; simp
  rw [e]
  obtain ⟨n, v, k1, k2, k3, k4, _⟩ := left_key h hb.1
  obtain ⟨h1, h2⟩ := flP_ok' h hl.2
  have e2 : real.dI (real.mkeyB M b) = (n : Int) := by show (M.keyB b).gi = _; rw [k1]; rfl
  rw [e2]
  refine ⟨⟨Int.natCast_nonneg n, ?_⟩, ?_⟩
  · show (n : Int) < ((u_flP xs M l).length : Int)
    rw [h1]; omega
  · show n < (u_flP xs M l).length
    rw [h1]; exact k2
theorem fl_ent {M : MD} {l : List Nat} {b : Nat} (hb : M.left l b) : real.pEnt M (real.mclk M) (real.appN l b) (real.mclk M) := by
  refine ⟨rfl, rfl, by simp [real], ?_⟩
  have e : (real.appN l b).getLastD 0 = b := by show (l ++ [b]).getLastD 0 = b; simp
  rw [e]; exact hb.1
theorem fl_s {xs : List D} {M : MD} (h : u_ok xs M) {l : List Nat} {b : Nat} (hb : M.left l b) : real.setD (us.flP xs M l) (real.nat (real.dI (real.mkeyB M (real.backN (real.appN l b))))) (.l8 (real.dL8 (real.mvalB M (real.backN (real.appN l b))))) = us.flP xs M (real.appN l b) := by
  have e : real.backN (real.appN l b) = b := by show (l ++ [b]).getLastD 0 = b; simp
  rw [e]
  obtain ⟨n, v, k1, k2, k3, k4, _⟩ := left_key h hb.1
  have e3 : D.l8 (real.dL8 (real.mvalB M b)) = M.valB b := by show D.l8 (M.valB b).gl8 = _; rw [k3]; rfl
  rw [e3]
  exact (flP_s xs M l b).symm
theorem fl_end {xs : List D} {M : MD} {st off : Int} (h : u_ok xs M) {l : List Nat} (hl : u_seenOk M l) (hn : M.noLeft l) (o : u_off (IntKind.i64.wrap (st + 1)) off = false) : real.int 0 = us.fE st off ∧ us.flP xs M l = us.fX st off xs M ∧ real.mclr M = us.fM st off M := by
  have e : u_fE st off = 0 := by unfold u_fE; rw [if_neg (by rw [o]; decide)]
  refine ⟨e.symm, ?_, ?_⟩
  · show u_flP xs M l = u_fX st off xs M
    unfold u_fX
    rw [if_pos e]; exact flush_end h hl.2 hn
  · show _ = u_fM st off M
    unfold u_fM
    rw [if_pos e]; rfl
attribute [local irreducible] u_off u_isI u_now u_ok u_wE u_torn u_cP u_flP u_imgP u_flush
theorem r_sector_Disk_Crash_b : Ready Try.prog 14 := by unfold Ready; kernel_rfl
noncomputable def sp_sector_Disk_Crash_b (F : Fs) (U : Us) : Specs := [(32, s_maps_Keys F U), (31, s_slices_Sorted F U), (33, s_sector_torn F U)]
theorem ok_sector_Disk_Crash_b : SpecsOK Try.prog (sp_sector_Disk_Crash_b real us) := sp_cons r_maps_Keys k_maps_Keys (sp_cons r_slices_Sorted k_slices_Sorted (sp_cons r_sector_torn k_sector_torn sp_nil))
noncomputable def an_sector_Disk_Crash_b (F : Fs) (U : Us) (cs : List UInt8) (xs : List D) (st off : Int) (M : MD) : Anns := [(2, ⟨Nat, fun j => j ≤ F.lenI (F.keysI M), fun j => F.subn (F.lenI (F.keysI M)) j, fun j => ⟨[(0, .p 0 0 0), (1, .rb 1 (.bt (U.dropC cs j))), (16, .rw 5), (17, .i (F.int (F.lenI (F.keysI M)))), (18, .i (F.int j))], [(999, 0, .bk 47 [(1, .vs [.i st]), (1, .vs [.i 0]), (1, .vs [.rw 1]), (1, .vs [.mh 2])]), (999, 1, .row 60 64 (.ds (.l8 64) (U.cP xs M (F.keysI M) cs j))), (999, 2, .mp 45 .i (.l8 64) M), (16, 5, .row 3 1 (.is (F.keysI M)))]⟩⟩)]
noncomputable def g_sector_Disk_Crash_b (F : Fs) (U : Us) : GLaw := fun l mm => match l, mm with
  | [.p 0 0 0, .rb 1 (.bt cs)], [.bk T1 [(n2, .vs [.i st]), (n3, .vs [.i off]), (n4, .vs [.rw 1]), (n5, .vs [.mh 2])], .row T0 e0 (.ds (.l8 n7) xs), .mp T6 .i (.l8 n8) M] => match Nat.beq T0 60, Nat.beq e0 64, Nat.beq T1 47, Nat.beq n2 1, Nat.beq n3 1, Nat.beq n4 1, Nat.beq n5 1, Nat.beq T6 45, Nat.beq n7 64, Nat.beq n8 64 with
    | true, true, true, true, true, true, true, true, true, true => some ⟨U.ok xs M, [], [.bk 47 [(1, .vs [.i st]), (1, .vs [.i 0]), (1, .vs [.rw 1]), (1, .vs [.mh 2])], .row 60 64 (.ds (.l8 64) (U.cX xs M cs)), .mp 45 .i (.l8 64) (F.mclr M)], []⟩
    | _, _, _, _, _, _, _, _, _, _ => none
  | _, _ => none
noncomputable def s_sector_Disk_Crash_b (F : Fs) (U : Us) : Vc.Spec := gSpec 3 0 (g_sector_Disk_Crash_b F U)
noncomputable def x_sector_Disk_Crash_b (F : Fs) (U : Us) : Cx := ⟨Try.f14.ntmps, tt F, sp_sector_Disk_Crash_b F U, [], [(6, ([(4, [1, 2])], [])), (7, ([(8, [3]), (10, [3]), (11, [3]), (15, [3, 8, 10, 11]), (17, [3, 8, 10, 11]), (19, [3])], []))], [0, 1, 2], []⟩
theorem c_sector_Disk_Crash_b (cs : List UInt8) (xs : List D) (st off : Int) (M : MD) (hc : us.ok xs M) : vc real (x_sector_Disk_Crash_b real us) (an_sector_Disk_Crash_b real us cs xs st off M) [] (Try.f14.body.getD .skip) ⟨zipSl 0 [.p 0 0 0, .rb 1 (.bt cs)], zipMe 0 [.bk 47 [(1, .vs [.i st]), (1, .vs [.i off]), (1, .vs [.rw 1]), (1, .vs [.mh 2])], .row 60 64 (.ds (.l8 64) xs), .mp 45 .i (.l8 64) M], 64⟩ (retGOk real (tt real) Try.f14.results.toList [] [.bk 47 [(1, .vs [.i st]), (1, .vs [.i 0]), (1, .vs [.rw 1]), (1, .vs [.mh 2])], .row 60 64 (.ds (.l8 64) (us.cX xs M cs)), .mp 45 .i (.l8 64) (real.mclr M)] []) := by
  generalize hU : us = U
  generalize hF : real = F
  have hc : u_ok xs M := hc
  have hsm := keys_small hc
  cbv
  repeat' first | apply And.intro | refine Classical.or_iff_not_imp_left.2 (fun _ => ?_) | exact trivial
  · subst hF hU; exact ok_keyI hc
  · refine ⟨(0 : Nat), ?_⟩
    cbv
    subst hF hU
    exact ⟨Nat.zero_le _, ⟨rfl, trivial⟩, ⟨⟨rfl, trivial⟩, trivial⟩, cP_0 xs M cs, trivial⟩
  · intro (j : Nat) hj
    replace hj : j ≤ F.lenI (F.keysI M) := hj
    cbv
    repeat' first | apply And.intro | refine Classical.or_iff_not_imp_left.2 (fun _ => ?_) | exact trivial
    · subst hF hU; exact inF rfl (lt_g (by assumption))
    · subst hF hU; exact lt_g (by assumption)
    · subst hF hU
      have h0 : j < cs.length := ch_some (by assumption)
      refine ⟨Int.le_refl _, ?_⟩
      show (0 : Int) < ((cs.drop j).length : Int)
      rw [List.length_drop]; omega
    · subst hF hU; show (0 : Int) ≤ 1; decide
    · subst hF hU
      have h0 : j < cs.length := ch_some (by assumption)
      show 1 ≤ (cs.drop j).length
      rw [List.length_drop]; omega
    · subst hF hU; exact (crash_facts hc cs (lt_g (by assumption))).1
    · subst hF hU; exact (crash_facts hc cs (lt_g (by assumption))).2.1
    · subst hF hU; exact (crash_facts hc cs (lt_g (by assumption))).2.2.1
    · subst hF hU; exact (crash_facts hc cs (lt_g (by assumption))).2.2.2
    · subst hF hU; exact (crash_facts hc cs (lt_g (by assumption))).1
    · subst hF hU; exact (crash_facts hc cs (lt_g (by assumption))).2.1
    · refine ⟨(j + 1 : Nat), ?_⟩
      cbv
      subst hF hU
      have hlt : j < M.keysI.length := lt_g (by assumption)
      have h0 : j < cs.length := ch_some (by assumption)
      exact ⟨hlt, sub_stepN hlt, ⟨ch_drop h0, addi1 (by omega), trivial⟩, cP_s (ch_get h0), trivial⟩
    · subst hF hU; exact (crash_facts hc cs (lt_g (by assumption))).1
    · subst hF hU; exact (crash_facts hc cs (lt_g (by assumption))).2.1
    · subst hF hU; exact (crash_facts hc cs (lt_g (by assumption))).2.2.1
    · subst hF hU; exact (crash_facts hc cs (lt_g (by assumption))).2.2.2
    · subst hF hU; exact (crash_facts hc cs (lt_g (by assumption))).1
    · subst hF hU; exact (crash_facts hc cs (lt_g (by assumption))).2.1
    · refine ⟨(j + 1 : Nat), ?_⟩
      cbv
      subst hF hU
      have hlt : j < M.keysI.length := lt_g (by assumption)
      have h0 : cs.length ≤ j := ch_none (by assumption)
      exact ⟨hlt, sub_stepN hlt, ⟨ch_drop0 h0, addi1 (by omega), trivial⟩, cP_s (ch_get0 h0), trivial⟩
    · subst hF hU
      have hge : M.keysI.length ≤ j := ge_g (by assumption)
      have hj : j ≤ M.keysI.length := hj
      have e : j = M.keysI.length := by omega
      subst e
      exact cX_e xs M cs
theorem k_sector_Disk_Crash_b : SpecOK Try.prog 14 (s_sector_Disk_Crash_b real us) := by
  refine g_sound (n := 3) (q := 0) (x := x_sector_Disk_Crash_b real us) ⟨tt_ok, ok_sector_Disk_Crash_b, Go.Vc.ks_nil⟩ mixed Try.func14 rfl rfl (by kernel_rfl) (by decide) (fun j hj => by simp [x_sector_Disk_Crash_b]; omega) ?_
  intro l mm c rs ch news hg hl hc
  unfold g_sector_Disk_Crash_b at hg
  split at hg
  · split at hg
    · rename_i h0 h1 h2 h3 h4 h5 h6 h7 h8 h9
      have z0 := beq_nat h0
      have z1 := beq_nat h1
      have z2 := beq_nat h2
      have z3 := beq_nat h3
      have z4 := beq_nat h4
      have z5 := beq_nat h5
      have z6 := beq_nat h6
      have z7 := beq_nat h7
      have z8 := beq_nat h8
      have z9 := beq_nat h9
      subst z0
      subst z1
      subst z2
      subst z3
      subst z4
      subst z5
      subst z6
      subst z7
      subst z8
      subst z9
      cases hg
      exact ⟨Nat.le_of_ble_eq_true rfl, an_sector_Disk_Crash_b real us _ _ _ _ _, [], c_sector_Disk_Crash_b _ _ _ _ _ hc⟩
    · cases hg
  · cases hg

theorem r_sector_Disk_Flush : Ready Try.prog 13 := by unfold Ready; kernel_rfl
noncomputable def sp_sector_Disk_Flush (F : Fs) (U : Us) : Specs := [(27, s_sector_power_step F U)]
theorem ok_sector_Disk_Flush : SpecsOK Try.prog (sp_sector_Disk_Flush real us) := sp_cons r_sector_power_step k_sector_power_step sp_nil
noncomputable def an_sector_Disk_Flush (F : Fs) (U : Us) (xs : List D) (st off : Int) (M : MD) : Anns := [(4, ⟨List Nat, fun l => U.seenOk M l, fun l => U.left M l, fun l => ⟨[(0, .p 0 0 0), (14, .p 5 0 0)], [(999, 0, .bk 47 [(1, .vs [.i (F.addi st (F.int 1))]), (1, .vs [.i off]), (1, .vs [.rw 1]), (1, .vs [.mh 2])]), (999, 1, .row 60 64 (.ds (.l8 64) (U.flP xs M l))), (999, 2, .mp 45 .i (.l8 64) M), (14, 5, .it 2 (F.mclk M) l (F.mclk M))]⟩⟩)]
noncomputable def g_sector_Disk_Flush (F : Fs) (U : Us) : GLaw := fun l mm => match l, mm with
  | [.p 0 0 0], [.bk T1 [(n2, .vs [.i st]), (n3, .vs [.i off]), (n4, .vs [.rw 1]), (n5, .vs [.mh 2])], .row T0 e0 (.ds (.l8 n7) xs), .mp T6 .i (.l8 n8) M] => match Nat.beq T0 60, Nat.beq e0 64, Nat.beq T1 47, Nat.beq n2 1, Nat.beq n3 1, Nat.beq n4 1, Nat.beq n5 1, Nat.beq T6 45, Nat.beq n7 64, Nat.beq n8 64 with
    | true, true, true, true, true, true, true, true, true, true => some ⟨U.ok xs M, [.i (U.fE st off)], [.bk 47 [(1, .vs [.i (F.addi st (F.int 1))]), (1, .vs [.i off]), (1, .vs [.rw 1]), (1, .vs [.mh 2])], .row 60 64 (.ds (.l8 64) (U.fX st off xs M)), .mp 45 .i (.l8 64) (U.fM st off M)], []⟩
    | _, _, _, _, _, _, _, _, _, _ => none
  | _, _ => none
noncomputable def s_sector_Disk_Flush (F : Fs) (U : Us) : Vc.Spec := gSpec 3 0 (g_sector_Disk_Flush F U)
noncomputable def x_sector_Disk_Flush (F : Fs) (U : Us) : Cx := ⟨Try.f13.ntmps, tt F, sp_sector_Disk_Flush F U, [], [(6, ([(5, [3])], []))], [0, 1, 2], []⟩
theorem c_sector_Disk_Flush (xs : List D) (st off : Int) (M : MD) (hc : us.ok xs M) : vc real (x_sector_Disk_Flush real us) (an_sector_Disk_Flush real us xs st off M) [] (Try.f13.body.getD .skip) ⟨zipSl 0 [.p 0 0 0], zipMe 0 [.bk 47 [(1, .vs [.i st]), (1, .vs [.i off]), (1, .vs [.rw 1]), (1, .vs [.mh 2])], .row 60 64 (.ds (.l8 64) xs), .mp 45 .i (.l8 64) M], 64⟩ (retGOk real (tt real) Try.f13.results.toList [.i (us.fE st off)] [.bk 47 [(1, .vs [.i (real.addi st (real.int 1))]), (1, .vs [.i off]), (1, .vs [.rw 1]), (1, .vs [.mh 2])], .row 60 64 (.ds (.l8 64) (us.fX st off xs M)), .mp 45 .i (.l8 64) (us.fM st off M)] []) := by
  generalize hU : us = U
  generalize hF : real = F
  have hc : u_ok xs M := hc
  cbv
  repeat' first | apply And.intro | refine Classical.or_iff_not_imp_left.2 (fun _ => ?_) | exact trivial
  · subst hF hU
    have o : u_off (IntKind.i64.wrap (st + 1)) off = true := nn_t (by assumption)
    show 61 = u_fE st off
    unfold u_fE; rw [if_pos o]
  · subst hF hU
    have o : u_off (IntKind.i64.wrap (st + 1)) off = true := nn_t (by assumption)
    show xs = u_fX st off xs M
    unfold u_fX u_fE; rw [if_pos o]; rfl
  · subst hF hU
    have o : u_off (IntKind.i64.wrap (st + 1)) off = true := nn_t (by assumption)
    show M = u_fM st off M
    unfold u_fM u_fE; rw [if_pos o]; rfl
  · refine ⟨([] : List Nat), ?_⟩
    cbv
    subst hF hU
    exact ⟨⟨List.nodup_nil, fun b hb => by simp at hb⟩, flP_0 xs M, trivial⟩
  · have o : U.off (F.addi st (F.int 1)) off = false := by subst hF hU; exact nn_f (by assumption)
    intro (l : List Nat) hl
    replace hl : U.seenOk M l := hl
    cbv
    repeat' first | apply And.intro | refine Classical.or_iff_not_imp_left.2 (fun _ => ?_) | exact trivial
    · subst hF hU; exact ⟨rfl, rfl⟩
    · intro hok hno
      cbv
      subst hF hU
      obtain ⟨q1, q2, q3⟩ := fl_end (st := st) (off := off) hc hl hno o
      exact ⟨⟨q1, trivial⟩, q2, q3, trivial⟩
    · intro b hok hb
      cbv
      repeat' first | apply And.intro | refine Classical.or_iff_not_imp_left.2 (fun _ => ?_) | exact trivial
      · subst hF hU; exact fl_ent hb
      · subst hF hU; exact (fl_idx hc hl hb).1
      · subst hF hU; exact (fl_idx hc hl hb).2
      · refine ⟨(F.appN l b : List Nat), ?_⟩
        cbv
        subst hF hU
        have hs := left_step hl hb
        exact ⟨hs.1, hs.2, fl_s hc hb, trivial⟩
theorem k_sector_Disk_Flush : SpecOK Try.prog 13 (s_sector_Disk_Flush real us) := by
  refine g_sound (n := 3) (q := 0) (x := x_sector_Disk_Flush real us) ⟨tt_ok, ok_sector_Disk_Flush, Go.Vc.ks_nil⟩ mixed Try.func13 rfl rfl (by kernel_rfl) (by decide) (fun j hj => by simp [x_sector_Disk_Flush]; omega) ?_
  intro l mm c rs ch news hg hl hc
  unfold g_sector_Disk_Flush at hg
  split at hg
  · split at hg
    · rename_i h0 h1 h2 h3 h4 h5 h6 h7 h8 h9
      have z0 := beq_nat h0
      have z1 := beq_nat h1
      have z2 := beq_nat h2
      have z3 := beq_nat h3
      have z4 := beq_nat h4
      have z5 := beq_nat h5
      have z6 := beq_nat h6
      have z7 := beq_nat h7
      have z8 := beq_nat h8
      have z9 := beq_nat h9
      subst z0
      subst z1
      subst z2
      subst z3
      subst z4
      subst z5
      subst z6
      subst z7
      subst z8
      subst z9
      cases hg
      exact ⟨Nat.le_of_ble_eq_true rfl, an_sector_Disk_Flush real us _ _ _ _, [], c_sector_Disk_Flush _ _ _ _ hc⟩
    · cases hg
  · cases hg

theorem r_sector_Disk_Image : Ready Try.prog 15 := by unfold Ready; kernel_rfl
noncomputable def sp_sector_Disk_Image (F : Fs) (U : Us) : Specs := []
theorem ok_sector_Disk_Image : SpecsOK Try.prog (sp_sector_Disk_Image real us) := sp_nil
noncomputable def an_sector_Disk_Image (F : Fs) (U : Us) (xs : List D) (st off : Int) (M : MD) : Anns := [(3, ⟨Nat, fun j => j ≤ F.lenD xs, fun j => F.subn (F.lenD xs) j, fun j => ⟨[(0, .p 0 0 0), (3, .rw 5), (16, .rw 1), (17, .i (F.int (F.lenD xs))), (18, .i (F.int j))], [(999, 0, .bk 47 [(1, .vs [.i st]), (1, .vs [.i off]), (1, .vs [.rw 1]), (1, .vs [.mh 2])]), (999, 1, .row 60 64 (.ds (.l8 64) xs)), (999, 2, .mp 45 .i (.l8 64) M), (3, 5, .row 5 1 (.bt (U.imgP xs j)))]⟩⟩)]
noncomputable def g_sector_Disk_Image (F : Fs) (U : Us) : GLaw := fun l mm => match l, mm with
  | [.p 0 0 0], [.bk T1 [(n2, .vs [.i st]), (n3, .vs [.i off]), (n4, .vs [.rw 1]), (n5, .vs [.mh 2])], .row T0 e0 (.ds (.l8 n7) xs), .mp T6 .i (.l8 n8) M] => match Nat.beq T0 60, Nat.beq e0 64, Nat.beq T1 47, Nat.beq n2 1, Nat.beq n3 1, Nat.beq n4 1, Nat.beq n5 1, Nat.beq T6 45, Nat.beq n7 64, Nat.beq n8 64 with
    | true, true, true, true, true, true, true, true, true, true => some ⟨U.ok xs M, [.rw 3], [.bk 47 [(1, .vs [.i st]), (1, .vs [.i off]), (1, .vs [.rw 1]), (1, .vs [.mh 2])], .row 60 64 (.ds (.l8 64) xs), .mp 45 .i (.l8 64) M], [.row 5 1 (.bt (U.img xs))]⟩
    | _, _, _, _, _, _, _, _, _, _ => none
  | _, _ => none
noncomputable def s_sector_Disk_Image (F : Fs) (U : Us) : Vc.Spec := gSpec 3 1 (g_sector_Disk_Image F U)
noncomputable def x_sector_Disk_Image (F : Fs) (U : Us) : Cx := ⟨Try.f15.ntmps, tt F, sp_sector_Disk_Image F U, [], [], [0, 1, 2], []⟩
theorem c_sector_Disk_Image (xs : List D) (st off : Int) (M : MD) (hc : us.ok xs M) : vc real (x_sector_Disk_Image real us) (an_sector_Disk_Image real us xs st off M) [] (Try.f15.body.getD .skip) ⟨zipSl 0 [.p 0 0 0], zipMe 0 [.bk 47 [(1, .vs [.i st]), (1, .vs [.i off]), (1, .vs [.rw 1]), (1, .vs [.mh 2])], .row 60 64 (.ds (.l8 64) xs), .mp 45 .i (.l8 64) M], 64⟩ (retGOk real (tt real) Try.f15.results.toList [.rw 3] [.bk 47 [(1, .vs [.i st]), (1, .vs [.i off]), (1, .vs [.rw 1]), (1, .vs [.mh 2])], .row 60 64 (.ds (.l8 64) xs), .mp 45 .i (.l8 64) M] [.row 5 1 (.bt (us.img xs))]) := by
  generalize hU : us = U
  generalize hF : real = F
  have hc : u_ok xs M := hc
  have h4 := ok_len hc
  cbv
  repeat' first | apply And.intro | refine Classical.or_iff_not_imp_left.2 (fun _ => ?_) | exact trivial
  · subst hF hU; show (0 : Int) ≤ 0; decide
  · subst hF hU
    show (0 : Int) ≤ IntKind.i64.wrap ((xs.length : Int) * 64)
    rw [wrap_sm (by omega) (by omega)]; omega
  · subst hF hU
    show (0 : Int) ≤ IntKind.i64.wrap ((xs.length : Int) * 64) ∧ IntKind.i64.wrap ((xs.length : Int) * 64) * ((1 : Nat) : Int) ≤ 281474976710656 ∧ IntKind.i64.wrap ((xs.length : Int) * 64) ≤ 4611686018427387904
    rw [wrap_sm (by omega) (by omega)]; omega
  · refine ⟨(0 : Nat), ?_⟩
    cbv
    subst hF hU
    exact ⟨Nat.zero_le _, imgP_0 xs, trivial⟩
  · intro (j : Nat) hj
    replace hj : j ≤ F.lenD xs := hj
    cbv
    repeat' first | apply And.intro | refine Classical.or_iff_not_imp_left.2 (fun _ => ?_) | exact trivial
    · subst hF hU; exact inF rfl (lt_g (by assumption))
    · subst hF hU; exact lt_g (by assumption)
    · subst hF hU
      have hlt : j < xs.length := lt_g (by assumption)
      obtain ⟨l, g1, g2⟩ := allL_get (ok_all hc) hlt
      show 0 + 64 ≤ (xs.getD j D.no).gl8.length
      rw [g1]
      show 64 ≤ l.length
      omega
    · subst hF hU
      have hlt : j < xs.length := lt_g (by assumption)
      obtain ⟨l, g1, g2⟩ := allL_get (ok_all hc) hlt
      have hp := imgP_len (ok_all hc) j (by omega)
      have e : (real.cutB (real.dL8 (real.getD xs (real.nat (real.int j)))) 0 64).length = 64 := by
        show ((xs.getD j D.no).gl8.take 64).length = 64
        rw [g1, List.length_take]
        show min 64 l.length = 64
        omega
      show ((u_imgP xs j).length + (real.cutB (real.dL8 (real.getD xs (real.nat (real.int j)))) 0 64).length) * 1 ≤ 140737488355328 ∧ (u_imgP xs j).length + (real.cutB (real.dL8 (real.getD xs (real.nat (real.int j)))) 0 64).length ≤ 4611686018427387904
      rw [e, hp]
      omega
    · refine ⟨(j + 1 : Nat), ?_⟩
      cbv
      subst hF hU
      have hlt : j < xs.length := lt_g (by assumption)
      exact ⟨hlt, sub_stepN hlt, ⟨addi1 (by omega), trivial⟩, img_s hc hlt, trivial⟩
    · subst hF hU
      have hge : xs.length ≤ j := ge_g (by assumption)
      have hj : j ≤ xs.length := hj
      have e : j = xs.length := by omega
      subst e
      exact img_e xs
theorem k_sector_Disk_Image : SpecOK Try.prog 15 (s_sector_Disk_Image real us) := by
  refine g_sound (n := 3) (q := 1) (x := x_sector_Disk_Image real us) ⟨tt_ok, ok_sector_Disk_Image, Go.Vc.ks_nil⟩ mixed Try.func15 rfl rfl (by kernel_rfl) (by decide) (fun j hj => by simp [x_sector_Disk_Image]; omega) ?_
  intro l mm c rs ch news hg hl hc
  unfold g_sector_Disk_Image at hg
  split at hg
  · split at hg
    · rename_i h0 h1 h2 h3 h4 h5 h6 h7 h8 h9
      have z0 := beq_nat h0
      have z1 := beq_nat h1
      have z2 := beq_nat h2
      have z3 := beq_nat h3
      have z4 := beq_nat h4
      have z5 := beq_nat h5
      have z6 := beq_nat h6
      have z7 := beq_nat h7
      have z8 := beq_nat h8
      have z9 := beq_nat h9
      subst z0
      subst z1
      subst z2
      subst z3
      subst z4
      subst z5
      subst z6
      subst z7
      subst z8
      subst z9
      cases hg
      exact ⟨Nat.le_of_ble_eq_true rfl, an_sector_Disk_Image real us _ _ _ _, [], c_sector_Disk_Image _ _ _ _ hc⟩
    · cases hg
  · cases hg

end Go.Proofs.Ythhgmjclmdggjaa
set_option linter.unusedVariables false
set_option linter.unusedSimpArgs false
set_option maxRecDepth 100000
set_option maxHeartbeats 1000000
namespace Go.Proofs.Ythhgmjclmdggjaa
open Go Go.Vc
/-! ## What a crash leaves, in plain words -/
theorem keysI_nodup {xs : List D} {M : MD} (h : u_ok xs M) : M.keysI.Nodup := by
  have h1 : (M.es.map fun e => e.2.1.gi).Nodup := by
    have h2 : M.es.map (fun e => e.2.1.gi) = (M.es.map (·.2.1)).map D.gi := by rw [List.map_map]; rfl
    rw [h2]
    refine List.pairwise_map.2 (List.Pairwise.imp_of_mem (fun {a b} ha hb hne => ?_) h.2.2.2.1)
    obtain ⟨x, hx, rfl⟩ := List.mem_map.1 ha
    obtain ⟨y, hy, rfl⟩ := List.mem_map.1 hb
    obtain ⟨n, l, q1, _⟩ := h.2.2.1 x hx
    obtain ⟨n', l', p1, _⟩ := h.2.2.1 y hy
    have hne : x.2.1 ≠ y.2.1 := hne
    show x.2.1.gi ≠ y.2.1.gi
    rw [q1, p1] at hne ⊢
    intro heq
    exact hne (congrArg D.i heq)
  exact (List.mergeSort_perm _ _).symm.nodup h1
theorem keys_inj {xs : List D} {M : MD} (h : u_ok xs M) {j k : Nat} (hj : j < M.keysI.length) (hk : k < M.keysI.length) (e : M.keysI.getD j 0 = M.keysI.getD k 0) : j = k := by
  rw [List.getD_eq_getElem?_getD, List.getElem?_eq_getElem hj, List.getD_eq_getElem?_getD, List.getElem?_eq_getElem hk] at e
  exact (List.getElem?_inj hj (keysI_nodup h)).1 (by rw [List.getElem?_eq_getElem hj, List.getElem?_eq_getElem hk]; exact congrArg some e)
theorem cP_get1 {xs : List D} {M : MD} (h : u_ok xs M) (cs : List UInt8) (i : Nat) : ∀ j, j ≤ M.keysI.length → (∀ k, k < j → M.keysI.getD k 0 ≠ (i : Int)) → (u_cP xs M M.keysI cs j).getD i D.no = xs.getD i D.no
  | 0, _, _ => rfl
  | j + 1, hj, hn => by
    obtain ⟨n, l, k1, k2, k3, k4⟩ := ck_key h (j := j) (by omega)
    have hne := hn j (by omega)
    rw [u_cP, List.getD_eq_getElem?_getD, List.getElem?_set_ne (by rw [k1] at hne ⊢; omega), ← List.getD_eq_getElem?_getD]
    exact cP_get1 h cs i j (by omega) fun k hk => hn k (by omega)
theorem cP_get2 {xs : List D} {M : MD} (h : u_ok xs M) (cs : List UInt8) (i : Nat) {k : Nat} (hk : M.keysI.getD k 0 = (i : Int)) : ∀ j, j ≤ M.keysI.length → k < j → (u_cP xs M M.keysI cs j).getD i D.no = .l8 (u_torn (xs.getD i D.no).gl8 (M.get (.i (i : Int)) z64).gl8 (cs.getD k 0))
  | 0, _, h0 => absurd h0 (Nat.not_lt_zero k)
  | j + 1, hj, h0 => by
    obtain ⟨n, l, k1, k2, k3, k4⟩ := ck_key h (j := j) (by omega)
    obtain ⟨g1, g2⟩ := cP_ok h cs j (by omega)
    by_cases e : k = j
    · subst e
      have hi : n = i := by rw [hk] at k1; omega
      subst hi
      rw [u_cP, k1]
      show ((u_cP xs M M.keysI cs k).set n (.l8 (u_torn ((u_cP xs M M.keysI cs k).getD n D.no).gl8 (M.get (.i (n : Int)) z64).gl8 (cs.getD k 0)))).getD n D.no = _
      rw [List.getD_eq_getElem?_getD, List.getElem?_set_self (by rw [g1]; exact k2)]
      show D.l8 (u_torn ((u_cP xs M M.keysI cs k).getD n D.no).gl8 _ _) = _
      rw [cP_get1 h cs n k (by omega) fun k2 hk2 e2 => by
        have := keys_inj h (j := k2) (k := k) (by omega) (by omega) (by rw [e2, hk])
        omega]
    · have hne : (M.keysI.getD j 0).toNat ≠ i := by
        intro e2
        have : k = j := keys_inj h (by omega) (by omega) (by rw [hk, k1]; rw [k1] at e2; omega)
        exact e this
      rw [u_cP, List.getD_eq_getElem?_getD, List.getElem?_set_ne hne, ← List.getD_eq_getElem?_getD]
      exact cP_get2 h cs i hk j (by omega) (by omega)
theorem cX_no {xs : List D} {M : MD} (h : u_ok xs M) (cs : List UInt8) (i : Nat) (hn : MD.find M.es (.i (i : Int)) = none) : (u_cX xs M cs).getD i D.no = xs.getD i D.no := by
  refine cP_get1 h cs i _ (Nat.le_refl _) fun k hk e => ?_
  obtain ⟨n, l, k1, k2, k3, k4⟩ := ck_key h hk
  rw [e] at k1
  rw [← k1, hn] at k3
  cases k3
theorem cX_yes {xs : List D} {M : MD} (h : u_ok xs M) (cs : List UInt8) (i : Nat) {d : D} (hd : MD.find M.es (.i (i : Int)) = some d) : ∃ k, k < M.keysI.length ∧ M.keysI.getD k 0 = (i : Int) ∧ (u_cX xs M cs).getD i D.no = .l8 (u_torn (xs.getD i D.no).gl8 d.gl8 (cs.getD k 0)) := by
  obtain ⟨b, hb⟩ := MD.find_mem hd
  have hm : (i : Int) ∈ M.keysI := keysI_mem.2 ⟨_, hb, rfl⟩
  obtain ⟨k, hk⟩ := List.mem_iff_getElem?.1 hm
  obtain ⟨hk1, hk2⟩ := List.getElem?_eq_some_iff.1 hk
  have e : M.keysI.getD k 0 = (i : Int) := by rw [List.getD_eq_getElem?_getD, hk]; rfl
  refine ⟨k, hk1, e, ?_⟩
  have := cP_get2 h cs i e _ (Nat.le_refl _) hk1
  rw [MD.get_eq, hd] at this
  exact this
theorem cX_len {xs : List D} {M : MD} (h : u_ok xs M) (cs : List UInt8) : (u_cX xs M cs).length = xs.length := (cP_ok h cs _ (Nat.le_refl _)).1
theorem flush_len (xs : List D) (M : MD) : (u_flush xs M).length = xs.length := by unfold u_flush; simp
theorem flush_get {xs : List D} {M : MD} {i : Nat} (hi : i < xs.length) : (u_flush xs M).getD i D.no = (MD.find M.es (.i (i : Int))).getD (xs.getD i D.no) := by
  rw [List.getD_eq_getElem?_getD, List.getElem?_eq_getElem (by rw [flush_len]; exact hi)]
  unfold u_flush
  simp
theorem now_eq (xs : List D) (M : MD) (i : Nat) : u_now xs M (i : Int) = ((MD.find M.es (.i (i : Int))).getD (xs.getD i D.no)).gl8 := by
  unfold u_now
  rw [MD.has_eq, MD.get_eq]
  cases h : MD.find M.es (.i (i : Int)) with
  | none => simp
  | some d => simp
theorem isI_len {i : Int} {xs ys : List D} (h : xs.length = ys.length) : u_isI i xs = u_isI i ys := by unfold u_isI; rw [h]
theorem torn_0 {a b : List UInt8} : u_torn a b 0 = a := by unfold u_torn; simp
theorem torn_255 {a b : List UInt8} (ha : a.length = 64) (hb : b.length = 64) : u_torn a b 255 = b := by
  unfold u_torn
  simp only [if_true]
  rw [List.take_of_length_le (by omega), List.drop_of_length_le (by omega), List.append_nil]
end Go.Proofs.Ythhgmjclmdggjaa
set_option linter.unusedVariables false
namespace Go.Vc
open Go Go.RowKit
/-- one of two contracts: the one whose condition holds -/
def orK (s1 s2 : Spec) : KSpec := fun args s K =>
  match (s1 args s.nk).run s.me, (s2 args s.nk).run s.me with
  | some e1, some e2 => (e1.c ∨ e2.c) ∧ (e1.c → K e1.v ⟨s.sl, mputs e1.puts s.me, s.nk + 8⟩) ∧ (e2.c → K e2.v ⟨s.sl, mputs e2.puts s.me, s.nk + 8⟩)
  | _, _ => False
theorem or_ok {P : Program} {f : Nat} {s1 s2 : Spec} (h1 : SpecOK P f s1) (h2 : SpecOK P f s2) : KSpecOK P f (orK s1 s2) := by
  intro E s m w args vals K hE hs hv hk
  unfold orK at hk
  split at hk
  · rename_i e1 e2 q1 q2
    have hb : Base m w s.me s.nk := ⟨hs.mem, hs.bd, fun k hk _ => hs.nk k hk⟩
    have fin : ∀ (sp : Spec) (e : Eff), SpecOK P f sp → (sp args s.nk).run s.me = some e → e.c → K e.v ⟨s.sl, mputs e.puts s.me, s.nk + 8⟩ → Calls P f vals.toArray w fun en w' => ∃ v, en = .returned v ∧ ∃ av s' m', K av s' ∧ RV m' w' av v ∧ StM E s'.me s'.nk m' w' ∧ Pres m w m' w' := by
      intro sp e hok hr hc hK
      refine (hok m w s.me s.nk args vals e (hE.inv hs.fr) hb hv hr hc).mono ?_
      rintro en w' ⟨v, rfl, m', hq⟩
      refine ⟨v, rfl, e.v, ⟨s.sl, mputs e.puts s.me, s.nk + 8⟩, m', hK, hq.rv, ⟨hq.mem, hq.bd, fun k hk1 => ?_, hs.fr.step hq.tr⟩, hq.tr.pres⟩
      cases hm : m' k with
      | none => rfl
      | some u =>
        exfalso
        have hk1 : s.nk + 8 ≤ k := hk1
        rcases hq.keys k (by simp [hm]) with h1 | h1
        · exact h1 (hs.nk k (by omega))
        · omega
    rcases hk.1 with hc | hc
    · exact fin s1 e1 h1 q1 hc (hk.2.1 hc)
    · exact fin s2 e2 h2 q2 hc (hk.2.2 hc)
  · exact hk.elim
end Go.Vc
set_option linter.unusedVariables false
set_option linter.unusedSimpArgs false
set_option maxRecDepth 100000
set_option maxHeartbeats 1000000
namespace Go.Proofs.Ythhgmjclmdggjaa
open Go Go.Vc
noncomputable def s_sector_Disk_Crash (F : Fs) (U : Us) : Vc.Spec := rbSpec F [.keep, .row (.kB)] (s_sector_Disk_Crash_b F U)
theorem r_sector_Disk_Crash : Ready Try.prog 14 := by unfold Ready; kernel_rfl
theorem k_sector_Disk_Crash : SpecOK Try.prog 14 (s_sector_Disk_Crash real us) := rb_ok k_sector_Disk_Crash_b
noncomputable def ki_sector_Disk_Read (F : Fs) (U : Us) : KSpec := orK (s_sector_Disk_Read_o F U) (s_sector_Disk_Read_n F U)
theorem r_sector_Disk_Read : Ready Try.prog 12 := by unfold Ready; kernel_rfl
theorem kk_sector_Disk_Read : KSpecOK Try.prog 12 (ki_sector_Disk_Read real us) := or_ok k_sector_Disk_Read_o k_sector_Disk_Read_n
/-! ## The known answers -/
def kn0 : List D := List.replicate 3 z64
def kn1 : MD := ⟨[(0, .i 1, .l8 (97 :: 98 :: List.replicate 62 0))], 1⟩
theorem kn_ok0 : u_ok kn0 ⟨[], 0⟩ := ok_new (n := 3) (by decide) 0
theorem kn_M1 : u_wM 0 0 kn0 ⟨[], 0⟩ 1 [97, 98] = kn1 := by kernel_rfl
theorem kn_M2 : u_wM 1 0 kn0 kn1 3 [] = kn1 := by kernel_rfl
theorem kn_ok1 : u_ok kn0 kn1 := by
  rw [← kn_M1]; exact ok_wM kn_ok0
theorem kn_read : u_rB 2 0 kn0 kn1 1 = 97 :: 98 :: List.replicate 62 0 := by kernel_rfl
theorem kn_crash : ((u_cX kn0 kn1 []).getD 1 D.no).gl8 = List.replicate 64 0 := by
  obtain ⟨k, _, _, h⟩ := cX_yes kn_ok1 [] 1 (d := .l8 (97 :: 98 :: List.replicate 62 0)) (by kernel_rfl)
  rw [h]
  show u_torn _ _ (([] : List UInt8).getD k 0) = _
  rw [List.getD_nil, torn_0]
  kernel_rfl
def kn2 : MD := u_wM 1 0 kn0 (u_wM 0 0 kn0 ⟨[], 0⟩ 1 [97, 98]) 3 []
theorem kn_2 : kn2 = kn1 := by unfold kn2; rw [kn_M1, kn_M2]
theorem kn_rE : u_rE 2 0 (u_cX kn0 kn2 []) 1 = 0 := by
  unfold u_rE
  rw [kn_2, isI_len (cX_len kn_ok1 [])]
  kernel_rfl
theorem kn_c : u_now (u_cX kn0 kn2 []) (real.mclr kn2) 1 = List.replicate 64 0 := by
  rw [kn_2]
  refine Eq.trans (now_eq _ _ 1) ?_
  exact kn_crash
theorem kn_c0 : (u_now (u_cX kn0 kn2 []) (real.mclr kn2) 1).getD 0 0 = 0 := by rw [kn_c]; rfl
theorem ok_cX {xs : List D} {M : MD} (h : u_ok xs M) (cs : List UInt8) : us.ok (us.cX xs M cs) (real.mclr M) := ok_crash h cs _
theorem pbx {a b : Bool} (h : ¬ real.pB a b) (e : a = b) : False := h e
theorem pb_eq0 {a : Int} (h : a = 0) : real.pB (real.eqi a 0) true := by subst h; rfl
theorem no_eq8 {a : UInt8} (h : a = 0) (h2 : ¬ real.pB (real.eq8 a (real.ofI8 (real.int 0))) true) : False := h2 (by subst h; rfl)
attribute [local irreducible] u_cX u_rE u_now
theorem r_law6_known : Ready Try.prog 9 := by unfold Ready; kernel_rfl
noncomputable def sp_law6_known (F : Fs) (U : Us) : Specs := [(10, s_sector_New F U), (25, s_sector_Disk_Len F U), (11, s_sector_Disk_Write F U), (12, s_sector_Disk_Read_o F U), (14, s_sector_Disk_Crash F U), (26, s_sector_power_Steps F U)]
theorem ok_law6_known : SpecsOK Try.prog (sp_law6_known real us) := sp_cons r_sector_New k_sector_New (sp_cons r_sector_Disk_Len k_sector_Disk_Len (sp_cons r_sector_Disk_Write k_sector_Disk_Write (sp_cons r_sector_Disk_Read_o k_sector_Disk_Read_o (sp_cons r_sector_Disk_Crash k_sector_Disk_Crash (sp_cons r_sector_power_Steps k_sector_power_Steps sp_nil)))))
noncomputable def g_law6_known (F : Fs) (U : Us) : Law
  | [] => some (True, [.val (.b true)])
  | _ => none
noncomputable def s_law6_known (F : Fs) (U : Us) : Vc.Spec := pureSpec F false [] (g_law6_known F U)
noncomputable def x_law6_known (F : Fs) (U : Us) : Cx := ⟨Try.f9.ntmps, tt F, sp_law6_known F U, [], [], [], []⟩
theorem c_law6_known  : vc real (x_law6_known real us) [] [] (Try.f9.body.getD .skip) ⟨zipSl 0 [], [], 64⟩ (retOk real (tt real) false Try.f9.results.toList [.val (.b true)]) := by
  generalize hU : us = U
  generalize hF : real = F
  cbv
  repeat' first | apply And.intro | refine Classical.or_iff_not_imp_left.2 (fun _ => ?_) | exact trivial
  · subst hF hU; exact Nat.le_of_ble_eq_true (by kernel_rfl)
  · subst hF hU; exact ok_new (n := 3) (by decide) 0
  · subst hF hU; exact Nat.le_of_ble_eq_true (by kernel_rfl)
  · subst hF hU; exact ok_wM (ok_new (n := 3) (by decide) 0)
  · subst hF hU; exact Nat.zero_le _
  · rename_i h; subst hF hU; exact (pbx h (by kernel_rfl)).elim
  · subst hF hU; exact ok_wM (ok_wM (ok_new (n := 3) (by decide) 0))
  · subst hF hU; show _ = _; kernel_rfl
  · subst hF hU; exact ok_wM (ok_wM (ok_new (n := 3) (by decide) 0))
  · subst hF hU; exact ok_cX (ok_wM (ok_wM (ok_new (n := 3) (by decide) 0))) _
  · subst hF hU; exact pb_eq0 kn_rE
  · subst hF hU; exact ⟨by decide, by decide⟩
  · subst hF hU; exact Nat.le_of_ble_eq_true (by kernel_rfl)
  · subst hF hU; exact ⟨by decide, by decide⟩
  · subst hF hU; exact Nat.le_of_ble_eq_true (by kernel_rfl)
  · subst hF hU; show _ = _; kernel_rfl
  · rename_i h; subst hF hU; exact (pbx h (by kernel_rfl)).elim
  · rename_i h; subst hF hU; exact (no_eq8 kn_c0 h).elim
  all_goals (rename_i h; subst hF hU; exact (pbx h (by kernel_rfl)).elim)
theorem k_law6_known : SpecOK Try.prog 9 (s_law6_known real us) := by
  refine pure_sound (x := x_law6_known real us) ⟨tt_ok, ok_law6_known, Go.Vc.ks_nil⟩ mixed Try.func9 rfl rfl (by kernel_rfl) ?_
  intro l c rs hg hc
  unfold g_law6_known at hg
  split at hg
  · cases hg; exact ⟨Nat.le_of_ble_eq_true rfl, [], [], c_law6_known ⟩
  · cases hg

end Go.Proofs.Ythhgmjclmdggjaa
set_option linter.unusedVariables false
set_option linter.unusedSimpArgs false
set_option maxRecDepth 100000
set_option maxHeartbeats 1000000
namespace Go.Proofs.Ythhgmjclmdggjaa
open Go Go.Vc
/-! ## Sectors side by side -/
theorem rem8_eq (i : UInt8) : IntKind.i64.wrap ((i % 8).toNat : Int) = ((i.toNat % 8 : Nat) : Int) := by
  have h : (i % 8).toNat = i.toNat % 8 := by rw [UInt8.toNat_mod]; rfl
  have h2 : i.toNat % 8 < 8 := Nat.mod_lt _ (by decide)
  rw [h]
  generalize i.toNat % 8 = n at h2
  rw [wrap_sm (by omega) (by omega)]
theorem x8_len : x8.length = 8 := rfl
theorem x8_ok : u_ok x8 ⟨[], 0⟩ := ok_new (by decide) 0
theorem off0 (st : Int) : u_off st 0 = false := by unfold u_off; rfl
theorem wE_0 {st : Int} {xs : List D} {i : Nat} {b : List UInt8} (hi : i < xs.length) (hb : b.length ≤ 64) : u_wE st 0 xs (i : Int) b = 0 := wE_ok (off0 _) (isI_of hi) hb
theorem rE_0 {st : Int} {xs : List D} {i : Nat} (hi : i < xs.length) : u_rE st 0 xs (i : Int) = 0 := by
  unfold u_rE; rw [off0, isI_of hi]; rfl
theorem apM_ok (i j : UInt8) (a b : List UInt8) : u_ok x8 (u_apM i j a b) := ok_wM (ok_wM x8_ok)
theorem now_wM {st : Int} {xs : List D} {M : MD} {i k : Nat} {b : List UInt8} (hi : i < xs.length) (hb : b.length ≤ 64) : u_now xs (u_wM st 0 xs M (i : Int) b) (k : Int) = if k = i then b ++ (u_now xs M (i : Int)).drop b.length else u_now xs M (k : Int) := by
  rw [wM_ok (wE_0 hi hb), now_eq, MD.find_set]
  by_cases e : k = i
  · subst e; rw [if_pos rfl, if_pos rfl]; rfl
  · have e2 : ¬ (D.i (k : Int) = .i (i : Int)) := fun h => by injection h with h; omega
    rw [if_neg e2, if_neg e, now_eq]
def chunk (L : List UInt8) (k : Nat) : List UInt8 := (L.drop (64 * k)).take 64
theorem spl_len {L a : List UInt8} {p : Nat} (h : p + a.length ≤ L.length) : (u_spl L p a).length = L.length := by
  unfold u_spl
  simp only [List.length_append, List.length_take, List.length_drop]; omega
theorem spl_get {L a : List UInt8} {p : Nat} (h : p + a.length ≤ L.length) (t : Nat) : (u_spl L p a)[t]? = if t < p then L[t]? else if t < p + a.length then a[t - p]? else L[t]? := by
  unfold u_spl
  rw [List.append_assoc, List.getElem?_append, List.length_take]
  by_cases h1 : t < p
  · rw [if_pos (by omega), if_pos h1, List.getElem?_take, if_pos h1]
  · rw [if_neg (by omega), if_neg h1, List.getElem?_append, Nat.min_eq_left (by omega)]
    by_cases h2 : t < p + a.length
    · rw [if_pos (by omega), if_pos h2]
    · rw [if_neg (by omega), if_neg h2, List.getElem?_drop]
      congr 1
      omega
theorem spl_chunk {L a : List UInt8} {x k : Nat} (ha : a.length ≤ 64) (h : 64 * x + 64 ≤ L.length) (hk : 64 * k + 64 ≤ L.length) : chunk (u_spl L (64 * x) a) k = if k = x then a ++ (chunk L x).drop a.length else chunk L k := by
  apply List.ext_getElem?
  intro t
  unfold chunk
  rw [List.getElem?_take, List.getElem?_drop]
  by_cases e : k = x
  · subst e
    rw [if_pos rfl, List.getElem?_append]
    by_cases h1 : t < 64
    · rw [if_pos h1, spl_get (by omega), if_neg (by omega)]
      by_cases h2 : t < a.length
      · rw [if_pos (by omega), if_pos h2]; congr 1; omega
      · rw [if_neg (by omega), if_neg h2, List.getElem?_drop, List.getElem?_take, if_pos (by omega), List.getElem?_drop]; congr 1; omega
    · rw [if_neg h1, if_neg (by omega), List.getElem?_drop, List.getElem?_take, if_neg (by omega)]
  · rw [if_neg e, List.getElem?_take, List.getElem?_drop]
    by_cases h1 : t < 64
    · rw [if_pos h1, if_pos h1, spl_get (by omega)]
      by_cases h2 : k < x
      · rw [if_pos (by omega)]
      · rw [if_neg (by omega), if_neg (by omega)]
    · rw [if_neg h1, if_neg h1]
theorem chunk0 {k : Nat} (hk : k < 8) : chunk (List.replicate 512 0) k = List.replicate 64 0 := by
  unfold chunk
  rw [List.drop_replicate, List.take_replicate]
  congr 1
  omega
theorem now0 {k : Nat} (hk : k < 8) : u_now x8 ⟨[], 0⟩ (k : Int) = List.replicate 64 0 := by
  rw [now_eq]
  show (x8.getD k D.no).gl8 = _
  unfold x8
  rw [List.getD_eq_getElem?_getD, List.getElem?_replicate, if_pos hk]
  rfl
theorem ap_now (i j : UInt8) (a b : List UInt8) (ha : a.length ≤ 64) (hb : b.length ≤ 64) {k : Nat} (hk : k < 8) : u_now x8 (u_apM i j a b) (k : Int) = chunk (u_apW i j a b) k := by
  have hx : i.toNat % 8 < 8 := Nat.mod_lt _ (by decide)
  have hy : j.toNat % 8 < 8 := Nat.mod_lt _ (by decide)
  unfold u_apM u_apW
  generalize i.toNat % 8 = x at hx
  generalize j.toNat % 8 = y at hy
  have hl : (u_spl (List.replicate 512 0) (64 * x) a).length = 512 := by rw [spl_len (by simp; omega)]; simp
  have h1 : ∀ k : Nat, k < 8 → u_now x8 (u_wM 0 0 x8 ⟨[], 0⟩ (x : Int) a) (k : Int) = chunk (u_spl (List.replicate 512 0) (64 * x) a) k := by
    intro k hk
    rw [now_wM (by rw [x8_len]; exact hx) ha, spl_chunk ha (by simp; omega) (by simp; omega), chunk0 hx, chunk0 hk, now0 hx, now0 hk]
  rw [now_wM (by rw [x8_len]; exact hy) hb, spl_chunk hb (by omega) (by omega), h1 y hy, h1 k hk]
theorem apW_len (i j : UInt8) (a b : List UInt8) (ha : a.length ≤ 64) (hb : b.length ≤ 64) : (u_apW i j a b).length = 512 := by
  have hx : i.toNat % 8 < 8 := Nat.mod_lt _ (by decide)
  have hy : j.toNat % 8 < 8 := Nat.mod_lt _ (by decide)
  unfold u_apW
  generalize i.toNat % 8 = x at hx
  generalize j.toNat % 8 = y at hy
  rw [spl_len, spl_len]
  · simp
  · simp; omega
  · rw [spl_len (by simp; omega)]; simp; omega
theorem nz_g {a : Int} (h : ¬ real.pB (real.notb (real.eqi a (real.int 0))) false) : a ≠ 0 := by
  intro e; subst e; exact h rfl
theorem ap_ne {x : Bool} (h : x = true) (g : ¬ real.pB (real.notb x) false) : False := by subst h; exact g rfl
theorem no0 {P : Prop} (h : ¬ real.pB (real.eqi 0 (real.int 0)) true) : P := absurd rfl h
theorem fE_0 (st : Int) : u_fE st 0 = 0 := by unfold u_fE; rw [off0]; rfl
theorem fX_0 (st : Int) (xs : List D) (M : MD) : u_fX st 0 xs M = u_flush xs M := by unfold u_fX; rw [fE_0]; rfl
theorem fM_0 (st : Int) (M : MD) : u_fM st 0 M = ⟨[], M.clock⟩ := by unfold u_fM; rw [fE_0]; rfl
theorem ok_fl {st off : Int} {xs : List D} {M : MD} (h : u_ok xs M) : u_ok (u_fX st off xs M) (u_fM st off M) := by
  unfold u_fX u_fM
  by_cases e : u_fE st off = 0
  · rw [if_pos e, if_pos e]; exact ok_flush h _
  · rw [if_neg e, if_neg e]; exact h
theorem fX_len (st off : Int) (xs : List D) (M : MD) : (u_fX st off xs M).length = xs.length := by
  unfold u_fX
  split
  · exact flush_len xs M
  · rfl
theorem find_wM {st : Int} {xs : List D} {M : MD} {i k : Nat} {b : List UInt8} (hi : i < xs.length) (hb : b.length ≤ 64) : MD.find (u_wM st 0 xs M (i : Int) b).es (.i (k : Int)) = if k = i then some (.l8 (b ++ (u_now xs M (i : Int)).drop b.length)) else MD.find M.es (.i (k : Int)) := by
  rw [wM_ok (wE_0 hi hb), MD.find_set]
  by_cases e : k = i
  · subst e; rw [if_pos rfl, if_pos rfl]
  · have e2 : ¬ (D.i (k : Int) = .i (i : Int)) := fun h => by injection h with h; omega
    rw [if_neg e2, if_neg e]
theorem cut64 {a : List UInt8} (h : a.length = 64) : real.cutB a 0 64 = a := by
  show (a.drop 0).take 64 = a
  rw [List.drop_zero, List.take_of_length_le (by omega)]
end Go.Proofs.Ythhgmjclmdggjaa
set_option linter.unusedVariables false
set_option linter.unusedSimpArgs false
namespace Go.Vc
open Go Go.RowKit Go.ChangeShapes
/-- nothing that was there has turned -/
def Held (W w' : World) : Prop := w'.os = W.os ∧ w'.output = W.output ∧ W.heap.size ≤ w'.heap.size ∧ ∀ b, b < W.heap.size → w'.heap[b]? = W.heap[b]?
theorem Held.kept {W w' : World} (h : Held W w') (may : MemPlace → Prop) : W.keptBut w' may := by
  refine ⟨h.1, h.2.1, fun i hi => ?_⟩
  rw [h.2.2.2 i hi]
  cases hq : W.heap[i]? with
  | none => rfl
  | some b => cases b with
    | cells c t fr => exact ⟨rfl, rfl, rfl, fun _ _ => rfl⟩
    | map es k => exact .inr ⟨rfl, rfl⟩
    | _ => rfl
theorem Held.frozen {W w' : World} (h : Held W w') {a : Addr} (ha : a.block < W.heap.size) : w'.frozen? a = W.frozen? a := by
  unfold World.frozen?
  rw [h.2.2.2 _ ha]
section
variable {H : Type} {enc : TypeId × Value → H} {P : Program}
theorem post_of_held {f : Func} {s : ChangeSpec} {apart fresh handsOn again : Bool} {W W' : World} {args : Array Value} {v : Value} {ds gs : List (DataW H)} {before pa pv : List MemPlace}
    (hW : DataW.Whole enc P f.params.toList s.vars apart W args.toList ds gs before)
    (hres : ∀ (b : Nat) (sp : Nat → Bool) (hd : Bool), DataW.TrodAll enc P W' b sp hd f.resultTypes.toList (v.resultList f.resultTypes.size) (s.fn H (ds ++ gs)).results [])
    (hargs : ∀ sp : Nat → Bool, (∀ p ∈ before, sp p.block = true) → DataW.TrodAll enc P W' 0 sp true f.params.toList args.toList (s.fn H (ds ++ gs)).args pa)
    (hvars : ∀ sp : Nat → Bool, (∀ p ∈ before, sp p.block = true) → DataW.TrodVars enc P W' sp s.vars (s.fn H (ds ++ gs)).vars pv)
    (hps : before = pa ++ pv) (hk : Held W W')
    (hok : ∀ (j : Nat) (t : TypeId) (r : Value), f.resultTypes[j]? = some t → (v.resultList f.resultTypes.size)[j]? = some r → Value.okWide P W' .any 0 t r) :
    s.post enc P f apart fresh handsOn again W args v W' := by
  have hold : ∀ p ∈ before, (fun b => decide (b < W.heap.size)) p.block = true := fun p hp => by simpa using hW.lt p hp
  have hlt := hW.lt
  refine ⟨ds, gs, before, [], pa, pv, hW, hres _ _ _, hargs _ hold, hvars _ hold, World.keptBut_mono (fun p hp => ⟨hp, ?_⟩) (hk.kept (· ∈ before)), fun _ => ?_⟩
  · rw [hps, List.mem_append] at hp
    exact Or.inr hp
  · obtain ⟨_, _, _, _, _, hz, hn⟩ := hW
    refine ⟨hok, _, _, ([] ++ pa) ++ pv, ⟨[] ++ pa, pv, trodAll_append (hargs _ (fun _ _ => rfl)) (hres _ _ _), hvars _ (fun _ _ => rfl), rfl, ?_, ?_⟩, ?_⟩
    · intro b off hp
      have hp' : MemPlace.cell b off ∈ before := by rw [hps]; simpa using hp
      rw [hk.frozen (hlt _ hp')]
      exact hz b off hp'
    · intro ha
      have := hn ha
      rw [hps] at this
      simpa using this
    · intro p hp _
      rw [hps]
      simpa using hp
end

section
variable {P : Program} {x : Cx} {an cu : Anns}
/-- nothing leads anywhere -/
def mTop : Hd := ⟨fun _ => none, fun _ => True, fun _ => False⟩
theorem stableTop {w : World} {b : Nat} (h : b < w.heap.size) : Stable mTop w b := ⟨h, trivial, .inr fun k v hk => by cases hk⟩
/-- a law's walk, from the conditions of its code -/
theorem law_walk (hx : XOK P x) (hmx : P.follows .mixedOrders = true) {f : Nat} {fn : Func} {body : Code} (hf : P.funcs[f]? = some fn) (hbd : fn.body = some body) (hn : fn.ntmps = x.nt) (hdr : drawsOk x.tt x.dr body = true)
    {l : List AV} {vals : List Value} {w : World} (hsh : w.ShapedOpen P) (hl : llen l ≤ x.nt) (hv : RVs mTop w l vals) (hvc : vc real x an cu body ⟨zipSl 0 l, [], 64⟩ (retOk real x.tt false fn.results.toList [.val (.b true)])) :
    Calls P f vals.toArray w fun e w' => e = .returned (.bool true) ∧ Held w w' := by
  have hlen := RVs_length hv
  rw [llen_eq] at hl
  let E : Env := ⟨w, [], fun _ => True, none, [], fun _ => False⟩
  have hr : StR E x.nt ⟨zipSl 0 l, [], 64⟩ mTop { tmps := vals.toArray ++ Array.replicate (fn.ntmps - vals.toArray.size) undef, defers := [] } w :=
    ⟨entry_sl hv _, ⟨fun k ab h => (by cases h), fun k k' ab ab' v v' b h => (by cases h), fun b h => h.elim, fun k ab v b h => (by cases h), fun k ab v b h => (by cases h), fun _ _ => trivial⟩, fun k v b hk => (by cases hk), fun k _ => rfl, (by simp; omega), rfl,
      ⟨rfl, rfl, rfl, Nat.le_refl _, rfl, fun _ _ _ => rfl, fun k v b hk => (by cases hk), fun m0 w1 he => (by cases he), fun j v hj => (by cases hj), fun b h => h.elim, fun b h => h.elim⟩⟩
  have hE : GE P E := ⟨w, hsh, fun g o h1 h2 => ⟨(Array.getElem?_eq_some_iff.1 h2).1, fun h => (by cases h), trivial, h2⟩⟩
  refine calls_of_wp hf hbd (code_mono (vc_sound hx hE (fun j v hj => (by cases hj)) (.inl rfl) hmx body _ _ hdr hvc _ _ w hr) ?_)
  intro en a w' hp
  refine ends_sound hx.tt (fun l vs s' m1 w1 k1 k2 k3 => ?_) hp
  cases l with
  | nil => simp [retM] at k2
  | cons b r =>
    cases r with
    | cons c r => simp [retM, AV.nk] at k2
    | nil =>
      simp only [retM, AV.nk, and_true] at k2
      simp only [RVs] at k1
      obtain ⟨v, q, rfl, h1, rfl⟩ := k1
      have := RV_le b (.b true) v k2 (fun h => by cases h) h1
      simp only [RV, CR, List.cons.injEq, and_true] at this
      subst this
      exact ⟨rfl, k3.fr.os, k3.fr.output, k3.fr.size, fun b hb => k3.fr.block b hb (fun h => by cases h)⟩
end
/-! ## Arguments -/
theorem u32_arg {a : Int} (h : (Lit.int .u32 a).wf = true) : ∃ x : UInt32, a = (x.toNat : Int) := by
  simp only [Lit.wf, Bool.and_eq_true, decide_eq_true_eq, IntKind.min, IntKind.max] at h
  refine ⟨UInt32.ofNat a.toNat, ?_⟩
  simp [IntKind.signed, IntKind.bits] at h
  rw [UInt32.toNat_ofNat_of_lt' (by simp [UInt32.size]; omega)]
  omega
theorem u8_arg {a : Int} (h : (Lit.int .u8 a).wf = true) : ∃ x : UInt8, a = (x.toNat : Int) := by
  simp only [Lit.wf, Bool.and_eq_true, decide_eq_true_eq, IntKind.min, IntKind.max] at h
  refine ⟨UInt8.ofNat a.toNat, ?_⟩
  simp [IntKind.signed, IntKind.bits] at h
  rw [UInt8.toNat_ofNat_of_lt' (by simp [UInt8.size]; omega)]
  omega
theorem u64_arg {a : Int} (h : (Lit.int .u64 a).wf = true) : ∃ x : UInt64, a = (x.toNat : Int) := by
  simp only [Lit.wf, Bool.and_eq_true, decide_eq_true_eq, IntKind.min, IntKind.max] at h
  refine ⟨UInt64.ofNat a.toNat, ?_⟩
  simp [IntKind.signed, IntKind.bits] at h
  rw [UInt64.toNat_ofNat_of_lt' (by simp [UInt64.size]; omega)]
  omega
theorem i64_arg {a : Int} (h : (Lit.int .i64 a).wf = true) : -9223372036854775808 ≤ a ∧ a ≤ 9223372036854775807 := by
  simp only [Lit.wf, Bool.and_eq_true, decide_eq_true_eq, IntKind.min, IntKind.max] at h
  simp [IntKind.signed, IntKind.bits] at h
  omega
end Go.Vc
set_option linter.unusedVariables false
set_option linter.unusedSimpArgs false
namespace Go.Vc
open Go Go.RowKit Go.ChangeShapes Go.WideShapes
section
variable {P : Program} {w : World}
/-- a reading of a one-cell type gives such a cell -/
def Elt (P : Program) (w : World) (t : TypeId) {α : Type} (E : α → Value) (q : α → Prop) : Prop :=
  ∀ (H : Type) (enc : TypeId × Value → H) (base : Nat) (sp : Nat → Bool) (held : Bool) (fuel : Nat) (cs : List Value) (x : DataW H × List MemPlace),
    DataW.trod enc P w base sp held fuel t cs = some x → ∃ a, cs = [E a] ∧ q a
theorem u16_arg {a : Int} (h : (Lit.int .u16 a).wf = true) : ∃ x : UInt16, a = (x.toNat : Int) := by
  simp only [Lit.wf, Bool.and_eq_true, decide_eq_true_eq, IntKind.min, IntKind.max] at h
  refine ⟨UInt16.ofNat a.toNat, ?_⟩
  simp [IntKind.signed, IntKind.bits] at h
  rw [UInt16.toNat_ofNat_of_lt' (by simp [UInt16.size]; omega)]
  omega
theorem elt_i64 {t : TypeId} (ht : P.underlying t = some (.int .i64)) : Elt P w t EI (fun n => -9223372036854775808 ≤ n ∧ n ≤ 9223372036854775807) := by
  intro H enc base sp held fuel cs x h
  obtain ⟨n, rfl, _, hw⟩ := DataW.trod_int ht h
  exact ⟨n, rfl, i64_arg hw⟩
theorem elt_bool {t : TypeId} (ht : P.underlying t = some .bool) : Elt P w t Value.bool (fun _ => True) := by
  intro H enc base sp held fuel cs x h
  obtain ⟨n, rfl, _⟩ := DataW.trod_bool ht h
  exact ⟨n, rfl, trivial⟩
theorem elt_str {t : TypeId} (ht : P.underlying t = some .string) : Elt P w t ES (fun s => s.length ≤ 9223372036854775807) := by
  intro H enc base sp held fuel cs x h
  obtain ⟨s, rfl, _, hs⟩ := DataW.trod_string ht h
  refine ⟨s.data.toList, by simp [ES], ?_⟩
  simpa [maxLen] using hs
theorem elt_u8 {t : TypeId} (ht : P.underlying t = some (.int .u8)) : Elt P w t E8 (fun _ => True) := by
  intro H enc base sp held fuel cs x h
  obtain ⟨n, rfl, _, hw⟩ := DataW.trod_int ht h
  obtain ⟨y, hy⟩ := u8_arg hw
  exact ⟨y, by rw [hy], trivial⟩
theorem elt_u16 {t : TypeId} (ht : P.underlying t = some (.int .u16)) : Elt P w t E16 (fun _ => True) := by
  intro H enc base sp held fuel cs x h
  obtain ⟨n, rfl, _, hw⟩ := DataW.trod_int ht h
  obtain ⟨y, hy⟩ := u16_arg hw
  exact ⟨y, by rw [hy], trivial⟩
theorem elt_u32 {t : TypeId} (ht : P.underlying t = some (.int .u32)) : Elt P w t E32 (fun _ => True) := by
  intro H enc base sp held fuel cs x h
  obtain ⟨n, rfl, _, hw⟩ := DataW.trod_int ht h
  obtain ⟨y, hy⟩ := u32_arg hw
  exact ⟨y, by rw [hy], trivial⟩
theorem elt_u64 {t : TypeId} (ht : P.underlying t = some (.int .u64)) : Elt P w t E64 (fun _ => True) := by
  intro H enc base sp held fuel cs x h
  obtain ⟨n, rfl, _, hw⟩ := DataW.trod_int ht h
  obtain ⟨y, hy⟩ := u64_arg hw
  exact ⟨y, by rw [hy], trivial⟩
theorem drop_take_one {α : Type} {l : List α} {a : α} {i : Nat} (h : (l.drop i).take 1 = [a]) : l[i]? = some a := by
  have h1 := congrArg List.head? h
  rw [List.head?_take, if_neg (by decide), List.head?_drop] at h1
  simpa using h1
theorem list_of {α : Type} (E : α → Value) (q : α → Prop) : ∀ cs : List Value, (∀ i, i < cs.length → ∃ x, cs[i]? = some (E x) ∧ q x) → ∃ xs : List α, cs = xs.map E ∧ ∀ x ∈ xs, q x
  | [], _ => ⟨[], rfl, by simp⟩
  | c :: r, h => by
    obtain ⟨x, hx, hq⟩ := h 0 (by simp)
    obtain ⟨xs, hr, hqs⟩ := list_of E q r fun i hi => by
      obtain ⟨x, hx, hq⟩ := h (i + 1) (by simp; omega)
      exact ⟨x, by simpa using hx, hq⟩
    simp only [List.getElem?_cons_zero, Option.some.injEq] at hx
    refine ⟨x :: xs, by simp [hx, hr], fun y hy => ?_⟩
    rcases List.mem_cons.1 hy with rfl | hy
    · exact hq
    · exact hqs y hy
theorem arr_of {α : Type} {E : α → Value} {q : α → Prop} {t e : TypeId} {n : Nat} (ht : P.underlying t = some (.array n e)) (hc : P.cellsOf e = 1) (hn : P.cellsOf t = n) (hE : Elt P w e E q)
    (H : Type) (enc : TypeId × Value → H) (base : Nat) (sp : Nat → Bool) (held : Bool) (fuel : Nat) (cs : List Value) (x : DataW H × List MemPlace)
    (h : DataW.trod enc P w base sp held fuel t cs = some x) : ∃ xs : List α, cs = xs.map E ∧ xs.length = n ∧ ∀ x ∈ xs, q x := by
  obtain ⟨ys, m, rfl, rfl, hl, hyl, hel⟩ := DataW.trod_array ht h
  obtain ⟨xs, rfl, hq⟩ := list_of E q cs fun i hi => by
    have h1 := hel i (by omega)
    rw [List.getElem?_eq_getElem (by omega), hc] at h1
    obtain ⟨a, ha, hq⟩ := hE H enc base sp held m _ _ h1
    exact ⟨a, drop_take_one (by simpa using ha), hq⟩
  exact ⟨xs, rfl, by simpa [hn] using hl, hq⟩
theorem cell_ltO {a : Addr} {v : Value} (h : w.cell? a = some v) : a.block < w.heap.size := by
  unfold World.cell? at h
  split at h
  · rename_i h1; exact (Array.getElem?_eq_some_iff.1 h1).1
  · cases h
theorem stableAtTop {a : Addr} {ds : List Value} (h0 : 0 < ds.length) (h : ∀ j x, ds[j]? = some x → w.cell? (a.add j) = some x) : StableAt mTop w a ds := by
  refine ⟨⟨?_, trivial, .inr fun k v hk => by cases hk⟩, h⟩
  have := cell_ltO (h 0 ds[0] (by simp [h0]))
  rwa [add_block] at this
theorem sl_of {α : Type} {E : α → Value} {q : α → Prop} {t e : TypeId} (ht : P.underlying t = some (.slice e)) (hc : P.cellsOf e = 1) (hE : Elt P w e E q)
    (H : Type) (enc : TypeId × Value → H) (base : Nat) (sp : Nat → Bool) (held : Bool) (fuel : Nat) (cs : List Value) (x : DataW H × List MemPlace)
    (h : DataW.trod enc P w base sp held fuel t cs = some x) :
    ∃ (xs : List α) (ad : Option Addr) (cap : Nat), cs = [.slice ad xs.length cap] ∧ xs.length ≤ cap ∧ xs.length ≤ 9223372036854775807 ∧ (0 < xs.length → ∃ a, ad = some a ∧ StableAt mTop w a (xs.map E)) ∧ ∀ x ∈ xs, q x := by
  rcases DataW.trod_slice ht h with ⟨rfl, _⟩ | ⟨a, len, cap, elems, rest, m, rfl, rfl, rfl, _, hl, hm, hlen, hel, _⟩
  · exact ⟨[], none, 0, rfl, by simp, by simp, by simp, by simp⟩
  · have key : ∀ k, k ≤ len → ∃ xs : List α, xs.length = k ∧ (∀ j x, (xs.map E)[j]? = some x → w.cell? (a.add j) = some x) ∧ ∀ x ∈ xs, q x := by
      intro k
      induction k with
      | zero => exact fun _ => ⟨[], rfl, by simp, by simp⟩
      | succ k ih =>
        intro hk
        obtain ⟨xs, h1, h2, h3⟩ := ih (by omega)
        have h4 := hel k (by omega)
        rw [List.getElem?_eq_getElem (by omega), hc, Nat.mul_one, Option.bind_eq_some_iff] at h4
        obtain ⟨cs', hcs, hy⟩ := h4
        obtain ⟨y, rfl, hq⟩ := hE H enc base sp held m _ _ hy
        have hcell := cell_of_cells?_one hcs
        refine ⟨xs ++ [y], by simp [h1], fun j x hj => ?_, fun x hx => ?_⟩
        · rw [List.map_append, List.getElem?_append] at hj
          split at hj
          · exact h2 j x hj
          · rename_i hlt
            simp only [List.length_map] at hj hlt
            have : j = k := by
              have := (List.getElem?_eq_some_iff.1 hj).1
              simp at this
              omega
            subst this
            simp [h1] at hj
            rw [← hj]; exact hcell
        · rcases List.mem_append.1 hx with hx | hx
          · exact h3 x hx
          · simp at hx; rw [hx]; exact hq
    obtain ⟨xs, h1, h2, h3⟩ := key len (Nat.le_refl _)
    refine ⟨xs, some a, cap, by rw [h1], by omega, by simp [maxLen] at hm; omega, fun h0 => ⟨a, rfl, stableAtTop (by simpa using h0) h2⟩, h3⟩
theorem cells_oneO {v : Value} (h : ∀ cs, v ≠ .agg cs) : v.cells.toList = [v] := by
  unfold Value.cells
  split
  · rename_i cs; exact absurd rfl (h cs)
  · rfl
section
variable {H : Type} {enc : TypeId × Value → H} {base b0 : Nat} {sp : Nat → Bool} {held : Bool} {t e : TypeId} {v : Value} {d : DataW H} {ps : List MemPlace} {r : Reach}
theorem openB (ht : P.underlying t = some .bool) (hval : Value.okWide P w r b0 t v) (hd : DataW.Trod enc P w base sp held t v d ps) : ∃ x, RV mTop w (.b x) v := by
  obtain ⟨n, rfl⟩ := okWide_bool ht hval
  exact ⟨n, by simp [RV, CR]⟩
theorem openI (ht : P.underlying t = some (.int .i64)) (hval : Value.okWide P w r b0 t v) (hd : DataW.Trod enc P w base sp held t v d ps) : ∃ x, RV mTop w (.i x) v ∧ -9223372036854775808 ≤ x ∧ x ≤ 9223372036854775807 := by
  obtain ⟨n, rfl⟩ := okWide_int ht hval
  obtain ⟨fuel, hf⟩ := hd
  rw [cells_oneO (by simp)] at hf
  obtain ⟨a, ha, hq⟩ := elt_i64 ht _ _ _ _ _ _ _ _ hf
  exact ⟨a, by simpa [RV, CR] using ha, hq⟩
theorem openS (ht : P.underlying t = some .string) (hval : Value.okWide P w r b0 t v) (hd : DataW.Trod enc P w base sp held t v d ps) : ∃ x, RV mTop w (.s x) v ∧ x.length ≤ 9223372036854775807 := by
  obtain ⟨n, rfl⟩ := okWide_string ht hval
  obtain ⟨fuel, hf⟩ := hd
  rw [cells_oneO (by simp)] at hf
  obtain ⟨a, ha, hq⟩ := elt_str ht _ _ _ _ _ _ _ _ hf
  exact ⟨a, by simpa [RV, CR] using ha, hq⟩
theorem open8 (ht : P.underlying t = some (.int .u8)) (hval : Value.okWide P w r b0 t v) (hd : DataW.Trod enc P w base sp held t v d ps) : ∃ x, RV mTop w (.w8 x) v := by
  obtain ⟨n, rfl⟩ := okWide_int ht hval
  obtain ⟨fuel, hf⟩ := hd
  rw [cells_oneO (by simp)] at hf
  obtain ⟨a, ha, hq⟩ := elt_u8 ht _ _ _ _ _ _ _ _ hf
  exact ⟨a, by simpa [RV, CR] using ha⟩
theorem open16 (ht : P.underlying t = some (.int .u16)) (hval : Value.okWide P w r b0 t v) (hd : DataW.Trod enc P w base sp held t v d ps) : ∃ x, RV mTop w (.w16 x) v := by
  obtain ⟨n, rfl⟩ := okWide_int ht hval
  obtain ⟨fuel, hf⟩ := hd
  rw [cells_oneO (by simp)] at hf
  obtain ⟨a, ha, hq⟩ := elt_u16 ht _ _ _ _ _ _ _ _ hf
  exact ⟨a, by simpa [RV, CR] using ha⟩
theorem open32 (ht : P.underlying t = some (.int .u32)) (hval : Value.okWide P w r b0 t v) (hd : DataW.Trod enc P w base sp held t v d ps) : ∃ x, RV mTop w (.w32 x) v := by
  obtain ⟨n, rfl⟩ := okWide_int ht hval
  obtain ⟨fuel, hf⟩ := hd
  rw [cells_oneO (by simp)] at hf
  obtain ⟨a, ha, hq⟩ := elt_u32 ht _ _ _ _ _ _ _ _ hf
  exact ⟨a, by simpa [RV, CR] using ha⟩
theorem open64 (ht : P.underlying t = some (.int .u64)) (hval : Value.okWide P w r b0 t v) (hd : DataW.Trod enc P w base sp held t v d ps) : ∃ x, RV mTop w (.w64 x) v := by
  obtain ⟨n, rfl⟩ := okWide_int ht hval
  obtain ⟨fuel, hf⟩ := hd
  rw [cells_oneO (by simp)] at hf
  obtain ⟨a, ha, hq⟩ := elt_u64 ht _ _ _ _ _ _ _ _ hf
  exact ⟨a, by simpa [RV, CR] using ha⟩
theorem openA8 {n : Nat} (ht : P.underlying t = some (.array n e)) (he : P.underlying e = some (.int .u8)) (hc : P.cellsOf e = 1) (hn : P.cellsOf t = n) (hval : Value.okWide P w r b0 t v) (hd : DataW.Trod enc P w base sp held t v d ps) :
    ∃ xs : List UInt8, RV mTop w (.ag n (.bt xs)) v ∧ xs.length = n := by
  obtain ⟨cs, rfl, hcs⟩ : ∃ cs, v = .agg cs ∧ cs.size = P.cellsOf t := by
    simp only [Value.okWide, ht] at hval
    obtain ⟨cs, h1, h2, _⟩ := hval
    exact ⟨cs, h1, h2⟩
  obtain ⟨fuel, hf⟩ := hd
  obtain ⟨xs, h1, h2, hq⟩ := arr_of ht hc hn (elt_u8 he) _ _ _ _ _ _ _ _ hf
  refine ⟨xs, ?_, h2⟩
  simp only [RV]
  have h1 : cs.toList = xs.map E8 := h1
  exact ⟨cs.toList, by simp, by simp [h1, h2], by simpa [RC] using h1⟩
theorem openL8 (ht : P.underlying t = some (.slice e)) (he : P.underlying e = some (.int .u8)) (hc : P.cellsOf e = 1) (hval : Value.okWide P w r b0 t v) (hd : DataW.Trod enc P w base sp held t v d ps) :
    ∃ xs : List UInt8, RV mTop w (.rb 1 (.bt xs)) v ∧ xs.length ≤ 9223372036854775807 := by
  obtain ⟨a, len, cap, rfl⟩ := okWide_slice ht hval
  obtain ⟨fuel, hf⟩ := hd
  rw [cells_oneO (by simp)] at hf
  obtain ⟨xs, ad, cap', h1, h2, h3, h4, hq⟩ := sl_of ht hc (elt_u8 he) _ _ _ _ _ _ _ _ hf
  simp only [List.cons.injEq, and_true, Value.slice.injEq] at h1
  obtain ⟨rfl, rfl, rfl⟩ := h1
  refine ⟨xs, ?_, h3⟩
  simp only [RV, CR]
  exact ⟨_, _, _, xs.map E8, rfl, by simp [RC], by simp, h2, h4⟩
theorem openA16 {n : Nat} (ht : P.underlying t = some (.array n e)) (he : P.underlying e = some (.int .u16)) (hc : P.cellsOf e = 1) (hn : P.cellsOf t = n) (hval : Value.okWide P w r b0 t v) (hd : DataW.Trod enc P w base sp held t v d ps) :
    ∃ xs : List UInt16, RV mTop w (.ag n (.wh xs)) v ∧ xs.length = n := by
  obtain ⟨cs, rfl, hcs⟩ : ∃ cs, v = .agg cs ∧ cs.size = P.cellsOf t := by
    simp only [Value.okWide, ht] at hval
    obtain ⟨cs, h1, h2, _⟩ := hval
    exact ⟨cs, h1, h2⟩
  obtain ⟨fuel, hf⟩ := hd
  obtain ⟨xs, h1, h2, hq⟩ := arr_of ht hc hn (elt_u16 he) _ _ _ _ _ _ _ _ hf
  refine ⟨xs, ?_, h2⟩
  simp only [RV]
  have h1 : cs.toList = xs.map E16 := h1
  exact ⟨cs.toList, by simp, by simp [h1, h2], by simpa [RC] using h1⟩
theorem openL16 (ht : P.underlying t = some (.slice e)) (he : P.underlying e = some (.int .u16)) (hc : P.cellsOf e = 1) (hval : Value.okWide P w r b0 t v) (hd : DataW.Trod enc P w base sp held t v d ps) :
    ∃ xs : List UInt16, RV mTop w (.rb 1 (.wh xs)) v ∧ xs.length ≤ 9223372036854775807 := by
  obtain ⟨a, len, cap, rfl⟩ := okWide_slice ht hval
  obtain ⟨fuel, hf⟩ := hd
  rw [cells_oneO (by simp)] at hf
  obtain ⟨xs, ad, cap', h1, h2, h3, h4, hq⟩ := sl_of ht hc (elt_u16 he) _ _ _ _ _ _ _ _ hf
  simp only [List.cons.injEq, and_true, Value.slice.injEq] at h1
  obtain ⟨rfl, rfl, rfl⟩ := h1
  refine ⟨xs, ?_, h3⟩
  simp only [RV, CR]
  exact ⟨_, _, _, xs.map E16, rfl, by simp [RC], by simp, h2, h4⟩
theorem openA32 {n : Nat} (ht : P.underlying t = some (.array n e)) (he : P.underlying e = some (.int .u32)) (hc : P.cellsOf e = 1) (hn : P.cellsOf t = n) (hval : Value.okWide P w r b0 t v) (hd : DataW.Trod enc P w base sp held t v d ps) :
    ∃ xs : List UInt32, RV mTop w (.ag n (.wd xs)) v ∧ xs.length = n := by
  obtain ⟨cs, rfl, hcs⟩ : ∃ cs, v = .agg cs ∧ cs.size = P.cellsOf t := by
    simp only [Value.okWide, ht] at hval
    obtain ⟨cs, h1, h2, _⟩ := hval
    exact ⟨cs, h1, h2⟩
  obtain ⟨fuel, hf⟩ := hd
  obtain ⟨xs, h1, h2, hq⟩ := arr_of ht hc hn (elt_u32 he) _ _ _ _ _ _ _ _ hf
  refine ⟨xs, ?_, h2⟩
  simp only [RV]
  have h1 : cs.toList = xs.map E32 := h1
  exact ⟨cs.toList, by simp, by simp [h1, h2], by simpa [RC] using h1⟩
theorem openL32 (ht : P.underlying t = some (.slice e)) (he : P.underlying e = some (.int .u32)) (hc : P.cellsOf e = 1) (hval : Value.okWide P w r b0 t v) (hd : DataW.Trod enc P w base sp held t v d ps) :
    ∃ xs : List UInt32, RV mTop w (.rb 1 (.wd xs)) v ∧ xs.length ≤ 9223372036854775807 := by
  obtain ⟨a, len, cap, rfl⟩ := okWide_slice ht hval
  obtain ⟨fuel, hf⟩ := hd
  rw [cells_oneO (by simp)] at hf
  obtain ⟨xs, ad, cap', h1, h2, h3, h4, hq⟩ := sl_of ht hc (elt_u32 he) _ _ _ _ _ _ _ _ hf
  simp only [List.cons.injEq, and_true, Value.slice.injEq] at h1
  obtain ⟨rfl, rfl, rfl⟩ := h1
  refine ⟨xs, ?_, h3⟩
  simp only [RV, CR]
  exact ⟨_, _, _, xs.map E32, rfl, by simp [RC], by simp, h2, h4⟩
theorem openA64 {n : Nat} (ht : P.underlying t = some (.array n e)) (he : P.underlying e = some (.int .u64)) (hc : P.cellsOf e = 1) (hn : P.cellsOf t = n) (hval : Value.okWide P w r b0 t v) (hd : DataW.Trod enc P w base sp held t v d ps) :
    ∃ xs : List UInt64, RV mTop w (.ag n (.ww xs)) v ∧ xs.length = n := by
  obtain ⟨cs, rfl, hcs⟩ : ∃ cs, v = .agg cs ∧ cs.size = P.cellsOf t := by
    simp only [Value.okWide, ht] at hval
    obtain ⟨cs, h1, h2, _⟩ := hval
    exact ⟨cs, h1, h2⟩
  obtain ⟨fuel, hf⟩ := hd
  obtain ⟨xs, h1, h2, hq⟩ := arr_of ht hc hn (elt_u64 he) _ _ _ _ _ _ _ _ hf
  refine ⟨xs, ?_, h2⟩
  simp only [RV]
  have h1 : cs.toList = xs.map E64 := h1
  exact ⟨cs.toList, by simp, by simp [h1, h2], by simpa [RC] using h1⟩
theorem openL64 (ht : P.underlying t = some (.slice e)) (he : P.underlying e = some (.int .u64)) (hc : P.cellsOf e = 1) (hval : Value.okWide P w r b0 t v) (hd : DataW.Trod enc P w base sp held t v d ps) :
    ∃ xs : List UInt64, RV mTop w (.rb 1 (.ww xs)) v ∧ xs.length ≤ 9223372036854775807 := by
  obtain ⟨a, len, cap, rfl⟩ := okWide_slice ht hval
  obtain ⟨fuel, hf⟩ := hd
  rw [cells_oneO (by simp)] at hf
  obtain ⟨xs, ad, cap', h1, h2, h3, h4, hq⟩ := sl_of ht hc (elt_u64 he) _ _ _ _ _ _ _ _ hf
  simp only [List.cons.injEq, and_true, Value.slice.injEq] at h1
  obtain ⟨rfl, rfl, rfl⟩ := h1
  refine ⟨xs, ?_, h3⟩
  simp only [RV, CR]
  exact ⟨_, _, _, xs.map E64, rfl, by simp [RC], by simp, h2, h4⟩
theorem openAI {n : Nat} (ht : P.underlying t = some (.array n e)) (he : P.underlying e = some (.int .i64)) (hc : P.cellsOf e = 1) (hn : P.cellsOf t = n) (hval : Value.okWide P w r b0 t v) (hd : DataW.Trod enc P w base sp held t v d ps) :
    ∃ xs : List Int, RV mTop w (.ag n (.is xs)) v ∧ xs.length = n ∧ ∀ x ∈ xs, -9223372036854775808 ≤ x ∧ x ≤ 9223372036854775807 := by
  obtain ⟨cs, rfl, hcs⟩ : ∃ cs, v = .agg cs ∧ cs.size = P.cellsOf t := by
    simp only [Value.okWide, ht] at hval
    obtain ⟨cs, h1, h2, _⟩ := hval
    exact ⟨cs, h1, h2⟩
  obtain ⟨fuel, hf⟩ := hd
  obtain ⟨xs, h1, h2, hq⟩ := arr_of ht hc hn (elt_i64 he) _ _ _ _ _ _ _ _ hf
  refine ⟨xs, ?_, h2, hq⟩
  simp only [RV]
  have h1 : cs.toList = xs.map EI := h1
  exact ⟨cs.toList, by simp, by simp [h1, h2], by simpa [RC] using h1⟩
theorem openLI (ht : P.underlying t = some (.slice e)) (he : P.underlying e = some (.int .i64)) (hc : P.cellsOf e = 1) (hval : Value.okWide P w r b0 t v) (hd : DataW.Trod enc P w base sp held t v d ps) :
    ∃ xs : List Int, RV mTop w (.rb 1 (.is xs)) v ∧ xs.length ≤ 9223372036854775807 ∧ ∀ x ∈ xs, -9223372036854775808 ≤ x ∧ x ≤ 9223372036854775807 := by
  obtain ⟨a, len, cap, rfl⟩ := okWide_slice ht hval
  obtain ⟨fuel, hf⟩ := hd
  rw [cells_oneO (by simp)] at hf
  obtain ⟨xs, ad, cap', h1, h2, h3, h4, hq⟩ := sl_of ht hc (elt_i64 he) _ _ _ _ _ _ _ _ hf
  simp only [List.cons.injEq, and_true, Value.slice.injEq] at h1
  obtain ⟨rfl, rfl, rfl⟩ := h1
  refine ⟨xs, ?_, h3, hq⟩
  simp only [RV, CR]
  exact ⟨_, _, _, xs.map EI, rfl, by simp [RC], by simp, h2, h4⟩
theorem openAS {n : Nat} (ht : P.underlying t = some (.array n e)) (he : P.underlying e = some (.string)) (hc : P.cellsOf e = 1) (hn : P.cellsOf t = n) (hval : Value.okWide P w r b0 t v) (hd : DataW.Trod enc P w base sp held t v d ps) :
    ∃ xs : List (List UInt8), RV mTop w (.ag n (.ss xs)) v ∧ xs.length = n ∧ ∀ x ∈ xs, x.length ≤ 9223372036854775807 := by
  obtain ⟨cs, rfl, hcs⟩ : ∃ cs, v = .agg cs ∧ cs.size = P.cellsOf t := by
    simp only [Value.okWide, ht] at hval
    obtain ⟨cs, h1, h2, _⟩ := hval
    exact ⟨cs, h1, h2⟩
  obtain ⟨fuel, hf⟩ := hd
  obtain ⟨xs, h1, h2, hq⟩ := arr_of ht hc hn (elt_str he) _ _ _ _ _ _ _ _ hf
  refine ⟨xs, ?_, h2, hq⟩
  simp only [RV]
  have h1 : cs.toList = xs.map ES := h1
  exact ⟨cs.toList, by simp, by simp [h1, h2], by simpa [RC] using h1⟩
theorem openLS (ht : P.underlying t = some (.slice e)) (he : P.underlying e = some (.string)) (hc : P.cellsOf e = 1) (hval : Value.okWide P w r b0 t v) (hd : DataW.Trod enc P w base sp held t v d ps) :
    ∃ xs : List (List UInt8), RV mTop w (.rb 1 (.ss xs)) v ∧ xs.length ≤ 9223372036854775807 ∧ ∀ x ∈ xs, x.length ≤ 9223372036854775807 := by
  obtain ⟨a, len, cap, rfl⟩ := okWide_slice ht hval
  obtain ⟨fuel, hf⟩ := hd
  rw [cells_oneO (by simp)] at hf
  obtain ⟨xs, ad, cap', h1, h2, h3, h4, hq⟩ := sl_of ht hc (elt_str he) _ _ _ _ _ _ _ _ hf
  simp only [List.cons.injEq, and_true, Value.slice.injEq] at h1
  obtain ⟨rfl, rfl, rfl⟩ := h1
  refine ⟨xs, ?_, h3, hq⟩
  simp only [RV, CR]
  exact ⟨_, _, _, xs.map ES, rfl, by simp [RC], by simp, h2, h4⟩
end
theorem rvs_cons {m : Hd} {a : AV} {v : Value} {l : List AV} {vs : List Value} (h : RV m w a v) (hs : RVs m w l vs) : RVs m w (a :: l) (v :: vs) := ⟨v, vs, rfl, h, hs⟩
theorem rvs_nil {m : Hd} : RVs m w [] [] := rfl
/-! ## A law's end -/
theorem trodAll_stays {H : Type} {enc : TypeId × Value → H} {W W' : World} (hl : laidOutB P = true) (hb : Below W.heap.size W W') :
    ∀ {ts : List TypeId} {vs : List Value} {ds : List (DataW H)} {ps : List MemPlace}, (ts.all fun t => P.readableRec t && decide (t < P.types.size)) = true →
      DataW.TrodAll enc P W 0 (fun _ => true) true ts vs ds ps → DataW.TrodAll enc P W' 0 (fun b => decide (b < W.heap.size)) true ts vs ds ps
  | [], [], [], _, _, h => h
  | t :: ts, v :: vs, d :: ds, ps, hr, h => by
    have hlt := h.lt
    obtain ⟨p, q, h1, h2, rfl⟩ := h
    simp only [List.all_cons, Bool.and_eq_true, decide_eq_true_eq] at hr
    exact ⟨p, q, Below.trod hl hr.1.1 hr.1.2 h1 hb fun x hx => hlt x (List.mem_append_left _ hx), trodAll_stays hl hb hr.2 h2, rfl⟩
  | [], [], _ :: _, _, _, h => h.elim
  | [], _ :: _, _, _, _, h => h.elim
  | _ :: _, [], _, _, _, h => h.elim
  | _ :: _, _ :: _, [], _, _, h => h.elim
theorem post_true {H : Type} {enc : TypeId × Value → H} {f : Func} {s : ChangeSpec} {W W' : World} {args : Array Value} {ds gs : List (DataW H)} {before : List MemPlace} {tb : TypeId}
    (hl : laidOutB P = true) (hr : (f.params.toList.all fun t => P.readableRec t && decide (t < P.types.size)) = true) (hrt : f.resultTypes = #[tb]) (hb : P.underlying tb = some .bool) (hsv : s.vars = [])
    (hW : DataW.Whole enc P f.params.toList s.vars false W args.toList ds gs before) (hfn : s.fn H (ds ++ []) = ⟨[.lit (.bool true)], ds, []⟩) (hk : Below W.heap.size W W') :
    s.post enc P f false true false false W args (.bool true) W' := by
  have hW' := hW
  obtain ⟨p, q, hA, hV, rfl, _, _⟩ := hW
  rw [hsv] at hV
  obtain ⟨rfl, rfl⟩ := trodVars_none hV
  refine ⟨ds, [], _, [], p, [], hW', ?_, ?_, ?_, hk.frame _, fun h => by cases h⟩
  · rw [hfn, hrt]
    exact trodAll_mk1 (shut_bool hb _)
  · rw [hfn]
    exact trodAll_stays hl hk hr hA
  · rw [hfn, hsv]
    rfl
/-- a law's walk, from the conditions of its code -/
theorem law_walk2 {x : Cx} {an cu : Anns} (hx : XOK P x) (hmx : P.follows .mixedOrders = true) {f : Nat} {fn : Func} {body : Code} (hf : P.funcs[f]? = some fn) (hbd : fn.body = some body) (hn : fn.ntmps = x.nt) (hdr : drawsOk x.tt x.dr body = true)
    {l : List AV} {vals : List Value} {w : World} (hsh : w.ShapedOpen P) (hl : llen l ≤ x.nt) (hv : RVs mTop w l vals) (hvc : vc real x an cu body ⟨zipSl 0 l, [], 64⟩ (retOk real x.tt false fn.results.toList [.val (.b true)])) :
    Calls P f vals.toArray w fun e w' => e = .returned (.bool true) ∧ Below w.heap.size w w' := by
  have hlen := RVs_length hv
  rw [llen_eq] at hl
  let E : Env := ⟨w, [], fun _ => True, none, [], fun _ => False⟩
  have hr : StR E x.nt ⟨zipSl 0 l, [], 64⟩ mTop { tmps := vals.toArray ++ Array.replicate (fn.ntmps - vals.toArray.size) undef, defers := [] } w :=
    ⟨entry_sl hv _, ⟨fun k ab h => (by cases h), fun k k' ab ab' v v' b h => (by cases h), fun b h => h.elim, fun k ab v b h => (by cases h), fun k ab v b h => (by cases h), fun _ _ => trivial⟩, fun k v b hk => (by cases hk), fun k _ => rfl, (by simp; omega), rfl,
      ⟨rfl, rfl, rfl, Nat.le_refl _, rfl, fun _ _ _ => rfl, fun k v b hk => (by cases hk), fun m0 w1 he => (by cases he), fun j v hj => (by cases hj), fun b h => h.elim, fun b h => h.elim⟩⟩
  have hE : GE P E := ⟨w, hsh, fun g o h1 h2 => ⟨(Array.getElem?_eq_some_iff.1 h2).1, fun h => (by cases h), trivial, h2⟩⟩
  refine calls_of_wp hf hbd (code_mono (vc_sound hx hE (fun j v hj => (by cases hj)) (.inl rfl) hmx body _ _ hdr hvc _ _ w hr) ?_)
  intro en a w' hp
  refine ends_sound hx.tt (fun l vs s' m1 w1 k1 k2 k3 => ?_) hp
  cases l with
  | nil => simp [retM] at k2
  | cons b r =>
    cases r with
    | cons c r => simp [retM, AV.nk] at k2
    | nil =>
      simp only [retM, AV.nk, and_true] at k2
      simp only [RVs] at k1
      obtain ⟨v, q, rfl, h1, rfl⟩ := k1
      have := RV_le b (.b true) v k2 (fun h => by cases h) h1
      simp only [RV, CR, List.cons.injEq, and_true] at this
      subst this
      exact ⟨rfl, k3.fr.os, k3.fr.tape, k3.fr.output, k3.fr.size, fun b hb => k3.fr.block b hb (fun h => by cases h)⟩
end
end Go.Vc
set_option linter.unusedVariables false
set_option linter.unusedSimpArgs false
namespace Go.Vc
open Go Go.RowKit Go.ChangeShapes Go.WideShapes
/-! ## What is handed, opened by the shape of its type -/
section
variable (P : Program)
mutual
/-- a type of this shape -/
def ShT : Sh → TypeId → Prop
  | .i, t => P.underlying t = some (.int .i64)
  | .w8, t => P.underlying t = some (.int .u8)
  | .w32, t => P.underlying t = some (.int .u32)
  | .w64, t => P.underlying t = some (.int .u64)
  | .b, t => P.underlying t = some .bool
  | .s, t => P.underlying t = some .string
  | .l8 n, t => ∃ e, P.underlying t = some (.array n e) ∧ P.underlying e = some (.int .u8) ∧ P.cellsOf e = 1 ∧ P.cellsOf t = n
  | .ss, t => ∃ e, P.underlying t = some (.slice e) ∧ P.underlying e = some .string ∧ P.cellsOf e = 1
  | .bs, t => ∃ e, P.underlying t = some (.slice e) ∧ P.underlying e = some (.int .u8) ∧ P.cellsOf e = 1
  | .t l, t => ∃ fs, P.underlying t = some (.struct fs) ∧ P.cellsOf t = Sh.lcells l ∧ ShTs l fs.toList 0
  | .sl sh, t => ∃ e, P.underlying t = some (.slice e) ∧ P.cellsOf e = sh.cells ∧ 0 < sh.cells ∧ ShT sh e
def ShTs : List Sh → List Field → Nat → Prop
  | [], [], _ => True
  | a :: l, f :: fs, o => f.offset = o ∧ P.cellsOf f.type = a.cells ∧ ShT a f.type ∧ ShTs l fs (o + a.cells)
  | _, _, _ => False
end
end
mutual
/-- data of this shape, within a machine's bounds -/
def DF : Sh → D → Prop
  | .i, d => ∃ n, d = .i n ∧ -9223372036854775808 ≤ n ∧ n ≤ 9223372036854775807
  | .w8, d => ∃ x, d = .w8 x
  | .w32, d => ∃ x, d = .w32 x
  | .w64, d => ∃ x, d = .w64 x
  | .b, d => ∃ x, d = .b x
  | .s, d => ∃ x, d = .s x ∧ x.length ≤ 9223372036854775807
  | .l8 n, d => ∃ x, d = .l8 x ∧ x.length = n
  | .ss, d => ∃ x, d = .ss x ∧ x.length ≤ 9223372036854775807 ∧ ∀ y ∈ x, y.length ≤ 9223372036854775807
  | .bs, d => ∃ x, d = .l8 x ∧ x.length ≤ 9223372036854775807
  | .t l, d => ∃ ds, d = .t ds ∧ DFs l ds
  | .sl sh, d => ∃ ds, d = .t ds ∧ ds.length ≤ 9223372036854775807 ∧ ∀ x, x ∈ ds → DF sh x
def DFs : List Sh → List D → Prop
  | [], [] => True
  | a :: l, d :: ds => DF a d ∧ DFs l ds
  | _, _ => False
end
section
variable {P : Program} {w : World}
theorem sl_sh {sh : Sh} {t e : TypeId} (ht : P.underlying t = some (.slice e)) (hc : P.cellsOf e = sh.cells) (h0 : 0 < sh.cells)
    (hE : ∀ (H : Type) (enc : TypeId × Value → H) (base : Nat) (sp : Nat → Bool) (held : Bool) (fuel : Nat) (cs : List Value) (x : DataW H × List MemPlace), DataW.trod enc P w base sp held fuel e cs = some x → ∃ d, DF sh d ∧ DR mTop w sh d cs)
    (H : Type) (enc : TypeId × Value → H) (base : Nat) (sp : Nat → Bool) (held : Bool) (fuel : Nat) (cs : List Value) (x : DataW H × List MemPlace)
    (h : DataW.trod enc P w base sp held fuel t cs = some x) :
    ∃ (ds : List D) (ad : Option Addr) (cap : Nat) (css : List (List Value)), cs = [.slice ad ds.length cap] ∧ ds.length ≤ cap ∧ ds.length ≤ 9223372036854775807 ∧ css.length = ds.length ∧
      (∀ (j : Nat) (x : List Value) (y : D), css[j]? = some x → ds[j]? = some y → x.length = sh.cells ∧ DR mTop w sh y x) ∧ css.flatten.length = ds.length * sh.cells ∧ (0 < ds.length → ∃ a, ad = some a ∧ StableAt mTop w a css.flatten) ∧ ∀ x, x ∈ ds → DF sh x := by
  rcases DataW.trod_slice ht h with ⟨rfl, _⟩ | ⟨a, len, cap, elems, rest, m, rfl, rfl, rfl, _, hl, hm, hlen, hel, _⟩
  · exact ⟨[], none, 0, [], rfl, by simp, by simp, rfl, by simp, by simp, by simp, by simp⟩
  · have key : ∀ k, k ≤ len → ∃ (ds : List D) (css : List (List Value)), ds.length = k ∧ css.length = k ∧ (∀ (j : Nat) (x : List Value), css[j]? = some x → x.length = sh.cells) ∧ (∀ (j : Nat) (x : List Value) (y : D), css[j]? = some x → ds[j]? = some y → DR mTop w sh y x) ∧
        (∀ (j : Nat) x, css.flatten[j]? = some x → w.cell? (a.add j) = some x) ∧ ∀ x, x ∈ ds → DF sh x := by
      intro k
      induction k with
      | zero => exact fun _ => ⟨[], [], rfl, rfl, by simp, by simp, by simp, by simp⟩
      | succ k ih =>
        intro hk
        obtain ⟨ds, css, h1, h2, h3, h4, h5, h6⟩ := ih (by omega)
        have h7 := hel k (by omega)
        rw [List.getElem?_eq_getElem (by omega), hc, Option.bind_eq_some_iff] at h7
        obtain ⟨cs', hcs, hy⟩ := h7
        obtain ⟨d, hd1, hd2⟩ := hE H enc base sp held m _ _ hy
        have hdl := DR_len sh d cs' hd2
        obtain ⟨_, hn, hcell⟩ := World.cells?_some hcs
        have hfl := flat_len h3
        refine ⟨ds ++ [d], css ++ [cs'], by simp [h1], by simp [h2], fun j x hj => ?_, fun j x y hj hj' => ?_, fun j x hj => ?_, fun x hx => ?_⟩
        · rw [List.getElem?_append] at hj
          split at hj
          · exact h3 j x hj
          · have := List.mem_of_getElem? hj
            simp at this; rw [this]; exact hdl
        · rw [List.getElem?_append] at hj hj'
          rw [h2] at hj
          rw [h1] at hj'
          by_cases hlt : j < k
          · rw [if_pos hlt] at hj hj'
            exact h4 j x y hj hj'
          · rw [if_neg hlt] at hj hj'
            have e1 := List.mem_of_getElem? hj
            have e2 := List.mem_of_getElem? hj'
            simp at e1 e2
            rw [e1, e2]; exact hd2
        · rw [List.flatten_append, List.getElem?_append] at hj
          split at hj
          · exact h5 j x hj
          · rename_i hlt
            rw [hfl, h2] at hj hlt
            simp only [List.flatten_cons, List.flatten_nil, List.append_nil] at hj
            have hjl := (List.getElem?_eq_some_iff.1 hj).1
            have := hcell (j - k * sh.cells) (by omega)
            rw [hj, add_add_at, show k * sh.cells + (j - k * sh.cells) = j by omega] at this
            exact this
        · rcases List.mem_append.1 hx with hx | hx
          · exact h6 x hx
          · simp at hx; rw [hx]; exact hd1
    obtain ⟨ds, css, h1, h2, h3, h4, h5, h6⟩ := key len (Nat.le_refl _)
    have hfl := flat_len h3
    refine ⟨ds, some a, cap, css, by rw [h1], by omega, by simp [maxLen] at hm; omega, by omega, fun j x y hx hy => ⟨h3 j x hx, h4 j x y hx hy⟩, by rw [hfl, h2, h1], fun hn => ⟨a, rfl, stableAtTop ?_ h5⟩, h6⟩
    rw [hfl, h2]
    exact Nat.mul_pos (by omega) h0
mutual
theorem elt_sh : ∀ (sh : Sh) (t : TypeId), ShT P sh t → ∀ (H : Type) (enc : TypeId × Value → H) (base : Nat) (sp : Nat → Bool) (held : Bool) (fuel : Nat) (cs : List Value) (x : DataW H × List MemPlace),
    DataW.trod enc P w base sp held fuel t cs = some x → ∃ d, DF sh d ∧ DR mTop w sh d cs
  | .i, t, ht, H, enc, base, sp, held, fuel, cs, x, h => by
    obtain ⟨a, rfl, hq⟩ := elt_i64 (w := w) ht _ _ _ _ _ _ _ _ h
    exact ⟨.i a, ⟨a, rfl, hq⟩, by simp [DR, D.gi]⟩
  | .w8, t, ht, H, enc, base, sp, held, fuel, cs, x, h => by
    obtain ⟨a, rfl, hq⟩ := elt_u8 (w := w) ht _ _ _ _ _ _ _ _ h
    exact ⟨.w8 a, ⟨a, rfl⟩, by simp [DR, D.g8]⟩
  | .w32, t, ht, H, enc, base, sp, held, fuel, cs, x, h => by
    obtain ⟨a, rfl, hq⟩ := elt_u32 (w := w) ht _ _ _ _ _ _ _ _ h
    exact ⟨.w32 a, ⟨a, rfl⟩, by simp [DR, D.g32]⟩
  | .w64, t, ht, H, enc, base, sp, held, fuel, cs, x, h => by
    obtain ⟨a, rfl, hq⟩ := elt_u64 (w := w) ht _ _ _ _ _ _ _ _ h
    exact ⟨.w64 a, ⟨a, rfl⟩, by simp [DR, D.g64]⟩
  | .b, t, ht, H, enc, base, sp, held, fuel, cs, x, h => by
    obtain ⟨a, rfl, hq⟩ := elt_bool (w := w) ht _ _ _ _ _ _ _ _ h
    exact ⟨.b a, ⟨a, rfl⟩, by simp [DR, D.gb]⟩
  | .s, t, ht, H, enc, base, sp, held, fuel, cs, x, h => by
    obtain ⟨a, rfl, hq⟩ := elt_str (w := w) ht _ _ _ _ _ _ _ _ h
    exact ⟨.s a, ⟨a, rfl, hq⟩, by simp [DR, D.gs]⟩
  | .l8 n, t, ht, H, enc, base, sp, held, fuel, cs, x, h => by
    obtain ⟨e, h1, h2, h3, h4⟩ := ht
    obtain ⟨xs, rfl, hl, _⟩ := arr_of (w := w) h1 h3 h4 (elt_u8 h2) _ _ _ _ _ _ _ _ h
    exact ⟨.l8 xs, ⟨xs, rfl, hl⟩, by simp [DR, D.gl8, hl]⟩
  | .ss, t, ht, H, enc, base, sp, held, fuel, cs, x, h => by
    obtain ⟨e, h1, h2, h3⟩ := ht
    obtain ⟨xs, ad, cap, rfl, h4, h5, h6, h7⟩ := sl_of (w := w) h1 h3 (elt_str h2) _ _ _ _ _ _ _ _ h
    exact ⟨.ss xs, ⟨xs, rfl, h5, h7⟩, by simp only [DR, D.gss]; exact ⟨ad, _, cap, _, rfl, rfl, by simp, h4, h6⟩⟩
  | .bs, t, ht, H, enc, base, sp, held, fuel, cs, x, h => by
    obtain ⟨e, h1, h2, h3⟩ := ht
    obtain ⟨xs, ad, cap, rfl, h4, h5, h6, h7⟩ := sl_of (w := w) h1 h3 (elt_u8 h2) _ _ _ _ _ _ _ _ h
    exact ⟨.l8 xs, ⟨xs, rfl, h5⟩, by simp only [DR, D.gl8]; exact ⟨ad, _, cap, _, rfl, rfl, by simp, h4, h6⟩⟩
  | .t l, t, ht, H, enc, base, sp, held, fuel, cs, x, h => by
    obtain ⟨fs, h1, h2, h3⟩ := ht
    obtain ⟨xs, n, rfl, rfl, hl, hlen, hf⟩ := DataW.trod_struct h1 h
    obtain ⟨ds, g1, g2⟩ := elts_sh l fs.toList 0 h3 H enc base sp held n cs (fun i f hi => by
      have hi' : fs[i]? = some f := by simpa using hi
      have := hf i f hi'
      have hif := (Array.getElem?_eq_some_iff.1 hi').1
      exact ⟨xs[i]'(by omega), by rw [this, List.getElem?_eq_getElem (by omega)]⟩)
    refine ⟨.t ds, ⟨ds, rfl, g1⟩, ?_⟩
    have := g2 (.t ds) 0 (fun i => by simp [D.fld, D.gt])
    rw [List.drop_zero, List.take_of_length_le (by omega)] at this
    simpa only [DR] using this
  | .sl sh, t, ht, H, enc, base, sp, held, fuel, cs, x, h => by
    obtain ⟨e, h1, h2, h3, h4⟩ := ht
    obtain ⟨ds, ad, cap, css, rfl, g1, g2, g3, g4, g5, g6, g7⟩ := sl_sh (w := w) h1 h2 h3 (elt_sh sh e h4) _ _ _ _ _ _ _ _ h
    refine ⟨.t ds, ⟨ds, rfl, g2, g7⟩, ?_⟩
    simp only [DR, D.gt]
    exact ⟨ad, _, cap, _, rfl, ⟨css, g3, rfl, g4⟩, g5, g1, g6⟩
theorem elts_sh : ∀ (l : List Sh) (fs : List Field) (o : Nat), ShTs P l fs o → ∀ (H : Type) (enc : TypeId × Value → H) (base : Nat) (sp : Nat → Bool) (held : Bool) (fuel : Nat) (cs : List Value),
    (∀ (i : Nat) (f : Field), fs[i]? = some f → ∃ y, DataW.trod enc P w base sp held fuel f.type ((cs.drop f.offset).take (P.cellsOf f.type)) = some y) →
    ∃ ds, DFs l ds ∧ ∀ (d : D) (j0 : Nat), (∀ i, d.fld (j0 + i) = ds.getD i D.no) → DRs mTop w l d j0 ((cs.drop o).take (Sh.lcells l))
  | [], fs, o, ht, H, enc, base, sp, held, fuel, cs, h => ⟨[], by simp [DFs], fun d j0 _ => by simp [DRs, Sh.lcells]⟩
  | a :: l, fs, o, ht, H, enc, base, sp, held, fuel, cs, h => by
    cases fs with
    | nil => exact (show False from ht).elim
    | cons f fs =>
      obtain ⟨h1, h2, h3, h4⟩ := ht
      obtain ⟨y, hy⟩ := h 0 f rfl
      rw [h1, h2] at hy
      obtain ⟨d, g1, g2⟩ := elt_sh a f.type h3 H enc base sp held fuel _ _ hy
      obtain ⟨ds, k1, k2⟩ := elts_sh l fs (o + a.cells) h4 H enc base sp held fuel cs (fun i f' hi => h (i + 1) f' (by simpa using hi))
      refine ⟨d :: ds, ⟨g1, k1⟩, fun d0 j0 hd => ?_⟩
      simp only [DRs, Sh.lcells]
      refine ⟨(cs.drop o).take a.cells, (cs.drop (o + a.cells)).take (Sh.lcells l), ?_, ?_, ?_⟩
      · rw [List.take_add, List.drop_drop]
      · have := hd 0
        rw [Nat.add_zero] at this
        rw [this]; exact g2
      · refine k2 d0 (j0 + 1) (fun i => ?_)
        have := hd (i + 1)
        rw [show j0 + 1 + i = j0 + (i + 1) by omega, this]
        simp
end
section
variable {H : Type} {enc : TypeId × Value → H} {base b0 : Nat} {sp : Nat → Bool} {held : Bool} {t e : TypeId} {v : Value} {d : DataW H} {ps : List MemPlace} {r : Reach}
/-- a slice of elements of a shape -/
theorem openLD {sh : Sh} (ht : P.underlying t = some (.slice e)) (hc : P.cellsOf e = sh.cells) (h0 : 0 < sh.cells) (hs : ShT P sh e) (hval : Value.okWide P w r b0 t v) (hd : DataW.Trod enc P w base sp held t v d ps) :
    ∃ xs : List D, RV mTop w (.rb sh.cells (.ds sh xs)) v ∧ xs.length ≤ 9223372036854775807 ∧ ∀ x ∈ xs, DF sh x := by
  obtain ⟨a, len, cap, rfl⟩ := okWide_slice ht hval
  obtain ⟨fuel, hf⟩ := hd
  rw [cells_oneO (by simp)] at hf
  obtain ⟨ds, ad, cap', css, h1, h2, h3, h4, h5, h6, h7, h8⟩ := sl_sh (w := w) ht hc h0 (elt_sh sh e hs) _ _ _ _ _ _ _ _ hf
  simp only [List.cons.injEq, and_true, Value.slice.injEq] at h1
  obtain ⟨rfl, rfl, rfl⟩ := h1
  refine ⟨ds, ?_, h3, h8⟩
  simp only [RV, CR]
  exact ⟨_, _, _, css.flatten, rfl, by simp only [RC]; exact ⟨css, h4, rfl, h5⟩, h6, h2, h7⟩
end
end
theorem flat_one {α : Type} (E : α → Value) : ∀ xs : List α, (xs.map fun x => [E x]).flatten = xs.map E
  | [] => rfl
  | a :: l => by simp [flat_one E l]
/-- arrays of bools -/
theorem openAB {P : Program} {w : World} {t e : TypeId} {n : Nat} {r : Reach} {b0 base : Nat} {sp : Nat → Bool} {held : Bool} {v : Value} {H : Type} {enc : TypeId × Value → H} {d : DataW H} {ps : List MemPlace} (ht : P.underlying t = some (.array n e)) (he : P.underlying e = some .bool) (hc : P.cellsOf e = 1) (hn : P.cellsOf t = n) (hval : Value.okWide P w r b0 t v) (hd : DataW.Trod enc P w base sp held t v d ps) :
    ∃ xs : List Bool, RV mTop w (.ag n (.ds .b (xs.map D.b))) v ∧ xs.length = n := by
  obtain ⟨cs, rfl, hcs⟩ : ∃ cs, v = .agg cs ∧ cs.size = P.cellsOf t := by
    simp only [Value.okWide, ht] at hval
    obtain ⟨cs, h1, h2, _⟩ := hval
    exact ⟨cs, h1, h2⟩
  obtain ⟨fuel, hf⟩ := hd
  obtain ⟨xs, h1, h2, _⟩ := arr_of ht hc hn (elt_bool he) _ _ _ _ _ _ _ _ hf
  refine ⟨xs, ?_, h2⟩
  simp only [RV]
  have h1 : cs.toList = xs.map Value.bool := h1
  refine ⟨cs.toList, by simp, by simp [h1, h2], ?_⟩
  simp only [RC]
  refine ⟨xs.map fun x => [Value.bool x], by simp, ?_, fun j x y hx hy => ?_⟩
  · rw [h1]; exact (flat_one Value.bool xs).symm
  · rw [List.getElem?_map] at hx hy
    cases hq : xs[j]? with
    | none => simp [hq] at hx
    | some b =>
      simp [hq] at hx hy
      subst hx hy
      exact ⟨rfl, by simp [DR, D.gb]⟩
end Go.Vc
set_option linter.unusedVariables false
namespace Go.Vc
open Go Go.RowKit
/-- the closed facts of a row: what is asked of the whole program is handed in, the rest goes by reckoning -/
theorem joined_of {P : Program} {f : FuncId} {fn : Func} {s : ChangeSpec} {c : OpenClaim} (p1 : laidOutB P = true) (p2 : mapsRowed P = true) (p6 : P.stops = []) (p8 : P.stopKnobs = []) (p24 : P.stopsHeard = true) (p25 : P.mayEnter = true) (p26 : P.liftsFinal = false) (p27 : P.make = some .cut) (c26 : c.lifted = false) (c27 : c.make = .cut) (h0 : (c.wf (OpenSpec.ofChange s)) = true) (h3 : (fn.params.all (P.readableRec ·)) = true) (h4 : (namedTie P c.named s.vars) = true) (h5 : ((c.stops == [])) = true) (h7 : ((c.knobs == [])) = true) (h9 : ((c.inPlace == P.inPlace f)) = true) (h10 : ((c.unfollowed == P.unfollowed f)) = true) (h11 : ((c.recurses == P.recurses f)) = true) (h12 : ((c.named == P.varsNamed f)) = true) (h13 : ((c.maps == (fn.params.toList ++ s.plain.varTypes P).any (P.mapsRec ·))) = true) (h14 : ((c.ifaces == (fn.params.toList ++ s.plain.varTypes P).any (P.ifacesRec ·))) = true) (h15 : ((c.mapsOut == P.mapsAmong fn.resultTypes.toList)) = true) (h16 : ((c.loops == (fn.params.toList ++ s.plain.varTypes P).any (P.loopsFrom ·))) = true) (h17 : ((c.wideKeys == (fn.params.toList ++ s.plain.varTypes P ++ fn.resultTypes.toList).any (P.wideKeysFrom ·))) = true) (h18 : (s.vars.all (P.varReadable ·)) = true) (h19 : (fn.resultTypes.all (fun t => P.readableRec t && decide (t < P.types.size))) = true) (h20 : ((c.ifacesOut == fn.resultTypes.toList.any (P.ifacesRec ·))) = true) (h21 : ((c.loopsOut == fn.resultTypes.toList.any (P.loopsFrom ·))) = true) (h22 : ((c.plainKeys == P.plainKeys)) = true) (h23 : (c.shortTexts.isNone) = true) (h28 : ((c.kinds == (if c.domain.isEmpty then [] else fn.params.toList.map fun t => match P.underlying t with | some (.int k) => some k | _ => none))) = true) (h29 : ((c.pinned == c.pinnedBy)) = true) (h30 : ((c.veiled == (fn.params.toList ++ s.plain.varTypes P ++ fn.resultTypes.toList).any (P.veiledRec ·))) = true) (h31 : (c.veiledFits P fn.params.toList (fn.params.toList ++ s.plain.varTypes P ++ fn.resultTypes.toList)) = true) : joinedFacts P f fn s c = true := by
  unfold joinedFacts
  exact Bool.and_eq_true_iff.2 ⟨Bool.and_eq_true_iff.2 ⟨Bool.and_eq_true_iff.2 ⟨Bool.and_eq_true_iff.2 ⟨Bool.and_eq_true_iff.2 ⟨Bool.and_eq_true_iff.2 ⟨Bool.and_eq_true_iff.2 ⟨Bool.and_eq_true_iff.2 ⟨Bool.and_eq_true_iff.2 ⟨Bool.and_eq_true_iff.2 ⟨Bool.and_eq_true_iff.2 ⟨Bool.and_eq_true_iff.2 ⟨Bool.and_eq_true_iff.2 ⟨Bool.and_eq_true_iff.2 ⟨Bool.and_eq_true_iff.2 ⟨Bool.and_eq_true_iff.2 ⟨Bool.and_eq_true_iff.2 ⟨Bool.and_eq_true_iff.2 ⟨Bool.and_eq_true_iff.2 ⟨Bool.and_eq_true_iff.2 ⟨Bool.and_eq_true_iff.2 ⟨Bool.and_eq_true_iff.2 ⟨Bool.and_eq_true_iff.2 ⟨Bool.and_eq_true_iff.2 ⟨Bool.and_eq_true_iff.2 ⟨Bool.and_eq_true_iff.2 ⟨Bool.and_eq_true_iff.2 ⟨Bool.and_eq_true_iff.2 ⟨Bool.and_eq_true_iff.2 ⟨Bool.and_eq_true_iff.2 ⟨Bool.and_eq_true_iff.2 ⟨h0, p1⟩, p2⟩, h3⟩, h4⟩, h5⟩, (by rw [p6]; rfl)⟩, h7⟩, (by rw [p8]; rfl)⟩, h9⟩, h10⟩, h11⟩, h12⟩, h13⟩, h14⟩, h15⟩, h16⟩, h17⟩, h18⟩, h19⟩, h20⟩, h21⟩, h22⟩, h23⟩, p24⟩, p25⟩, (by rw [c26, p26]; rfl)⟩, (by rw [c27, p27]; rfl)⟩, h28⟩, h29⟩, h30⟩, h31⟩
end Go.Vc
set_option maxRecDepth 100000
namespace Go.Proofs.Ythhgmjclmdggjaa
open Go
/-- a sign by its number -/
abbrev kc (n : Nat) : Char := Char.ofNat n
theorem io_eq : Try.prog.initOrder = String.ofList [kc 104, kc 97, kc 114, kc 110, kc 101, kc 115, kc 115, kc 32, kc 100, kc 53, kc 55, kc 98, kc 101, kc 57, kc 51, kc 54, kc 51, kc 53, kc 53, kc 101, kc 97, kc 101, kc 101, kc 102, kc 97, kc 97, kc 99, kc 52, kc 97, kc 51, kc 49, kc 49, kc 99, kc 101, kc 99, kc 102, kc 55, kc 56, kc 56, kc 51, kc 50, kc 50, kc 101, kc 53, kc 49, kc 98, kc 98, kc 54, kc 97, kc 52, kc 54, kc 99, kc 57, kc 53, kc 53, kc 53, kc 48, kc 55, kc 56, kc 56, kc 54, kc 54, kc 99, kc 100, kc 52, kc 57, kc 102, kc 100, kc 50, kc 54, kc 100, kc 57, kc 32, kc 99, kc 117, kc 116, kc 32, kc 97, kc 116, kc 32, kc 115, kc 97, kc 99, kc 114, kc 105, kc 115, kc 116, kc 121, kc 47, kc 115, kc 97, kc 99, kc 114, kc 105, kc 115, kc 116, kc 121, kc 108, kc 97, kc 119, kc 54, kc 46, kc 83, kc 101, kc 99, kc 116, kc 111, kc 114, kc 65, kc 112, kc 97, kc 114, kc 116, kc 32, kc 115, kc 97, kc 99, kc 114, kc 105, kc 115, kc 116, kc 121, kc 47, kc 115, kc 97, kc 99, kc 114, kc 105, kc 115, kc 116, kc 121, kc 108, kc 97, kc 119, kc 54, kc 46, kc 83, kc 101, kc 99, kc 116, kc 111, kc 114, kc 75, kc 101, kc 101, kc 112, kc 115, kc 32, kc 115, kc 97, kc 99, kc 114, kc 105, kc 115, kc 116, kc 121, kc 47, kc 115, kc 97, kc 99, kc 114, kc 105, kc 115, kc 116, kc 121, kc 108, kc 97, kc 119, kc 54, kc 46, kc 83, kc 101, kc 99, kc 116, kc 111, kc 114, kc 67, kc 104, kc 111, kc 105, kc 99, kc 101, kc 115, kc 32, kc 115, kc 97, kc 99, kc 114, kc 105, kc 115, kc 116, kc 121, kc 47, kc 115, kc 97, kc 99, kc 114, kc 105, kc 115, kc 116, kc 121, kc 108, kc 97, kc 119, kc 54, kc 46, kc 83, kc 101, kc 99, kc 116, kc 111, kc 114, kc 73, kc 109, kc 97, kc 103, kc 101, kc 32, kc 115, kc 97, kc 99, kc 114, kc 105, kc 115, kc 116, kc 121, kc 47, kc 115, kc 97, kc 99, kc 114, kc 105, kc 115, kc 116, kc 121, kc 108, kc 97, kc 119, kc 54, kc 46, kc 83, kc 101, kc 99, kc 116, kc 111, kc 114, kc 80, kc 111, kc 119, kc 101, kc 114, kc 32, kc 115, kc 97, kc 99, kc 114, kc 105, kc 115, kc 116, kc 121, kc 47, kc 115, kc 97, kc 99, kc 114, kc 105, kc 115, kc 116, kc 121, kc 108, kc 97, kc 119, kc 54, kc 46, kc 83, kc 101, kc 99, kc 116, kc 111, kc 114, kc 80, kc 108, kc 97, kc 121, kc 115] := by kernel_rfl
theorem io_chars : Try.prog.initOrder.toList = [kc 104, kc 97, kc 114, kc 110, kc 101, kc 115, kc 115, kc 32, kc 100, kc 53, kc 55, kc 98, kc 101, kc 57, kc 51, kc 54, kc 51, kc 53, kc 53, kc 101, kc 97, kc 101, kc 101, kc 102, kc 97, kc 97, kc 99, kc 52, kc 97, kc 51, kc 49, kc 49, kc 99, kc 101, kc 99, kc 102, kc 55, kc 56, kc 56, kc 51, kc 50, kc 50, kc 101, kc 53, kc 49, kc 98, kc 98, kc 54, kc 97, kc 52, kc 54, kc 99, kc 57, kc 53, kc 53, kc 53, kc 48, kc 55, kc 56, kc 56, kc 54, kc 54, kc 99, kc 100, kc 52, kc 57, kc 102, kc 100, kc 50, kc 54, kc 100, kc 57, kc 32, kc 99, kc 117, kc 116, kc 32, kc 97, kc 116, kc 32, kc 115, kc 97, kc 99, kc 114, kc 105, kc 115, kc 116, kc 121, kc 47, kc 115, kc 97, kc 99, kc 114, kc 105, kc 115, kc 116, kc 121, kc 108, kc 97, kc 119, kc 54, kc 46, kc 83, kc 101, kc 99, kc 116, kc 111, kc 114, kc 65, kc 112, kc 97, kc 114, kc 116, kc 32, kc 115, kc 97, kc 99, kc 114, kc 105, kc 115, kc 116, kc 121, kc 47, kc 115, kc 97, kc 99, kc 114, kc 105, kc 115, kc 116, kc 121, kc 108, kc 97, kc 119, kc 54, kc 46, kc 83, kc 101, kc 99, kc 116, kc 111, kc 114, kc 75, kc 101, kc 101, kc 112, kc 115, kc 32, kc 115, kc 97, kc 99, kc 114, kc 105, kc 115, kc 116, kc 121, kc 47, kc 115, kc 97, kc 99, kc 114, kc 105, kc 115, kc 116, kc 121, kc 108, kc 97, kc 119, kc 54, kc 46, kc 83, kc 101, kc 99, kc 116, kc 111, kc 114, kc 67, kc 104, kc 111, kc 105, kc 99, kc 101, kc 115, kc 32, kc 115, kc 97, kc 99, kc 114, kc 105, kc 115, kc 116, kc 121, kc 47, kc 115, kc 97, kc 99, kc 114, kc 105, kc 115, kc 116, kc 121, kc 108, kc 97, kc 119, kc 54, kc 46, kc 83, kc 101, kc 99, kc 116, kc 111, kc 114, kc 73, kc 109, kc 97, kc 103, kc 101, kc 32, kc 115, kc 97, kc 99, kc 114, kc 105, kc 115, kc 116, kc 121, kc 47, kc 115, kc 97, kc 99, kc 114, kc 105, kc 115, kc 116, kc 121, kc 108, kc 97, kc 119, kc 54, kc 46, kc 83, kc 101, kc 99, kc 116, kc 111, kc 114, kc 80, kc 111, kc 119, kc 101, kc 114, kc 32, kc 115, kc 97, kc 99, kc 114, kc 105, kc 115, kc 116, kc 121, kc 47, kc 115, kc 97, kc 99, kc 114, kc 105, kc 115, kc 116, kc 121, kc 108, kc 97, kc 119, kc 54, kc 46, kc 83, kc 101, kc 99, kc 116, kc 111, kc 114, kc 80, kc 108, kc 97, kc 121, kc 115] := by
  rw [io_eq]
  exact String.toList_ofList
theorem ws_word : ∀ (w r : List Char), (w.all fun c => c != kc 32) = true → wordsSigns (w ++ kc 32 :: r) = w :: wordsSigns r
  | [], r, _ => rfl
  | c :: w, r, h => by
    simp only [List.all_cons, Bool.and_eq_true, bne_iff_ne, ne_eq] at h
    have ih := ws_word w r h.2
    rw [List.cons_append, wordsSigns]
    · rw [ih]
    · intro e; exact h.1 e
theorem io_words : ∃ ws, behindMainWord (wordsSigns Try.prog.initOrder.toList) = [kc 99, kc 117, kc 116] :: ws := by
  refine ⟨wordsSigns [kc 97, kc 116, kc 32, kc 115, kc 97, kc 99, kc 114, kc 105, kc 115, kc 116, kc 121, kc 47, kc 115, kc 97, kc 99, kc 114, kc 105, kc 115, kc 116, kc 121, kc 108, kc 97, kc 119, kc 54, kc 46, kc 83, kc 101, kc 99, kc 116, kc 111, kc 114, kc 65, kc 112, kc 97, kc 114, kc 116, kc 32, kc 115, kc 97, kc 99, kc 114, kc 105, kc 115, kc 116, kc 121, kc 47, kc 115, kc 97, kc 99, kc 114, kc 105, kc 115, kc 116, kc 121, kc 108, kc 97, kc 119, kc 54, kc 46, kc 83, kc 101, kc 99, kc 116, kc 111, kc 114, kc 75, kc 101, kc 101, kc 112, kc 115, kc 32, kc 115, kc 97, kc 99, kc 114, kc 105, kc 115, kc 116, kc 121, kc 47, kc 115, kc 97, kc 99, kc 114, kc 105, kc 115, kc 116, kc 121, kc 108, kc 97, kc 119, kc 54, kc 46, kc 83, kc 101, kc 99, kc 116, kc 111, kc 114, kc 67, kc 104, kc 111, kc 105, kc 99, kc 101, kc 115, kc 32, kc 115, kc 97, kc 99, kc 114, kc 105, kc 115, kc 116, kc 121, kc 47, kc 115, kc 97, kc 99, kc 114, kc 105, kc 115, kc 116, kc 121, kc 108, kc 97, kc 119, kc 54, kc 46, kc 83, kc 101, kc 99, kc 116, kc 111, kc 114, kc 73, kc 109, kc 97, kc 103, kc 101, kc 32, kc 115, kc 97, kc 99, kc 114, kc 105, kc 115, kc 116, kc 121, kc 47, kc 115, kc 97, kc 99, kc 114, kc 105, kc 115, kc 116, kc 121, kc 108, kc 97, kc 119, kc 54, kc 46, kc 83, kc 101, kc 99, kc 116, kc 111, kc 114, kc 80, kc 111, kc 119, kc 101, kc 114, kc 32, kc 115, kc 97, kc 99, kc 114, kc 105, kc 115, kc 116, kc 121, kc 47, kc 115, kc 97, kc 99, kc 114, kc 105, kc 115, kc 116, kc 121, kc 108, kc 97, kc 119, kc 54, kc 46, kc 83, kc 101, kc 99, kc 116, kc 111, kc 114, kc 80, kc 108, kc 97, kc 121, kc 115], ?_⟩
  rw [io_chars]
  show behindMainWord (wordsSigns ([kc 104, kc 97, kc 114, kc 110, kc 101, kc 115, kc 115] ++ kc 32 :: ([kc 100, kc 53, kc 55, kc 98, kc 101, kc 57, kc 51, kc 54, kc 51, kc 53, kc 53, kc 101, kc 97, kc 101, kc 101, kc 102, kc 97, kc 97, kc 99, kc 52, kc 97, kc 51, kc 49, kc 49, kc 99, kc 101, kc 99, kc 102, kc 55, kc 56, kc 56, kc 51, kc 50, kc 50, kc 101, kc 53, kc 49, kc 98, kc 98, kc 54, kc 97, kc 52, kc 54, kc 99, kc 57, kc 53, kc 53, kc 53, kc 48, kc 55, kc 56, kc 56, kc 54, kc 54, kc 99, kc 100, kc 52, kc 57, kc 102, kc 100, kc 50, kc 54, kc 100, kc 57] ++ kc 32 :: ([kc 99, kc 117, kc 116] ++ kc 32 :: [kc 97, kc 116, kc 32, kc 115, kc 97, kc 99, kc 114, kc 105, kc 115, kc 116, kc 121, kc 47, kc 115, kc 97, kc 99, kc 114, kc 105, kc 115, kc 116, kc 121, kc 108, kc 97, kc 119, kc 54, kc 46, kc 83, kc 101, kc 99, kc 116, kc 111, kc 114, kc 65, kc 112, kc 97, kc 114, kc 116, kc 32, kc 115, kc 97, kc 99, kc 114, kc 105, kc 115, kc 116, kc 121, kc 47, kc 115, kc 97, kc 99, kc 114, kc 105, kc 115, kc 116, kc 121, kc 108, kc 97, kc 119, kc 54, kc 46, kc 83, kc 101, kc 99, kc 116, kc 111, kc 114, kc 75, kc 101, kc 101, kc 112, kc 115, kc 32, kc 115, kc 97, kc 99, kc 114, kc 105, kc 115, kc 116, kc 121, kc 47, kc 115, kc 97, kc 99, kc 114, kc 105, kc 115, kc 116, kc 121, kc 108, kc 97, kc 119, kc 54, kc 46, kc 83, kc 101, kc 99, kc 116, kc 111, kc 114, kc 67, kc 104, kc 111, kc 105, kc 99, kc 101, kc 115, kc 32, kc 115, kc 97, kc 99, kc 114, kc 105, kc 115, kc 116, kc 121, kc 47, kc 115, kc 97, kc 99, kc 114, kc 105, kc 115, kc 116, kc 121, kc 108, kc 97, kc 119, kc 54, kc 46, kc 83, kc 101, kc 99, kc 116, kc 111, kc 114, kc 73, kc 109, kc 97, kc 103, kc 101, kc 32, kc 115, kc 97, kc 99, kc 114, kc 105, kc 115, kc 116, kc 121, kc 47, kc 115, kc 97, kc 99, kc 114, kc 105, kc 115, kc 116, kc 121, kc 108, kc 97, kc 119, kc 54, kc 46, kc 83, kc 101, kc 99, kc 116, kc 111, kc 114, kc 80, kc 111, kc 119, kc 101, kc 114, kc 32, kc 115, kc 97, kc 99, kc 114, kc 105, kc 115, kc 116, kc 121, kc 47, kc 115, kc 97, kc 99, kc 114, kc 105, kc 115, kc 116, kc 121, kc 108, kc 97, kc 119, kc 54, kc 46, kc 83, kc 101, kc 99, kc 116, kc 111, kc 114, kc 80, kc 108, kc 97, kc 121, kc 115])))) = _
  rw [ws_word _ _ (by kernel_rfl), ws_word _ _ (by kernel_rfl), ws_word _ _ (by kernel_rfl)]
  generalize wordsSigns _ = ws
  kernel_rfl
theorem w_gc : ([kc 99, kc 117, kc 116] == "gc".toList) = false := by kernel_rfl
theorem w_spec : ([kc 99, kc 117, kc 116] == "spec".toList) = false := by kernel_rfl
theorem w_cut : ([kc 99, kc 117, kc 116] == "cut".toList) = true := by kernel_rfl
theorem w_carried : ([kc 99, kc 117, kc 116] == "carried".toList) = false := by kernel_rfl
theorem w_some : (some [kc 99, kc 117, kc 116] == some "cut".toList) = true := by kernel_rfl
theorem w_lays : Try.prog.laysLater = false := by kernel_rfl
theorem w_refl : Try.prog.bearsReflect = false := by kernel_rfl
theorem w_door : Try.prog.doorFits [] = true := by kernel_rfl
theorem w_strip (ws : List (List Char)) : stripLifts liftWords ([kc 99, kc 117, kc 116] :: ws) = ([], [kc 99, kc 117, kc 116] :: ws) := by kernel_rfl
theorem may_of {P : Program} {C : List Char} {ws : List (List Char)} (h : behindMainWord (wordsSigns P.initOrder.toList) = C :: ws) (h1 : (some C == some "cut".toList) = true) (hs : stripLifts liftWords (C :: ws) = ([], C :: ws)) (h2 : P.laysLater = false) (h3 : P.bearsReflect = false) (h4 : P.doorFits [] = true) : P.mayEnter = true := by
  unfold Program.mayEnter
  rw [h]
  simp only [hs, List.head?_cons, h1, h2, h3, h4]
  simp
theorem p_mayEnter : Try.prog.mayEnter = true := by
  obtain ⟨ws, h⟩ := io_words
  exact may_of h w_some (w_strip ws) w_lays w_refl w_door
theorem p_lifts : Try.prog.liftsFinal = false := by
  obtain ⟨ws, h⟩ := io_words
  unfold Program.liftsFinal Program.headLifts
  rw [h]
  kernel_rfl
theorem make_of {P : Program} {C : List Char} {ws : List (List Char)} (h : behindMainWord (wordsSigns P.initOrder.toList) = C :: ws) (h1 : (C == "gc".toList) = false) (h2 : (C == "spec".toList) = false) (h3 : (C == "cut".toList) = true) : P.make = some .cut := by
  unfold Program.make
  rw [h]
  simp only [h1, h2, h3]
  simp
theorem p_make : Try.prog.make = some .cut := by
  obtain ⟨ws, h⟩ := io_words
  exact make_of h w_gc w_spec w_cut
theorem p_laidOut : laidOutB Try.prog = true := by kernel_rfl
theorem p_maps : mapsRowed Try.prog = true := by kernel_rfl
theorem p_stops : Try.prog.stops = [] := by kernel_rfl
theorem p_knobs : Try.prog.stopKnobs = [] := by kernel_rfl
theorem p_heard : Try.prog.stopsHeard = true := by kernel_rfl
end Go.Proofs.Ythhgmjclmdggjaa
