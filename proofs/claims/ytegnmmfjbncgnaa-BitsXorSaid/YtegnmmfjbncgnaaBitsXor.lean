/- The given statement is proved: for every input the law's function answers true. No condition. -/
import Derived.Test.YtegnmmfjbncgnaaRows
import Derived.Test.YtegnmmfjbncgnaaPart3
import Derived.Test.YtegnmmfjbncgnaaPart4
import Derived.WalkKit
import Derived.ProofKit
import Derived.OpenShut
import Derived.ShutString
set_option linter.unusedVariables false
set_option linter.unusedSimpArgs false
set_option maxRecDepth 100000
set_option maxHeartbeats 4000000
namespace Go.Proofs.Ytegnmmfjbncgnaa
open Go Go.Vc
noncomputable def sp_law1_BitsXor (F : Fs) (U : Us) : Specs := [(14, s_law1_known F U), (21, s_bits_Xor F U)]
theorem ok_law1_BitsXor : SpecsOK Try.prog (sp_law1_BitsXor real us) := sp_cons r_law1_known k_law1_known (sp_cons r_bits_Xor k_bits_Xor sp_nil)
noncomputable def x_law1_BitsXor (F : Fs) (U : Us) : Cx := ⟨Try.f5.ntmps, tt F, sp_law1_BitsXor F U, [], [(7, ([(11, [7, 8]), (12, [7, 8]), (21, [18, 19])], []))], [], [7]⟩
theorem c_law1_BitsXor (a b : List UInt8) (q0 : a.length ≤ 9223372036854775807) (q1 : b.length ≤ 9223372036854775807) : vc real (x_law1_BitsXor real us) [] [] (Try.f5.body.getD .skip) ⟨zipSl 0 [.rb 1 (.bt a), .rb 1 (.bt b)], [], 64⟩ (retOk real (tt real) false Try.f5.results.toList [.val (.b true)]) := by
  generalize hU : us = U
  generalize hF : real = F
  cbv
  repeat' first | apply And.intro | refine Classical.or_iff_not_imp_left.2 (fun _ => ?_) | exact trivial
  all_goals subst hF hU
  all_goals simp only [real, us, Nat.le_eq, Nat.succ_eq_add_one, Int.cast_ofNat_Int, decide_eq_false_iff_not, decide_eq_true_eq, Bool.not_eq_true, Bool.not_eq_false, decide_not, Nat.not_lt, Nat.not_le] at *
  all_goals try omega
  all_goals try simp only [List.length_zipWith]
  all_goals try omega
  · rw [beq_iff_eq]; split <;> omega
  · rw [min_if, xor_twice]; simp
  · rw [xor_flip]; simp
end Go.Proofs.Ytegnmmfjbncgnaa
namespace Go.Proofs.Ytegnmmfjbncgnaa.bitsXor
open Go.ChangeShapes Go.WideShapes Go.ChangeAt Go.RowKit
set_option linter.unusedVariables false
theorem own : ownKnob Try.prog.godebug = none := by kernel_rfl
theorem laidOut : laidOutB Try.prog = true := by kernel_rfl
set_option maxRecDepth 100000 in
theorem lifted (os : Os) (started : os.Started) (H : Type) (enc : TypeId × Value → H) :
    ReturnsInHanded {} Try.checked os 5 .any (Rows.bitsXorSpec.pre6 enc Try.prog Try.f5 Rows.bitsXorRow.domain false) (Rows.bitsXorSpec.post enc Try.prog Try.f5 false true false false) := by
  refine returnsInHanded_of_change (C := Try.checked) own started (by kernel_rfl) Try.func5
    (ChangeSpec.witness6 (enc := enc) (C := Try.checked) false ⟨#[], #[.slice none 0 0, .slice none 0 0], []⟩ 8 (by kernel_rfl) (by kernel_rfl) (by kernel_rfl) (by kernel_rfl)) ?_
  intro W base args ds gs before hval0 hW hcnd _
  have hval : ∀ (j : Nat) t v, Try.f5.params[j]? = some t → args[j]? = some v → Value.okWide Try.prog W .any base t v := hval0
  have hW' := hW
  obtain ⟨p, q, hA0, hV, rfl, hfz, hnd⟩ := hW
  have hA : DataW.TrodAll enc Try.prog W 0 (fun _ => true) true Try.f5.params.toList args.toList ds p := hA0
  rw [Try.params5] at hA hval
  obtain ⟨v0, vs0, d0, ds0, p0, q0, hargs, rfl, rfl, h0, r0⟩ := trodAll_cons hA
  obtain ⟨v1, vs1, d1, ds1, p1, q1, rfl, rfl, rfl, h1, r1⟩ := trodAll_cons r0
  obtain ⟨rfl, rfl, rfl⟩ := trodAll_nil r1
  obtain rfl : args = #[v0, v1] := by cases args; simp_all
  obtain ⟨rfl, rfl⟩ := trodVars_none hV
  obtain ⟨a, k0, q0⟩ := Go.Vc.openL8 Try.underlying26 Try.underlying5 (by kernel_rfl) (hval 0 26 v0 rfl rfl) h0
  obtain ⟨b, k1, q1⟩ := Go.Vc.openL8 Try.underlying26 Try.underlying5 (by kernel_rfl) (hval 1 26 v1 rfl rfl) h1
  clear hA0 hval0
  refine (Go.Vc.law_walk2 (x := x_law1_BitsXor Go.Vc.real us) (an := []) (cu := []) (l := [.rb 1 (.bt a), .rb 1 (.bt b)]) (vals := [v0, v1]) ⟨tt_ok, ok_law1_BitsXor, Go.Vc.ks_nil⟩ mixed Try.func5 rfl rfl (by kernel_rfl) (Nat.le_of_ble_eq_true rfl) (Go.Vc.rvs_cons k0 (Go.Vc.rvs_cons k1 Go.Vc.rvs_nil)) (c_law1_BitsXor a b q0 q1)).mono fun e W' ⟨he, bel⟩ => ?_
  subst he
  exact ⟨_, rfl, Go.Vc.post_true (tb := 4) laidOut (by kernel_rfl) rfl Try.underlying4 rfl hW' rfl bel⟩
theorem over : Rows.bitsXorRow.holds Try.pinned (OpenSpec.ofChange Rows.bitsXorSpec) :=
  OpenClaim.holds_of_wide 5 Try.f5 rfl rfl rfl rfl rfl rfl rfl ⟨rfl, rfl, rfl, rfl, rfl⟩ rfl rfl rfl rfl rfl (by kernel_rfl) Try.func5 (by kernel_rfl)
    (of_decide_eq_true (by kernel_rfl)) (by unfold Func.isWrapper; first | (rw [if_pos (by decide +kernel)]; kernel_rfl) | (rw [if_neg (by decide +kernel)]; exact ⟨rfl, rfl⟩))
    (fun os started H enc _ => lifted os started H enc)
theorem proved : Rows.BitsXorSaid := over
#print axioms proved
end Go.Proofs.Ytegnmmfjbncgnaa.bitsXor

