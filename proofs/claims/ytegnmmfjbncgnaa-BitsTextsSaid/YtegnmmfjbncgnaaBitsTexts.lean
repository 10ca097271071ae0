/- The given statement is proved: for every input the law's function answers true. No condition. -/
import Derived.Test.YtegnmmfjbncgnaaRows
import Derived.Test.YtegnmmfjbncgnaaPart3
import Derived.Test.YtegnmmfjbncgnaaPart4
import Derived.WalkKit
import Derived.ProofKit
import Derived.OpenShut
import Derived.ShutString
set_option linter.unusedVariables false
set_option linter.unusedSimpArgs false
set_option maxRecDepth 100000
set_option maxHeartbeats 4000000
namespace Go.Proofs.Ytegnmmfjbncgnaa
open Go Go.Vc
noncomputable def sp_law1_BitsTexts (F : Fs) (U : Us) : Specs := [(14, s_law1_known F U), (30, s_bits_Text F U), (33, s_ref1_Text F U), (31, s_bits_GetText F U), (32, s_ref1_GetText F U)]
theorem ok_law1_BitsTexts : SpecsOK Try.prog (sp_law1_BitsTexts real us) := sp_cons r_law1_known k_law1_known (sp_cons r_bits_Text k_bits_Text (sp_cons r_ref1_Text k_ref1_Text (sp_cons r_bits_GetText k_bits_GetText (sp_cons r_ref1_GetText k_ref1_GetText sp_nil))))
noncomputable def x_law1_BitsTexts (F : Fs) (U : Us) : Cx := ⟨Try.f7.ntmps, tt F, sp_law1_BitsTexts F U, [], [(9, ([(1, [3]), (3, [1]), (5, [1]), (6, [1]), (22, [20])], [(5, [3])]))], [], [9]⟩
theorem c_law1_BitsTexts (a s : List UInt8) (m : Int) (q0 : a.length ≤ 9223372036854775807) (q1 : s.length ≤ 9223372036854775807) (q2 : -9223372036854775808 ≤ m ∧ m ≤ 9223372036854775807) : vc real (x_law1_BitsTexts real us) [] [] (Try.f7.body.getD .skip) ⟨zipSl 0 [.rb 1 (.bt a), .s s, .i m], [], 64⟩ (retOk real (tt real) false Try.f7.results.toList [.val (.b true)]) := by
  generalize hU : us = U
  generalize hF : real = F
  cbv
  repeat' first | apply And.intro | refine Classical.or_iff_not_imp_left.2 (fun _ => ?_) | exact trivial
  all_goals try (subst hF hU; simp only [real, us, Nat.le_eq, Int.cast_ofNat_Int, decide_eq_false_iff_not, decide_eq_true_eq, Bool.not_eq_true', Bool.not_eq_false', beq_eq_false_iff_ne, beq_iff_eq, ne_eq, Decidable.not_not, List.length_take, List.length_drop, List.length_append, List.length_replicate, List.length_set, List.length_cons, List.length_nil] at *; omega)
  all_goals subst hF hU
  all_goals simp only [real, Bool.not_eq_true, decide_eq_false_iff_not, decide_eq_true_eq, Int.not_lt, Int.cast_ofNat_Int] at *
  all_goals have hs : s.length ≤ 300 := by omega
  all_goals have ha : a.length ≤ 300 := by omega
  all_goals obtain ⟨t1, t2, t3⟩ := text_gt s [] (by omega) 300 (by omega)
  all_goals rw [List.append_nil] at t1 t2 t3
  all_goals have tl := text_len s (by omega)
  all_goals have ga := gtA_le a m
  all_goals have e0 := cut_all a
  all_goals have e1 : ((a ++ us.text s).drop a.length).take ((a ++ us.text s).length - a.length) = us.text s := by simp
  all_goals simp only [us] at *
  all_goals try simp only [e0, e1, t1, t2, t3, Int.toNat_natCast]
  all_goals try simp only [List.length_append, tl]
  all_goals try omega
  all_goals try (simp; done)
  all_goals try (rw [beq_iff_eq]; congr 2 <;> omega)
  · exact q2
end Go.Proofs.Ytegnmmfjbncgnaa
namespace Go.Proofs.Ytegnmmfjbncgnaa.bitsTexts
open Go.ChangeShapes Go.WideShapes Go.ChangeAt Go.RowKit
set_option linter.unusedVariables false
theorem own : ownKnob Try.prog.godebug = none := by kernel_rfl
theorem laidOut : laidOutB Try.prog = true := by kernel_rfl
set_option maxRecDepth 100000 in
theorem lifted (os : Os) (started : os.Started) (H : Type) (enc : TypeId × Value → H) :
    ReturnsInHanded {} Try.checked os 7 .any (Rows.bitsTextsSpec.pre6 enc Try.prog Try.f7 Rows.bitsTextsRow.domain false) (Rows.bitsTextsSpec.post enc Try.prog Try.f7 false true false false) := by
  refine returnsInHanded_of_change (C := Try.checked) own started (by kernel_rfl) Try.func7
    (ChangeSpec.witness6 (enc := enc) (C := Try.checked) false ⟨#[], #[.slice none 0 0, .string ByteArray.empty, .int .i64 0], []⟩ 8 (by kernel_rfl) (by kernel_rfl) (by kernel_rfl) (by kernel_rfl)) ?_
  intro W base args ds gs before hval0 hW hcnd _
  have hval : ∀ (j : Nat) t v, Try.f7.params[j]? = some t → args[j]? = some v → Value.okWide Try.prog W .any base t v := hval0
  have hW' := hW
  obtain ⟨p, q, hA0, hV, rfl, hfz, hnd⟩ := hW
  have hA : DataW.TrodAll enc Try.prog W 0 (fun _ => true) true Try.f7.params.toList args.toList ds p := hA0
  rw [Try.params7] at hA hval
  obtain ⟨v0, vs0, d0, ds0, p0, q0, hargs, rfl, rfl, h0, r0⟩ := trodAll_cons hA
  obtain ⟨v1, vs1, d1, ds1, p1, q1, rfl, rfl, rfl, h1, r1⟩ := trodAll_cons r0
  obtain ⟨v2, vs2, d2, ds2, p2, q2, rfl, rfl, rfl, h2, r2⟩ := trodAll_cons r1
  obtain ⟨rfl, rfl, rfl⟩ := trodAll_nil r2
  obtain rfl : args = #[v0, v1, v2] := by cases args; simp_all
  obtain ⟨rfl, rfl⟩ := trodVars_none hV
  obtain ⟨a, k0, q0⟩ := Go.Vc.openL8 Try.underlying26 Try.underlying5 (by kernel_rfl) (hval 0 26 v0 rfl rfl) h0
  obtain ⟨s, k1, q1⟩ := Go.Vc.openS Try.underlying9 (hval 1 9 v1 rfl rfl) h1
  obtain ⟨m, k2, q2⟩ := Go.Vc.openI Try.underlying3 (hval 2 3 v2 rfl rfl) h2
  clear hA0 hval0
  refine (Go.Vc.law_walk2 (x := x_law1_BitsTexts Go.Vc.real us) (an := []) (cu := []) (l := [.rb 1 (.bt a), .s s, .i m]) (vals := [v0, v1, v2]) ⟨tt_ok, ok_law1_BitsTexts, Go.Vc.ks_nil⟩ mixed Try.func7 rfl rfl (by kernel_rfl) (Nat.le_of_ble_eq_true rfl) (Go.Vc.rvs_cons k0 (Go.Vc.rvs_cons k1 (Go.Vc.rvs_cons k2 Go.Vc.rvs_nil))) (c_law1_BitsTexts a s m q0 q1 q2)).mono fun e W' ⟨he, bel⟩ => ?_
  subst he
  exact ⟨_, rfl, Go.Vc.post_true (tb := 4) laidOut (by kernel_rfl) rfl Try.underlying4 rfl hW' rfl bel⟩
theorem over : Rows.bitsTextsRow.holds Try.pinned (OpenSpec.ofChange Rows.bitsTextsSpec) :=
  OpenClaim.holds_of_wide 7 Try.f7 rfl rfl rfl rfl rfl rfl rfl ⟨rfl, rfl, rfl, rfl, rfl⟩ rfl rfl rfl rfl rfl (by kernel_rfl) Try.func7 (by kernel_rfl)
    (of_decide_eq_true (by kernel_rfl)) (by unfold Func.isWrapper; first | (rw [if_pos (by decide +kernel)]; kernel_rfl) | (rw [if_neg (by decide +kernel)]; exact ⟨rfl, rfl⟩))
    (fun os started H enc _ => lifted os started H enc)
theorem proved : Rows.BitsTextsSaid := over
#print axioms proved
end Go.Proofs.Ytegnmmfjbncgnaa.bitsTexts

