/- The given statement is proved: for every input the law's function answers true. No condition. -/
import Derived.Test.YtegnmmfjbncgnaaRows
import Derived.Test.YtegnmmfjbncgnaaPart3
import Derived.Test.YtegnmmfjbncgnaaPart4
import Derived.WalkKit
import Derived.ProofKit
import Derived.OpenShut
import Derived.ShutString
set_option linter.unusedVariables false
set_option linter.unusedSimpArgs false
set_option maxRecDepth 100000
set_option maxHeartbeats 4000000
namespace Go.Proofs.Ytegnmmfjbncgnaa
open Go Go.Vc
theorem ofI8_0 : UInt8.ofNat ((0 : Int) % 2 ^ 8).toNat = 0 := by decide
theorem four_len (b : List UInt8) : (four b).length = 4 := by simp [four]
theorem four_four (b : List UInt8) : four (four b) = four b := by
  have h := four_len b
  unfold four at h ⊢
  rw [List.take_append_of_le_length (by omega), List.take_of_length_le (by omega)]
theorem big_four (b : List UInt8) : us.big ((b ++ [0, 0, 0, 0]).take 4) = us.big b := by
  have h := four_four b
  simp only [us, u_big]
  show (UInt32.ofNat ((four (four b)).getD 0 0).toNat <<< 24 ||| UInt32.ofNat ((four (four b)).getD 1 0).toNat <<< 16 ||| UInt32.ofNat ((four (four b)).getD 2 0).toNat <<< 8 ||| UInt32.ofNat ((four (four b)).getD 3 0).toNat) = _
  rw [h]
theorem little_four (b : List UInt8) : us.little ((b ++ [0, 0, 0, 0]).take 4) = us.little b := by
  have h := four_four b
  simp only [us, u_little]
  show (UInt32.ofNat ((four (four b)).getD 3 0).toNat <<< 24 ||| UInt32.ofNat ((four (four b)).getD 2 0).toNat <<< 16 ||| UInt32.ofNat ((four (four b)).getD 1 0).toNat <<< 8 ||| UInt32.ofNat ((four (four b)).getD 0 0).toNat) = _
  rw [h]
end Go.Proofs.Ytegnmmfjbncgnaa
namespace Go.Proofs.Ytegnmmfjbncgnaa
open Go Go.Vc
noncomputable def sp_law1_BitsWays (F : Fs) (U : Us) : Specs := [(14, s_law1_known F U), (17, s_bits_PutBig F U), (18, s_bits_PutLittle F U), (19, s_bits_Big F U), (20, s_bits_Little F U)]
theorem ok_law1_BitsWays : SpecsOK Try.prog (sp_law1_BitsWays real us) := sp_cons r_law1_known k_law1_known (sp_cons r_bits_PutBig k_bits_PutBig (sp_cons r_bits_PutLittle k_bits_PutLittle (sp_cons r_bits_Big k_bits_Big (sp_cons r_bits_Little k_bits_Little sp_nil))))
noncomputable def x_law1_BitsWays (F : Fs) (U : Us) : Cx := ⟨Try.f4.ntmps, tt F, sp_law1_BitsWays F U, [], [(7, ([(4, [1, 2]), (5, [1, 2]), (7, [1, 2, 4, 5]), (8, [1, 2, 4, 5]), (10, [1, 2, 4, 5, 7, 8]), (11, [1, 2, 4, 5, 7, 8])], []))], [], [8]⟩
theorem c_law1_BitsWays (x : UInt32) (b : List UInt8) (q1 : b.length ≤ 9223372036854775807) : vc real (x_law1_BitsWays real us) [] [] (Try.f4.body.getD .skip) ⟨zipSl 0 [.w32 x, .rb 1 (.bt b)], [], 64⟩ (retOk real (tt real) false Try.f4.results.toList [.val (.b true)]) := by
  generalize hU : us = U
  generalize hF : real = F
  cbv
  repeat' first | apply And.intro | refine Classical.or_iff_not_imp_left.2 (fun _ => ?_) | exact trivial
  all_goals try (subst hF hU; simp only [real, us, Nat.le_eq, Int.cast_ofNat_Int, decide_eq_false_iff_not, decide_eq_true_eq, Bool.not_eq_true', Bool.not_eq_false', beq_eq_false_iff_ne, beq_iff_eq, ne_eq, Decidable.not_not, List.length_take, List.length_drop, List.length_append, List.length_replicate, List.length_set, List.length_cons, List.length_nil] at *; omega)
  all_goals subst hF hU
  all_goals simp only [real, us, Int.cast_ofNat_Int, List.drop_zero, ofI8_0, beq_iff_eq]
  · simp only [u_putBig, u_putLittle]; rfl
  · exact (big_four b).symm
  · exact (little_four b).symm
  · have hb := big_four b
    have hb : u_big (List.take (Int.toNat 4) (b ++ [0, 0, 0, 0])) = u_big b := hb
    rw [hb]
    have e : ∀ i, i < 4 → (four b).getD i 0 = (b ++ [0, 0, 0, 0]).getD i 0 := by
      intro i hi
      simp only [four, List.getD_eq_getElem?_getD, List.getElem?_take, if_pos hi]
    simp only [u_big, u_little]
    rw [e 0 (by omega), e 1 (by omega), e 2 (by omega), e 3 (by omega)]
    generalize b ++ [0, 0, 0, 0] = l
    rfl
end Go.Proofs.Ytegnmmfjbncgnaa
namespace Go.Proofs.Ytegnmmfjbncgnaa.bitsWays
open Go.ChangeShapes Go.WideShapes Go.ChangeAt Go.RowKit
set_option linter.unusedVariables false
theorem own : ownKnob Try.prog.godebug = none := by kernel_rfl
theorem laidOut : laidOutB Try.prog = true := by kernel_rfl
set_option maxRecDepth 100000 in
theorem lifted (os : Os) (started : os.Started) (H : Type) (enc : TypeId × Value → H) :
    ReturnsInHanded {} Try.checked os 4 .any (Rows.bitsWaysSpec.pre6 enc Try.prog Try.f4 Rows.bitsWaysRow.domain false) (Rows.bitsWaysSpec.post enc Try.prog Try.f4 false true false false) := by
  refine returnsInHanded_of_change (C := Try.checked) own started (by kernel_rfl) Try.func4
    (ChangeSpec.witness6 (enc := enc) (C := Try.checked) false ⟨#[], #[.int .u32 0, .slice none 0 0], []⟩ 8 (by kernel_rfl) (by kernel_rfl) (by kernel_rfl) (by kernel_rfl)) ?_
  intro W base args ds gs before hval0 hW hcnd _
  have hval : ∀ (j : Nat) t v, Try.f4.params[j]? = some t → args[j]? = some v → Value.okWide Try.prog W .any base t v := hval0
  have hW' := hW
  obtain ⟨p, q, hA0, hV, rfl, hfz, hnd⟩ := hW
  have hA : DataW.TrodAll enc Try.prog W 0 (fun _ => true) true Try.f4.params.toList args.toList ds p := hA0
  rw [Try.params4] at hA hval
  obtain ⟨v0, vs0, d0, ds0, p0, q0, hargs, rfl, rfl, h0, r0⟩ := trodAll_cons hA
  obtain ⟨v1, vs1, d1, ds1, p1, q1, rfl, rfl, rfl, h1, r1⟩ := trodAll_cons r0
  obtain ⟨rfl, rfl, rfl⟩ := trodAll_nil r1
  obtain rfl : args = #[v0, v1] := by cases args; simp_all
  obtain ⟨rfl, rfl⟩ := trodVars_none hV
  obtain ⟨x, k0⟩ := Go.Vc.open32 Try.underlying22 (hval 0 22 v0 rfl rfl) h0
  obtain ⟨b, k1, q1⟩ := Go.Vc.openL8 Try.underlying26 Try.underlying5 (by kernel_rfl) (hval 1 26 v1 rfl rfl) h1
  clear hA0 hval0
  refine (Go.Vc.law_walk2 (x := x_law1_BitsWays Go.Vc.real us) (an := []) (cu := []) (l := [.w32 x, .rb 1 (.bt b)]) (vals := [v0, v1]) ⟨tt_ok, ok_law1_BitsWays, Go.Vc.ks_nil⟩ mixed Try.func4 rfl rfl (by kernel_rfl) (Nat.le_of_ble_eq_true rfl) (Go.Vc.rvs_cons k0 (Go.Vc.rvs_cons k1 Go.Vc.rvs_nil)) (c_law1_BitsWays x b q1)).mono fun e W' ⟨he, bel⟩ => ?_
  subst he
  exact ⟨_, rfl, Go.Vc.post_true (tb := 4) laidOut (by kernel_rfl) rfl Try.underlying4 rfl hW' rfl bel⟩
theorem over : Rows.bitsWaysRow.holds Try.pinned (OpenSpec.ofChange Rows.bitsWaysSpec) :=
  OpenClaim.holds_of_wide 4 Try.f4 rfl rfl rfl rfl rfl rfl rfl ⟨rfl, rfl, rfl, rfl, rfl⟩ rfl rfl rfl rfl rfl (by kernel_rfl) Try.func4 (by kernel_rfl)
    (of_decide_eq_true (by kernel_rfl)) (by unfold Func.isWrapper; first | (rw [if_pos (by decide +kernel)]; kernel_rfl) | (rw [if_neg (by decide +kernel)]; exact ⟨rfl, rfl⟩))
    (fun os started H enc _ => lifted os started H enc)
theorem proved : Rows.BitsWaysSaid := over
#print axioms proved
end Go.Proofs.Ytegnmmfjbncgnaa.bitsWays

