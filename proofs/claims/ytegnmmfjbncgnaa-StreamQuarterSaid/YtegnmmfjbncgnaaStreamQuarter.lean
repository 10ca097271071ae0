/- The given statement is proved: for every input the law's function answers true. No condition. -/
import Derived.Test.YtegnmmfjbncgnaaRows
import Derived.Test.YtegnmmfjbncgnaaPart4
import Derived.WalkKit
import Derived.ProofKit
import Derived.OpenShut
import Derived.ShutString
set_option linter.unusedVariables false
set_option linter.unusedSimpArgs false
set_option maxRecDepth 100000
set_option maxHeartbeats 4000000
namespace Go.Proofs.Ytegnmmfjbncgnaa
open Go Go.Vc
theorem rr_get (x : BitVec 32) (k i : Nat) (hk : 0 < k) (hk2 : k < 32) (hi : i < 32) : (x.rotateRight k).getLsbD i = x.getLsbD ((i + k) % 32) := by
  simp only [BitVec.getLsbD_rotateRight, Nat.mod_eq_of_lt hk2]
  by_cases h : i < 32 - k
  · simp only [h, decide_true, cond_true]; congr 1; omega
  · simp only [h, decide_false, cond_false, hi, decide_true, Bool.true_and]; congr 1; omega
theorem rr_rot (x : BitVec 32) (k : Nat) (hk : 0 < k) (hk2 : k < 32) : (x.rotateLeft k).rotateRight k = x := by
  apply BitVec.eq_of_getLsbD_eq
  intro i hi
  rw [rr_get _ _ _ hk hk2 hi, rot_get _ _ _ hk2 (by omega)]
  congr 1; omega
theorem bk_rl (x : UInt32) (k : Nat) (hk : 0 < k) (hk2 : k < 32) (n : UInt64) (hn : n.toNat = k) : u_bk (u_rl x (k : Int)) n = x := by
  simp only [u_bk, u_rl, hn]
  rw [show ((k : Int) % 32).toNat = k by omega, rr_rot _ _ hk hk2]
theorem bk7 (x : UInt32) : u_bk (u_rl x 7) (UInt64.ofNat ((7 : Int) % 2 ^ 64).toNat) = x := bk_rl x 7 (by omega) (by omega) _ (by decide)
theorem bk8 (x : UInt32) : u_bk (u_rl x 8) (UInt64.ofNat ((8 : Int) % 2 ^ 64).toNat) = x := bk_rl x 8 (by omega) (by omega) _ (by decide)
theorem bk12 (x : UInt32) : u_bk (u_rl x 12) (UInt64.ofNat ((12 : Int) % 2 ^ 64).toNat) = x := bk_rl x 12 (by omega) (by omega) _ (by decide)
theorem bk16 (x : UInt32) : u_bk (u_rl x 16) (UInt64.ofNat ((16 : Int) % 2 ^ 64).toNat) = x := bk_rl x 16 (by omega) (by omega) _ (by decide)
theorem xor_can (x y : UInt32) : x ^^^ y ^^^ y = x := by rw [UInt32.xor_assoc, UInt32.xor_self, UInt32.xor_zero]
end Go.Proofs.Ytegnmmfjbncgnaa
namespace Go.Proofs.Ytegnmmfjbncgnaa
open Go Go.Vc
noncomputable def sp_law4_StreamQuarter (F : Fs) (U : Us) : Specs := [(34, s_law4_known F U), (35, s_stream_Quarter F U), (41, s_law4_back F U)]
theorem ok_law4_StreamQuarter : SpecsOK Try.prog (sp_law4_StreamQuarter real us) := sp_cons r_law4_known k_law4_known (sp_cons r_stream_Quarter k_stream_Quarter (sp_cons r_law4_back k_law4_back sp_nil))
noncomputable def x_law4_StreamQuarter (F : Fs) (U : Us) : Cx := ⟨Try.f11.ntmps, tt F, sp_law4_StreamQuarter F U, [], [], [], [12]⟩
theorem c_law4_StreamQuarter (a b c d : UInt32)  : vc real (x_law4_StreamQuarter real us) [] [] (Try.f11.body.getD .skip) ⟨zipSl 0 [.w32 a, .w32 b, .w32 c, .w32 d], [], 64⟩ (retOk real (tt real) false Try.f11.results.toList [.val (.b true)]) := by
  generalize hU : us = U
  generalize hF : real = F
  cbv
  repeat' first | apply And.intro | refine Classical.or_iff_not_imp_left.2 (fun _ => ?_) | exact trivial
  all_goals try (subst hF hU; simp only [real, us, Nat.le_eq, Int.cast_ofNat_Int, decide_eq_false_iff_not, decide_eq_true_eq, List.length_take, List.length_drop, List.length_append, List.length_replicate, List.length_set, List.length_cons, List.length_nil, List.length_zipWith] at *; (try simp (disch := omega) only [wrap_sm] at *); omega)
  all_goals subst hF hU
  all_goals simp only [real, us, Int.cast_ofNat_Int]
  all_goals try decide
  all_goals simp only [u_q, bk7, bk8, bk12, bk16, xor_can, UInt32.add_sub_cancel, beq_self_eq_true]
end Go.Proofs.Ytegnmmfjbncgnaa
namespace Go.Proofs.Ytegnmmfjbncgnaa.streamQuarter
open Go.ChangeShapes Go.WideShapes Go.ChangeAt Go.RowKit
set_option linter.unusedVariables false
theorem own : ownKnob Try.prog.godebug = none := by kernel_rfl
theorem laidOut : laidOutB Try.prog = true := by kernel_rfl
set_option maxRecDepth 100000 in
theorem lifted (os : Os) (started : os.Started) (H : Type) (enc : TypeId × Value → H) :
    ReturnsInHanded {} Try.checked os 11 .any (Rows.streamQuarterSpec.pre6 enc Try.prog Try.f11 Rows.streamQuarterRow.domain false) (Rows.streamQuarterSpec.post enc Try.prog Try.f11 false true false false) := by
  refine returnsInHanded_of_change (C := Try.checked) own started (by kernel_rfl) Try.func11
    (ChangeSpec.witness6 (enc := enc) (C := Try.checked) false ⟨#[], #[.int .u32 0, .int .u32 0, .int .u32 0, .int .u32 0], []⟩ 8 (by kernel_rfl) (by kernel_rfl) (by kernel_rfl) (by kernel_rfl)) ?_
  intro W base args ds gs before hval0 hW hcnd _
  have hval : ∀ (j : Nat) t v, Try.f11.params[j]? = some t → args[j]? = some v → Value.okWide Try.prog W .any base t v := hval0
  have hW' := hW
  obtain ⟨p, q, hA0, hV, rfl, hfz, hnd⟩ := hW
  have hA : DataW.TrodAll enc Try.prog W 0 (fun _ => true) true Try.f11.params.toList args.toList ds p := hA0
  rw [Try.params11] at hA hval
  obtain ⟨v0, vs0, d0, ds0, p0, q0, hargs, rfl, rfl, h0, r0⟩ := trodAll_cons hA
  obtain ⟨v1, vs1, d1, ds1, p1, q1, rfl, rfl, rfl, h1, r1⟩ := trodAll_cons r0
  obtain ⟨v2, vs2, d2, ds2, p2, q2, rfl, rfl, rfl, h2, r2⟩ := trodAll_cons r1
  obtain ⟨v3, vs3, d3, ds3, p3, q3, rfl, rfl, rfl, h3, r3⟩ := trodAll_cons r2
  obtain ⟨rfl, rfl, rfl⟩ := trodAll_nil r3
  obtain rfl : args = #[v0, v1, v2, v3] := by cases args; simp_all
  obtain ⟨rfl, rfl⟩ := trodVars_none hV
  obtain ⟨a, k0⟩ := Go.Vc.open32 Try.underlying22 (hval 0 22 v0 rfl rfl) h0
  obtain ⟨b, k1⟩ := Go.Vc.open32 Try.underlying22 (hval 1 22 v1 rfl rfl) h1
  obtain ⟨c, k2⟩ := Go.Vc.open32 Try.underlying22 (hval 2 22 v2 rfl rfl) h2
  obtain ⟨d, k3⟩ := Go.Vc.open32 Try.underlying22 (hval 3 22 v3 rfl rfl) h3
  clear hA0 hval0
  refine (Go.Vc.law_walk2 (x := x_law4_StreamQuarter Go.Vc.real us) (an := []) (cu := []) (l := [.w32 a, .w32 b, .w32 c, .w32 d]) (vals := [v0, v1, v2, v3]) ⟨tt_ok, ok_law4_StreamQuarter, Go.Vc.ks_nil⟩ mixed Try.func11 rfl rfl (by kernel_rfl) (Nat.le_of_ble_eq_true rfl) (Go.Vc.rvs_cons k0 (Go.Vc.rvs_cons k1 (Go.Vc.rvs_cons k2 (Go.Vc.rvs_cons k3 Go.Vc.rvs_nil)))) (c_law4_StreamQuarter a b c d )).mono fun e W' ⟨he, bel⟩ => ?_
  subst he
  exact ⟨_, rfl, Go.Vc.post_true (tb := 4) laidOut (by kernel_rfl) rfl Try.underlying4 rfl hW' rfl bel⟩
theorem over : Rows.streamQuarterRow.holds Try.pinned (OpenSpec.ofChange Rows.streamQuarterSpec) :=
  OpenClaim.holds_of_wide 11 Try.f11 rfl rfl rfl rfl rfl rfl rfl ⟨rfl, rfl, rfl, rfl, rfl⟩ rfl rfl rfl rfl rfl (by kernel_rfl) Try.func11 (by kernel_rfl)
    (of_decide_eq_true (by kernel_rfl)) (by unfold Func.isWrapper; first | (rw [if_pos (by decide +kernel)]; kernel_rfl) | (rw [if_neg (by decide +kernel)]; exact ⟨rfl, rfl⟩))
    (fun os started H enc _ => lifted os started H enc)
theorem proved : Rows.StreamQuarterSaid := over
#print axioms proved
end Go.Proofs.Ytegnmmfjbncgnaa.streamQuarter

