/- The given statement is proved: for every input the law's function answers true. No condition. -/
import Derived.Test.YtmldccfchnlpgaaRows
import Derived.Test.YtmldccfchnlpgaaPart5
import Derived.WalkKit
import Derived.ProofKit
import Derived.OpenShut
import Derived.ShutString
set_option linter.unusedVariables false
set_option linter.unusedSimpArgs false
set_option maxRecDepth 100000
set_option maxHeartbeats 1000000
namespace Go.Proofs.Ytmldccfchnlpgaa
attribute [local irreducible] u_outP u_r4P u_nwP u_o4 u_kwP u_rndP u_block u_sx
end Go.Proofs.Ytmldccfchnlpgaa
namespace Go.Proofs.Ytmldccfchnlpgaa
open Go Go.Vc
noncomputable def sp_law4_StreamTells (F : Fs) (U : Us) : Specs := [(32, s_law4_known F U), (33, s_stream_Quarter F U), (34, s_ref4_Quarter F U), (35, s_stream_Block F U), (36, s_ref4_Block F U), (37, s_stream_Xor F U), (38, s_ref4_Xor F U)]
theorem ok_law4_StreamTells : SpecsOK Try.prog (sp_law4_StreamTells real us) := sp_cons r_law4_known k_law4_known (sp_cons r_stream_Quarter k_stream_Quarter (sp_cons r_ref4_Quarter k_ref4_Quarter (sp_cons r_stream_Block k_stream_Block (sp_cons r_ref4_Block k_ref4_Block (sp_cons r_stream_Xor k_stream_Xor (sp_cons r_ref4_Xor k_ref4_Xor sp_nil))))))
noncomputable def x_law4_StreamTells (F : Fs) (U : Us) : Cx := ⟨Try.f3.ntmps, tt F, sp_law4_StreamTells F U, [], [(7, ([(20, [19]), (23, [19, 20, 22]), (24, [19, 20, 22, 23]), (31, [30]), (36, [30, 31, 34, 35]), (37, [30, 31, 34, 35, 36]), (40, [35]), (41, [35])], []))], [], [4]⟩
theorem c_law4_StreamTells (a b c d : UInt32) (k n : List UInt8) (e : UInt32) (m : List UInt8) (q4 : k.length = 32) (q5 : n.length = 12) (q7 : m.length ≤ 9223372036854775807) : vc real (x_law4_StreamTells real us) [] [] (Try.f3.body.getD .skip) ⟨zipSl 0 [.w32 a, .w32 b, .w32 c, .w32 d, .ag 32 (.bt k), .ag 12 (.bt n), .w32 e, .rb 1 (.bt m)], [], 64⟩ (retOk real (tt real) false Try.f3.results.toList [.val (.b true)]) := by
  generalize hU : us = U
  generalize hF : real = F
  cbv
  repeat' first | apply And.intro | refine Classical.or_iff_not_imp_left.2 (fun _ => ?_) | exact trivial
  all_goals try (subst hF hU; simp only [real, us, Nat.le_eq, Int.cast_ofNat_Int, decide_eq_false_iff_not, decide_eq_true_eq, Bool.not_eq_true', Bool.not_eq_false', beq_eq_false_iff_ne, beq_iff_eq, ne_eq, Decidable.not_not, List.length_take, List.length_drop, List.length_append, List.length_replicate, List.length_set, List.length_cons, List.length_nil] at *; omega)
  all_goals try (first | (subst hU; exact q4) | (subst hU; exact q5))
  all_goals subst hF hU
  all_goals first | (simp [real]; done) | (exfalso; rename_i hh; exact hh (by simp [real]))
end Go.Proofs.Ytmldccfchnlpgaa
namespace Go.Proofs.Ytmldccfchnlpgaa.streamTells
open Go.ChangeShapes Go.WideShapes Go.ChangeAt Go.RowKit
set_option linter.unusedVariables false
theorem own : ownKnob Try.prog.godebug = none := by kernel_rfl
theorem laidOut : laidOutB Try.prog = true := p_laidOut
set_option maxRecDepth 100000 in
theorem lifted (os : Os) (started : os.Started) (H : Type) (enc : TypeId × Value → H) :
    ReturnsInHanded {} Try.checked os 3 .any (Rows.streamTellsSpec.pre6 enc Try.prog Try.f3 Rows.streamTellsRow.domain false) (Rows.streamTellsSpec.post enc Try.prog Try.f3 false true false false) := by
  refine returnsInHanded_of_change (C := Try.checked) own started (by kernel_rfl) Try.func3
    (ChangeSpec.witness6 (enc := enc) (C := Try.checked) false ⟨#[], #[.int .u32 0, .int .u32 0, .int .u32 0, .int .u32 0, .agg #[.int .u8 0, .int .u8 0, .int .u8 0, .int .u8 0, .int .u8 0, .int .u8 0, .int .u8 0, .int .u8 0, .int .u8 0, .int .u8 0, .int .u8 0, .int .u8 0, .int .u8 0, .int .u8 0, .int .u8 0, .int .u8 0, .int .u8 0, .int .u8 0, .int .u8 0, .int .u8 0, .int .u8 0, .int .u8 0, .int .u8 0, .int .u8 0, .int .u8 0, .int .u8 0, .int .u8 0, .int .u8 0, .int .u8 0, .int .u8 0, .int .u8 0, .int .u8 0], .agg #[.int .u8 0, .int .u8 0, .int .u8 0, .int .u8 0, .int .u8 0, .int .u8 0, .int .u8 0, .int .u8 0, .int .u8 0, .int .u8 0, .int .u8 0, .int .u8 0], .int .u32 0, .slice none 0 0], []⟩ 8 (by kernel_rfl) (by kernel_rfl) (by kernel_rfl) (by kernel_rfl)) ?_
  intro W base args ds gs before hval0 hW hcnd _
  have hval : ∀ (j : Nat) t v, Try.f3.params[j]? = some t → args[j]? = some v → Value.okWide Try.prog W .any base t v := hval0
  have hW' := hW
  obtain ⟨p, q, hA0, hV, rfl, hfz, hnd⟩ := hW
  have hA : DataW.TrodAll enc Try.prog W 0 (fun _ => true) true Try.f3.params.toList args.toList ds p := hA0
  rw [Try.params3] at hA hval
  obtain ⟨v0, vs0, d0, ds0, p0, q0, hargs, rfl, rfl, h0, r0⟩ := trodAll_cons hA
  obtain ⟨v1, vs1, d1, ds1, p1, q1, rfl, rfl, rfl, h1, r1⟩ := trodAll_cons r0
  obtain ⟨v2, vs2, d2, ds2, p2, q2, rfl, rfl, rfl, h2, r2⟩ := trodAll_cons r1
  obtain ⟨v3, vs3, d3, ds3, p3, q3, rfl, rfl, rfl, h3, r3⟩ := trodAll_cons r2
  obtain ⟨v4, vs4, d4, ds4, p4, q4, rfl, rfl, rfl, h4, r4⟩ := trodAll_cons r3
  obtain ⟨v5, vs5, d5, ds5, p5, q5, rfl, rfl, rfl, h5, r5⟩ := trodAll_cons r4
  obtain ⟨v6, vs6, d6, ds6, p6, q6, rfl, rfl, rfl, h6, r6⟩ := trodAll_cons r5
  obtain ⟨v7, vs7, d7, ds7, p7, q7, rfl, rfl, rfl, h7, r7⟩ := trodAll_cons r6
  obtain ⟨rfl, rfl, rfl⟩ := trodAll_nil r7
  obtain rfl : args = #[v0, v1, v2, v3, v4, v5, v6, v7] := by cases args; simp_all
  obtain ⟨rfl, rfl⟩ := trodVars_none hV
  obtain ⟨a, k0⟩ := Go.Vc.open32 Try.underlying22 (hval 0 22 v0 rfl rfl) h0
  obtain ⟨b, k1⟩ := Go.Vc.open32 Try.underlying22 (hval 1 22 v1 rfl rfl) h1
  obtain ⟨c, k2⟩ := Go.Vc.open32 Try.underlying22 (hval 2 22 v2 rfl rfl) h2
  obtain ⟨d, k3⟩ := Go.Vc.open32 Try.underlying22 (hval 3 22 v3 rfl rfl) h3
  obtain ⟨k, k4, q4⟩ := Go.Vc.openA8 Try.underlying24 Try.underlying5 (by kernel_rfl) (by kernel_rfl) (hval 4 24 v4 rfl rfl) h4
  obtain ⟨n, k5, q5⟩ := Go.Vc.openA8 Try.underlying26 Try.underlying5 (by kernel_rfl) (by kernel_rfl) (hval 5 26 v5 rfl rfl) h5
  obtain ⟨e, k6⟩ := Go.Vc.open32 Try.underlying22 (hval 6 22 v6 rfl rfl) h6
  obtain ⟨m, k7, q7⟩ := Go.Vc.openL8 Try.underlying27 Try.underlying5 (by kernel_rfl) (hval 7 27 v7 rfl rfl) h7
  clear hA0 hval0
  refine (Go.Vc.law_walk2 (x := x_law4_StreamTells Go.Vc.real us) (an := []) (cu := []) (l := [.w32 a, .w32 b, .w32 c, .w32 d, .ag 32 (.bt k), .ag 12 (.bt n), .w32 e, .rb 1 (.bt m)]) (vals := [v0, v1, v2, v3, v4, v5, v6, v7]) ⟨tt_ok, ok_law4_StreamTells, Go.Vc.ks_nil⟩ mixed Try.func3 rfl rfl (by kernel_rfl) (Nat.le_of_ble_eq_true rfl) (Go.Vc.rvs_cons k0 (Go.Vc.rvs_cons k1 (Go.Vc.rvs_cons k2 (Go.Vc.rvs_cons k3 (Go.Vc.rvs_cons k4 (Go.Vc.rvs_cons k5 (Go.Vc.rvs_cons k6 (Go.Vc.rvs_cons k7 Go.Vc.rvs_nil)))))))) (c_law4_StreamTells a b c d k n e m q4 q5 q7)).mono fun e W' ⟨he, bel⟩ => ?_
  subst he
  exact ⟨_, rfl, Go.Vc.post_true (tb := 4) laidOut (by kernel_rfl) rfl Try.underlying4 rfl hW' rfl bel⟩
theorem over : Rows.streamTellsRow.holds Try.pinned (OpenSpec.ofChange Rows.streamTellsSpec) :=
  OpenClaim.holds_of_wide 3 Try.f3 rfl rfl rfl rfl rfl rfl rfl ⟨rfl, rfl, rfl, rfl, rfl⟩ rfl rfl rfl rfl rfl (by kernel_rfl) Try.func3 (Go.Vc.joined_of p_laidOut p_maps p_stops p_knobs p_heard p_mayEnter p_lifts p_make rfl rfl (by kernel_rfl) (by kernel_rfl) (by kernel_rfl) (by kernel_rfl) (by kernel_rfl) (by kernel_rfl) (by kernel_rfl) (by kernel_rfl) (by kernel_rfl) (by kernel_rfl) (by kernel_rfl) (by kernel_rfl) (by kernel_rfl) (by kernel_rfl) (by kernel_rfl) (by kernel_rfl) (by kernel_rfl) (by kernel_rfl) (by kernel_rfl) (by kernel_rfl) (by kernel_rfl) (by kernel_rfl) (by kernel_rfl) (by kernel_rfl) )
    (of_decide_eq_true (by kernel_rfl)) (by unfold Func.isWrapper; first | (rw [if_pos (by decide +kernel)]; kernel_rfl) | (rw [if_neg (by decide +kernel)]; exact ⟨rfl, rfl⟩))
    (fun os started H enc _ => lifted os started H enc)
theorem proved : Rows.StreamTellsSaid := over
#print axioms proved
end Go.Proofs.Ytmldccfchnlpgaa.streamTells

