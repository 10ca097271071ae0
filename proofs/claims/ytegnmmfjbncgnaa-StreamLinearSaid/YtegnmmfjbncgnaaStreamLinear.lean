/- The given statement is proved: for every input the law's function answers true. No condition. -/
import Derived.Test.YtegnmmfjbncgnaaRows
import Derived.Test.YtegnmmfjbncgnaaPart4
import Derived.WalkKit
import Derived.ProofKit
import Derived.OpenShut
import Derived.ShutString
set_option linter.unusedVariables false
set_option linter.unusedSimpArgs false
set_option maxRecDepth 100000
set_option maxHeartbeats 4000000
namespace Go.Proofs.Ytegnmmfjbncgnaa
open Go Go.Vc
theorem ks_get (k n : List UInt8) (c : UInt32) (m i : Nat) (h : i < m) : (u_ks k n c m).getD i 0 = (u_block k n (c + UInt32.ofNat (i / 64))).getD (i % 64) 0 := by
  simp only [u_ks, List.getD_eq_getElem?_getD, List.getElem?_map, List.getElem?_range h, Option.map_some, Option.getD_some]
theorem sx_get (k n : List UInt8) (c : UInt32) (a : List UInt8) (i : Nat) (h : i < a.length) : (u_sx k n c a).getD i 0 = a.getD i 0 ^^^ (u_block k n (c + UInt32.ofNat (i / 64))).getD (i % 64) 0 := by
  rw [← ks_get k n c a.length i h]
  exact zipWith_getD _ _ _ i 0 0 0 h (by rw [ks_len]; exact h)
theorem sx_lin (k n : List UInt8) (c : UInt32) (a b : List UInt8) (i : Nat) (h1 : i < a.length) (h2 : i < b.length) : ((u_sx k n c a).getD i 0 ^^^ (u_sx k n c b).getD i 0) = (a.getD i 0 ^^^ b.getD i 0) := by
  rw [sx_get k n c a i h1, sx_get k n c b i h2]
  generalize (u_block k n (c + UInt32.ofNat (i / 64))).getD (i % 64) 0 = z
  generalize a.getD i 0 = x
  generalize b.getD i 0 = y
  rw [UInt8.xor_assoc, UInt8.xor_comm z, UInt8.xor_assoc, UInt8.xor_self, UInt8.xor_zero]
end Go.Proofs.Ytegnmmfjbncgnaa
namespace Go.Proofs.Ytegnmmfjbncgnaa
open Go Go.Vc
noncomputable def sp_law4_StreamLinear (F : Fs) (U : Us) : Specs := [(34, s_law4_known F U), (39, s_stream_Xor F U)]
theorem ok_law4_StreamLinear : SpecsOK Try.prog (sp_law4_StreamLinear real us) := sp_cons r_law4_known k_law4_known (sp_cons r_stream_Xor k_stream_Xor sp_nil)
noncomputable def an_law4_StreamLinear (F : Fs) (U : Us) (k n : List UInt8) (c : UInt32) (a b : List UInt8) : Anns := [(7, ⟨Nat, fun i => i ≤ U.mn a b, fun i => F.subn (U.mn a b) i, fun i => ⟨[(3, .rb 1 (.bt a)), (4, .rb 1 (.bt b)), (11, .rw 0), (12, .rw 1), (13, .i (F.int i))], [(11, 0, .row 5 1 (.bt (U.sx k n c a))), (12, 1, .row 5 1 (.bt (U.sx k n c b)))]⟩⟩)]
noncomputable def x_law4_StreamLinear (F : Fs) (U : Us) : Cx := ⟨Try.f13.ntmps, tt F, sp_law4_StreamLinear F U, [], [(5, ([(1, [0]), (5, [0, 1, 4]), (6, [0, 1, 4, 5])], [])), (9, ([(6, [2, 3]), (7, [2, 3]), (11, [2, 3, 6, 7]), (12, [2, 3, 6, 7]), (15, [2, 3, 6, 7, 11, 12]), (16, [2, 3, 6, 7, 11, 12])], []))], [], [11]⟩
theorem c_law4_StreamLinear (k n : List UInt8) (c : UInt32) (a b : List UInt8) (q0 : k.length = 32) (q1 : n.length = 12) (q3 : a.length ≤ 9223372036854775807) (q4 : b.length ≤ 9223372036854775807) : vc real (x_law4_StreamLinear real us) (an_law4_StreamLinear real us k n c a b) [] (Try.f13.body.getD .skip) ⟨zipSl 0 [.ag 32 (.bt k), .ag 12 (.bt n), .w32 c, .rb 1 (.bt a), .rb 1 (.bt b)], [], 64⟩ (retOk real (tt real) false Try.f13.results.toList [.val (.b true)]) := by
  have la := sx_len k n c a
  have lb := sx_len k n c b
  generalize hU : us = U
  generalize hF : real = F
  cbv
  repeat' first | apply And.intro | refine Classical.or_iff_not_imp_left.2 (fun _ => ?_) | exact trivial
  all_goals try (subst hF hU; simp only [real, us, Nat.le_eq, Int.cast_ofNat_Int, decide_eq_false_iff_not, decide_eq_true_eq, List.length_take, List.length_drop, List.length_append, List.length_replicate, List.length_set, List.length_cons, List.length_nil, List.length_zipWith] at *; (try simp (disch := omega) only [wrap_sm] at *); omega)
  all_goals try (first | (subst hU; exact q0) | (subst hU; exact q1))
  · refine ⟨(0 : Nat), ?_⟩
    cbv; subst hF hU; simp only [real, us, Nat.le_eq, Int.cast_ofNat_Int, decide_eq_false_iff_not, decide_eq_true_eq] at *
    exact ⟨Nat.zero_le _, trivial⟩
  · intro (i : Nat) hi
    replace hi : i ≤ U.mn a b := hi
    have hx : i < a.length → i < b.length → ((u_sx k n c a).getD i 0 ^^^ (u_sx k n c b).getD i 0) = (a.getD i 0 ^^^ b.getD i 0) := fun h1 h2 => sx_lin k n c a b i h1 h2
    cbv
    repeat' first | apply And.intro | refine Classical.or_iff_not_imp_left.2 (fun _ => ?_) | exact trivial
    all_goals try (subst hF hU; simp only [real, us, Nat.le_eq, Int.cast_ofNat_Int, decide_eq_false_iff_not, decide_eq_true_eq, List.length_take, List.length_drop, List.length_append, List.length_replicate, List.length_set, List.length_cons, List.length_nil, List.length_zipWith] at *; (try simp (disch := omega) only [wrap_sm] at *); omega)
    · subst hF hU
      rename_i h1 h2 h3
      simp only [real, us, decide_eq_false_iff_not, Int.cast_ofNat_Int] at h1 h2 h3
      exfalso
      replace h3 : ¬(!((u_sx k n c a).getD i 0 ^^^ (u_sx k n c b).getD i 0 == a.getD i 0 ^^^ b.getD i 0)) = false := h3
      rw [hx (by omega) (by omega)] at h3
      simp at h3
    · refine ⟨(i + 1 : Nat), ?_⟩
      cbv; subst hF hU; simp only [real, us, Nat.le_eq, Int.cast_ofNat_Int, decide_eq_false_iff_not, decide_eq_true_eq] at *
      exact ⟨by omega, by omega, ⟨wrap_sm (by omega) (by omega), trivial⟩, trivial⟩
    all_goals (subst hF hU; simp only [real, us, la, lb, beq_self_eq_true])
end Go.Proofs.Ytegnmmfjbncgnaa
namespace Go.Proofs.Ytegnmmfjbncgnaa.streamLinear
open Go.ChangeShapes Go.WideShapes Go.ChangeAt Go.RowKit
set_option linter.unusedVariables false
theorem own : ownKnob Try.prog.godebug = none := by kernel_rfl
theorem laidOut : laidOutB Try.prog = true := by kernel_rfl
set_option maxRecDepth 100000 in
theorem lifted (os : Os) (started : os.Started) (H : Type) (enc : TypeId × Value → H) :
    ReturnsInHanded {} Try.checked os 13 .any (Rows.streamLinearSpec.pre6 enc Try.prog Try.f13 Rows.streamLinearRow.domain false) (Rows.streamLinearSpec.post enc Try.prog Try.f13 false true false false) := by
  refine returnsInHanded_of_change (C := Try.checked) own started (by kernel_rfl) Try.func13
    (ChangeSpec.witness6 (enc := enc) (C := Try.checked) false ⟨#[], #[.agg #[.int .u8 0, .int .u8 0, .int .u8 0, .int .u8 0, .int .u8 0, .int .u8 0, .int .u8 0, .int .u8 0, .int .u8 0, .int .u8 0, .int .u8 0, .int .u8 0, .int .u8 0, .int .u8 0, .int .u8 0, .int .u8 0, .int .u8 0, .int .u8 0, .int .u8 0, .int .u8 0, .int .u8 0, .int .u8 0, .int .u8 0, .int .u8 0, .int .u8 0, .int .u8 0, .int .u8 0, .int .u8 0, .int .u8 0, .int .u8 0, .int .u8 0, .int .u8 0], .agg #[.int .u8 0, .int .u8 0, .int .u8 0, .int .u8 0, .int .u8 0, .int .u8 0, .int .u8 0, .int .u8 0, .int .u8 0, .int .u8 0, .int .u8 0, .int .u8 0], .int .u32 0, .slice none 0 0, .slice none 0 0], []⟩ 8 (by kernel_rfl) (by kernel_rfl) (by kernel_rfl) (by kernel_rfl)) ?_
  intro W base args ds gs before hval0 hW hcnd _
  have hval : ∀ (j : Nat) t v, Try.f13.params[j]? = some t → args[j]? = some v → Value.okWide Try.prog W .any base t v := hval0
  have hW' := hW
  obtain ⟨p, q, hA0, hV, rfl, hfz, hnd⟩ := hW
  have hA : DataW.TrodAll enc Try.prog W 0 (fun _ => true) true Try.f13.params.toList args.toList ds p := hA0
  rw [Try.params13] at hA hval
  obtain ⟨v0, vs0, d0, ds0, p0, q0, hargs, rfl, rfl, h0, r0⟩ := trodAll_cons hA
  obtain ⟨v1, vs1, d1, ds1, p1, q1, rfl, rfl, rfl, h1, r1⟩ := trodAll_cons r0
  obtain ⟨v2, vs2, d2, ds2, p2, q2, rfl, rfl, rfl, h2, r2⟩ := trodAll_cons r1
  obtain ⟨v3, vs3, d3, ds3, p3, q3, rfl, rfl, rfl, h3, r3⟩ := trodAll_cons r2
  obtain ⟨v4, vs4, d4, ds4, p4, q4, rfl, rfl, rfl, h4, r4⟩ := trodAll_cons r3
  obtain ⟨rfl, rfl, rfl⟩ := trodAll_nil r4
  obtain rfl : args = #[v0, v1, v2, v3, v4] := by cases args; simp_all
  obtain ⟨rfl, rfl⟩ := trodVars_none hV
  obtain ⟨k, k0, q0⟩ := Go.Vc.openA8 Try.underlying51 Try.underlying5 (by kernel_rfl) (by kernel_rfl) (hval 0 51 v0 rfl rfl) h0
  obtain ⟨n, k1, q1⟩ := Go.Vc.openA8 Try.underlying53 Try.underlying5 (by kernel_rfl) (by kernel_rfl) (hval 1 53 v1 rfl rfl) h1
  obtain ⟨c, k2⟩ := Go.Vc.open32 Try.underlying22 (hval 2 22 v2 rfl rfl) h2
  obtain ⟨a, k3, q3⟩ := Go.Vc.openL8 Try.underlying26 Try.underlying5 (by kernel_rfl) (hval 3 26 v3 rfl rfl) h3
  obtain ⟨b, k4, q4⟩ := Go.Vc.openL8 Try.underlying26 Try.underlying5 (by kernel_rfl) (hval 4 26 v4 rfl rfl) h4
  clear hA0 hval0
  refine (Go.Vc.law_walk2 (x := x_law4_StreamLinear Go.Vc.real us) (an := (an_law4_StreamLinear Go.Vc.real us k n c a b)) (cu := []) (l := [.ag 32 (.bt k), .ag 12 (.bt n), .w32 c, .rb 1 (.bt a), .rb 1 (.bt b)]) (vals := [v0, v1, v2, v3, v4]) ⟨tt_ok, ok_law4_StreamLinear, Go.Vc.ks_nil⟩ mixed Try.func13 rfl rfl (by kernel_rfl) (Nat.le_of_ble_eq_true rfl) (Go.Vc.rvs_cons k0 (Go.Vc.rvs_cons k1 (Go.Vc.rvs_cons k2 (Go.Vc.rvs_cons k3 (Go.Vc.rvs_cons k4 Go.Vc.rvs_nil))))) (c_law4_StreamLinear k n c a b q0 q1 q3 q4)).mono fun e W' ⟨he, bel⟩ => ?_
  subst he
  exact ⟨_, rfl, Go.Vc.post_true (tb := 4) laidOut (by kernel_rfl) rfl Try.underlying4 rfl hW' rfl bel⟩
theorem over : Rows.streamLinearRow.holds Try.pinned (OpenSpec.ofChange Rows.streamLinearSpec) :=
  OpenClaim.holds_of_wide 13 Try.f13 rfl rfl rfl rfl rfl rfl rfl ⟨rfl, rfl, rfl, rfl, rfl⟩ rfl rfl rfl rfl rfl (by kernel_rfl) Try.func13 (by kernel_rfl)
    (of_decide_eq_true (by kernel_rfl)) (by unfold Func.isWrapper; first | (rw [if_pos (by decide +kernel)]; kernel_rfl) | (rw [if_neg (by decide +kernel)]; exact ⟨rfl, rfl⟩))
    (fun os started H enc _ => lifted os started H enc)
theorem proved : Rows.StreamLinearSaid := over
#print axioms proved
end Go.Proofs.Ytegnmmfjbncgnaa.streamLinear

