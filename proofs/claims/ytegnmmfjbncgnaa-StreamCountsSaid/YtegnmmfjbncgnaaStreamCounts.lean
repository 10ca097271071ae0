/- The given statement is proved: for every input the law's function answers true. No condition. -/
import Derived.Test.YtegnmmfjbncgnaaRows
import Derived.Test.YtegnmmfjbncgnaaPart4
import Derived.WalkKit
import Derived.ProofKit
import Derived.OpenShut
import Derived.ShutString
set_option linter.unusedVariables false
set_option linter.unusedSimpArgs false
set_option maxRecDepth 100000
set_option maxHeartbeats 4000000
namespace Go.Proofs.Ytegnmmfjbncgnaa
open Go Go.Vc
theorem cm_le (m : UInt8) : u_cm m ≤ 4 := by simp only [u_cm]; omega
theorem cm_eq (m : UInt8) : IntKind.i64.wrap (64 * IntKind.i64.wrap (IntKind.i64.wrap (((m % UInt8.ofNat ((4 : Int) % 2 ^ 8).toNat).toNat : Nat) : Int) + 1)) = ((64 * u_cm m : Nat) : Int) := by
  have h : (m % UInt8.ofNat ((4 : Int) % 2 ^ 8).toNat).toNat = m.toNat % 4 := by
    rw [UInt8.toNat_mod]; rfl
  rw [h]
  simp (disch := omega) only [wrap_sm]
  simp only [u_cm]
  omega
theorem cm_eq2 (m : UInt8) : IntKind.i64.wrap (IntKind.i64.wrap (((m % UInt8.ofNat ((4 : Int) % 2 ^ 8).toNat).toNat : Nat) : Int) + 1) = ((u_cm m : Nat) : Int) := by
  have h : (m % UInt8.ofNat ((4 : Int) % 2 ^ 8).toNat).toNat = m.toNat % 4 := by
    rw [UInt8.toNat_mod]; rfl
  rw [h]
  simp (disch := omega) only [wrap_sm]
  simp only [u_cm]
  omega
theorem xor_zeros : ∀ l : List UInt8, List.zipWith (fun a b => a ^^^ b) (List.replicate l.length 0) l = l
  | [] => rfl
  | a :: l => by simp [List.replicate_succ, xor_zeros l]
theorem cnt_cut (k n : List UInt8) (c : UInt32) (m : UInt8) (i : Nat) (h : i < u_cm m) :
    List.take ((IntKind.i64.wrap (IntKind.i64.wrap (64 * (i : Int)) + 64)).toNat - (IntKind.i64.wrap (64 * (i : Int))).toNat) (List.drop (IntKind.i64.wrap (64 * (i : Int))).toNat (u_sx k n c (u_zeros (64 * u_cm m)))) = List.take 64 (List.drop 0 (u_block k n (c + UInt32.ofNat ((i : Int) % 2 ^ 32).toNat))) := by
  have hcm := cm_le m
  simp (disch := omega) only [wrap_sm]
  rw [show (64 * (i : Int) + 64).toNat - (64 * (i : Int)).toNat = 64 by omega, show (64 * (i : Int)).toNat = 64 * i by omega]
  have e3 : ((i : Int) % 2 ^ 32).toNat = i := by omega
  rw [e3]
  have hl : (u_zeros (64 * u_cm m)).length = 64 * u_cm m := by simp [u_zeros]
  rw [← sx_step k n c (u_zeros (64 * u_cm m)) i 64 (by rw [hl]; omega)]
  have e : ((u_zeros (64 * u_cm m)).drop (64 * i)).take 64 = List.replicate (u_block k n (u_cnt c i)).length 0 := by
    rw [block_len, u_zeros, List.drop_replicate, List.take_replicate]
    congr 1; omega
  rw [e, xor_zeros, List.drop_zero]
  rw [List.take_of_length_le (by rw [block_len]; omega)]
  simp only [u_cnt]
end Go.Proofs.Ytegnmmfjbncgnaa
attribute [local irreducible] Go.Proofs.Ytegnmmfjbncgnaa.u_block Go.Proofs.Ytegnmmfjbncgnaa.u_sx Go.Proofs.Ytegnmmfjbncgnaa.u_ks
namespace Go.Proofs.Ytegnmmfjbncgnaa
open Go Go.Vc
noncomputable def sp_law4_StreamCounts (F : Fs) (U : Us) : Specs := [(34, s_law4_known F U), (39, s_stream_Xor F U), (37, s_stream_Block F U)]
theorem ok_law4_StreamCounts : SpecsOK Try.prog (sp_law4_StreamCounts real us) := sp_cons r_law4_known k_law4_known (sp_cons r_stream_Xor k_stream_Xor (sp_cons r_stream_Block k_stream_Block sp_nil))
noncomputable def an_law4_StreamCounts (F : Fs) (U : Us) (k n : List UInt8) (c : UInt32) (m : UInt8) : Anns := [(6, ⟨Nat, fun i => i ≤ U.cm m, fun i => F.subn (U.cm m) i, fun i => ⟨[(2, .w32 c), (4, .p 0 0 0), (5, .p 1 0 0), (9, .i (F.int (U.cm m))), (10, .rw 2), (11, .i (F.int i))], [(4, 0, .bk 51 [(32, .bt k)]), (5, 1, .bk 53 [(12, .bt n)]), (10, 2, .row 5 1 (.bt (U.sx k n c (U.zeros (F.muln 64 (U.cm m))))))]⟩⟩)]
noncomputable def x_law4_StreamCounts (F : Fs) (U : Us) : Cx := ⟨Try.f12.ntmps, tt F, sp_law4_StreamCounts F U, [], [(4, ([(1, [0]), (5, [0, 1])], [])), (9, ([(8, [6, 7]), (9, [6, 7])], []))], [], [11]⟩
theorem c_law4_StreamCounts (k n : List UInt8) (c : UInt32) (m : UInt8) (q0 : k.length = 32) (q1 : n.length = 12) : vc real (x_law4_StreamCounts real us) (an_law4_StreamCounts real us k n c m) [] (Try.f12.body.getD .skip) ⟨zipSl 0 [.ag 32 (.bt k), .ag 12 (.bt n), .w32 c, .w8 m], [], 64⟩ (retOk real (tt real) false Try.f12.results.toList [.val (.b true)]) := by
  generalize hU : us = U
  generalize hF : real = F
  cbv
  repeat' first | apply And.intro | refine Classical.or_iff_not_imp_left.2 (fun _ => ?_) | exact trivial
  all_goals try (subst hF hU; simp only [real, us, Nat.le_eq, Int.cast_ofNat_Int, decide_eq_false_iff_not, decide_eq_true_eq, List.length_take, List.length_drop, List.length_append, List.length_replicate, List.length_set, List.length_cons, List.length_nil, List.length_zipWith] at *; (try simp (disch := omega) only [wrap_sm] at *); omega)
  all_goals try (first | (subst hU; exact q0) | (subst hU; exact q1))
  · subst hF; simp only [real]; decide
  · subst hF hU; simp only [real, us, Nat.le_eq, Int.cast_ofNat_Int, decide_eq_false_iff_not, decide_eq_true_eq] at *; rw [cm_eq]; omega
  · subst hF hU; simp only [real, us, Nat.le_eq, Int.cast_ofNat_Int, decide_eq_false_iff_not, decide_eq_true_eq] at *; rw [cm_eq]; have := cm_le m; omega
  · subst hF hU; simp only [real, us, Nat.le_eq, Int.cast_ofNat_Int, decide_eq_false_iff_not, decide_eq_true_eq] at *; rw [cm_eq]; have := cm_le m; simp only [List.length_replicate]; omega
  · refine ⟨(0 : Nat), ?_⟩
    cbv; subst hF hU; simp only [real, us, Nat.le_eq, Int.cast_ofNat_Int, decide_eq_false_iff_not, decide_eq_true_eq] at *
    rw [cm_eq]
    refine ⟨Nat.zero_le _, ⟨cm_eq2 m, trivial⟩, ?_, trivial⟩
    rw [Int.toNat_natCast]
    rfl
  · intro (i : Nat) hi
    replace hi : i ≤ U.cm m := hi
    have hcm := cm_le m
    have hz : (u_sx k n c (u_zeros (64 * u_cm m))).length = 64 * u_cm m := by rw [sx_len]; simp [u_zeros]
    have hb := block_len k n (c + UInt32.ofNat ((i : Int) % 2 ^ 32).toNat)
    have hs : i < u_cm m → _ := fun h => cnt_cut k n c m i h
    cbv
    repeat' first | apply And.intro | refine Classical.or_iff_not_imp_left.2 (fun _ => ?_) | exact trivial
    all_goals try (subst hF hU; simp only [real, us, Nat.le_eq, Int.cast_ofNat_Int, decide_eq_false_iff_not, decide_eq_true_eq, List.length_take, List.length_drop, List.length_append, List.length_replicate, List.length_set, List.length_cons, List.length_nil, List.length_zipWith] at *; (try simp (disch := omega) only [wrap_sm] at *); omega)
    all_goals try (first | (subst hU; exact q0) | (subst hU; exact q1))
    · subst hF hU
      show 0 + 64 ≤ (u_block k n (c + UInt32.ofNat ((i : Int) % 2 ^ 32).toNat)).length
      rw [hb]
      exact Nat.le_refl 64
    · subst hF hU
      rename_i h1 h2
      simp only [real, us, decide_eq_false_iff_not, Int.cast_ofNat_Int] at h1 h2
      exfalso
      rw [hs (by omega)] at h2
      simp at h2
    · refine ⟨(i + 1 : Nat), ?_⟩
      cbv; subst hF hU; simp only [real, us, Nat.le_eq, Int.cast_ofNat_Int, decide_eq_false_iff_not, decide_eq_true_eq] at *
      exact ⟨by omega, by omega, ⟨wrap_sm (by omega) (by omega), trivial⟩, trivial⟩
    · subst hF hU; simp only [real, us, Nat.le_eq, Int.cast_ofNat_Int, decide_eq_false_iff_not, decide_eq_true_eq] at *
      rw [beq_iff_eq, hz, wrap_sm (by omega) (by omega)]
      omega
end Go.Proofs.Ytegnmmfjbncgnaa
namespace Go.Proofs.Ytegnmmfjbncgnaa.streamCounts
open Go.ChangeShapes Go.WideShapes Go.ChangeAt Go.RowKit
set_option linter.unusedVariables false
theorem own : ownKnob Try.prog.godebug = none := by kernel_rfl
theorem laidOut : laidOutB Try.prog = true := by kernel_rfl
set_option maxRecDepth 100000 in
theorem lifted (os : Os) (started : os.Started) (H : Type) (enc : TypeId × Value → H) :
    ReturnsInHanded {} Try.checked os 12 .any (Rows.streamCountsSpec.pre6 enc Try.prog Try.f12 Rows.streamCountsRow.domain false) (Rows.streamCountsSpec.post enc Try.prog Try.f12 false true false false) := by
  refine returnsInHanded_of_change (C := Try.checked) own started (by kernel_rfl) Try.func12
    (ChangeSpec.witness6 (enc := enc) (C := Try.checked) false ⟨#[], #[.agg #[.int .u8 0, .int .u8 0, .int .u8 0, .int .u8 0, .int .u8 0, .int .u8 0, .int .u8 0, .int .u8 0, .int .u8 0, .int .u8 0, .int .u8 0, .int .u8 0, .int .u8 0, .int .u8 0, .int .u8 0, .int .u8 0, .int .u8 0, .int .u8 0, .int .u8 0, .int .u8 0, .int .u8 0, .int .u8 0, .int .u8 0, .int .u8 0, .int .u8 0, .int .u8 0, .int .u8 0, .int .u8 0, .int .u8 0, .int .u8 0, .int .u8 0, .int .u8 0], .agg #[.int .u8 0, .int .u8 0, .int .u8 0, .int .u8 0, .int .u8 0, .int .u8 0, .int .u8 0, .int .u8 0, .int .u8 0, .int .u8 0, .int .u8 0, .int .u8 0], .int .u32 0, .int .u8 0], []⟩ 8 (by kernel_rfl) (by kernel_rfl) (by kernel_rfl) (by kernel_rfl)) ?_
  intro W base args ds gs before hval0 hW hcnd _
  have hval : ∀ (j : Nat) t v, Try.f12.params[j]? = some t → args[j]? = some v → Value.okWide Try.prog W .any base t v := hval0
  have hW' := hW
  obtain ⟨p, q, hA0, hV, rfl, hfz, hnd⟩ := hW
  have hA : DataW.TrodAll enc Try.prog W 0 (fun _ => true) true Try.f12.params.toList args.toList ds p := hA0
  rw [Try.params12] at hA hval
  obtain ⟨v0, vs0, d0, ds0, p0, q0, hargs, rfl, rfl, h0, r0⟩ := trodAll_cons hA
  obtain ⟨v1, vs1, d1, ds1, p1, q1, rfl, rfl, rfl, h1, r1⟩ := trodAll_cons r0
  obtain ⟨v2, vs2, d2, ds2, p2, q2, rfl, rfl, rfl, h2, r2⟩ := trodAll_cons r1
  obtain ⟨v3, vs3, d3, ds3, p3, q3, rfl, rfl, rfl, h3, r3⟩ := trodAll_cons r2
  obtain ⟨rfl, rfl, rfl⟩ := trodAll_nil r3
  obtain rfl : args = #[v0, v1, v2, v3] := by cases args; simp_all
  obtain ⟨rfl, rfl⟩ := trodVars_none hV
  obtain ⟨k, k0, q0⟩ := Go.Vc.openA8 Try.underlying51 Try.underlying5 (by kernel_rfl) (by kernel_rfl) (hval 0 51 v0 rfl rfl) h0
  obtain ⟨n, k1, q1⟩ := Go.Vc.openA8 Try.underlying53 Try.underlying5 (by kernel_rfl) (by kernel_rfl) (hval 1 53 v1 rfl rfl) h1
  obtain ⟨c, k2⟩ := Go.Vc.open32 Try.underlying22 (hval 2 22 v2 rfl rfl) h2
  obtain ⟨m, k3⟩ := Go.Vc.open8 Try.underlying5 (hval 3 5 v3 rfl rfl) h3
  clear hA0 hval0
  refine (Go.Vc.law_walk2 (x := x_law4_StreamCounts Go.Vc.real us) (an := (an_law4_StreamCounts Go.Vc.real us k n c m)) (cu := []) (l := [.ag 32 (.bt k), .ag 12 (.bt n), .w32 c, .w8 m]) (vals := [v0, v1, v2, v3]) ⟨tt_ok, ok_law4_StreamCounts, Go.Vc.ks_nil⟩ mixed Try.func12 rfl rfl (by kernel_rfl) (Nat.le_of_ble_eq_true rfl) (Go.Vc.rvs_cons k0 (Go.Vc.rvs_cons k1 (Go.Vc.rvs_cons k2 (Go.Vc.rvs_cons k3 Go.Vc.rvs_nil)))) (c_law4_StreamCounts k n c m q0 q1)).mono fun e W' ⟨he, bel⟩ => ?_
  subst he
  exact ⟨_, rfl, Go.Vc.post_true (tb := 4) laidOut (by kernel_rfl) rfl Try.underlying4 rfl hW' rfl bel⟩
theorem over : Rows.streamCountsRow.holds Try.pinned (OpenSpec.ofChange Rows.streamCountsSpec) :=
  OpenClaim.holds_of_wide 12 Try.f12 rfl rfl rfl rfl rfl rfl rfl ⟨rfl, rfl, rfl, rfl, rfl⟩ rfl rfl rfl rfl rfl (by kernel_rfl) Try.func12 (by kernel_rfl)
    (of_decide_eq_true (by kernel_rfl)) (by unfold Func.isWrapper; first | (rw [if_pos (by decide +kernel)]; kernel_rfl) | (rw [if_neg (by decide +kernel)]; exact ⟨rfl, rfl⟩))
    (fun os started H enc _ => lifted os started H enc)
theorem proved : Rows.StreamCountsSaid := over
#print axioms proved
end Go.Proofs.Ytegnmmfjbncgnaa.streamCounts

