/- The given statement is proved: for every input the law's function answers true. No condition. -/
import Derived.Test.YtegnmmfjbncgnaaRows
import Derived.Test.YtegnmmfjbncgnaaPart4
import Derived.WalkKit
import Derived.ProofKit
import Derived.OpenShut
import Derived.ShutString
set_option linter.unusedVariables false
set_option linter.unusedSimpArgs false
set_option maxRecDepth 100000
set_option maxHeartbeats 4000000
namespace Go.Proofs.Ytegnmmfjbncgnaa
open Go Go.Vc
theorem sx_twice (k n : List UInt8) (c : UInt32) (m : List UInt8) : u_sx k n c (u_sx k n c m) = m := by
  have h := sx_len k n c m
  have e : u_sx k n c (u_sx k n c m) = List.zipWith (· ^^^ ·) (u_sx k n c m) (u_ks k n c m.length) := by
    show List.zipWith _ _ (u_ks k n c (u_sx k n c m).length) = _
    rw [h]
  rw [e]
  show List.zipWith (· ^^^ ·) (List.zipWith (· ^^^ ·) m (u_ks k n c m.length)) (u_ks k n c m.length) = m
  rw [xor_twice, ks_len]
  simp
theorem at_eq (a : UInt8) : IntKind.i64.wrap (64 * IntKind.i64.wrap (((a % UInt8.ofNat ((6 : Int) % 2 ^ 8).toNat).toNat : Nat) : Int)) = ((64 * (a.toNat % 6) : Nat) : Int) := by
  have h : (a % UInt8.ofNat ((6 : Int) % 2 ^ 8).toNat).toNat = a.toNat % 6 := by
    rw [UInt8.toNat_mod]; rfl
  rw [h]
  simp (disch := omega) only [wrap_sm]
  omega
end Go.Proofs.Ytegnmmfjbncgnaa
attribute [local irreducible] Go.Proofs.Ytegnmmfjbncgnaa.u_block Go.Proofs.Ytegnmmfjbncgnaa.u_sx Go.Proofs.Ytegnmmfjbncgnaa.u_ks
namespace Go.Proofs.Ytegnmmfjbncgnaa
open Go Go.Vc
theorem ks_app (k n : List UInt8) (c : UInt32) (j r : Nat) : u_ks k n c (64 * j + r) = u_ks k n c (64 * j) ++ u_ks k n (c + UInt32.ofNat j) r := by
  simp only [u_ks, List.range_add, List.map_append, List.map_map]
  congr 1
  apply List.map_congr_left
  intro x _
  simp only [Function.comp]
  rw [show (64 * j + x) / 64 = j + x / 64 by omega, show (64 * j + x) % 64 = x % 64 by omega, UInt32.ofNat_add, UInt32.add_assoc]
theorem sx_app (k n : List UInt8) (c : UInt32) (m : List UInt8) (j : Nat) (h : 64 * j ≤ m.length) : u_sx k n c (m.take (64 * j)) ++ u_sx k n (c + UInt32.ofNat j) (m.drop (64 * j)) = u_sx k n c m := by
  have h1 : (m.take (64 * j)).length = 64 * j := by simp; omega
  have h2 : (m.drop (64 * j)).length = m.length - 64 * j := by simp
  have e : u_ks k n c m.length = u_ks k n c (64 * j) ++ u_ks k n (c + UInt32.ofNat j) (m.length - 64 * j) := by
    rw [← ks_app]; congr 1; omega
  unfold u_sx
  rw [h1, h2, e]
  conv => rhs; rw [← List.take_append_drop (64 * j) m]
  rw [List.zipWith_append (by rw [h1, ks_len]), List.take_append_drop]
theorem xor_zeros : ∀ l : List UInt8, List.zipWith (fun a b => a ^^^ b) (List.replicate l.length 0) l = l
  | [] => rfl
  | a :: l => by simp [List.replicate_succ, xor_zeros l]
theorem zero_block (k n : List UInt8) (c : UInt32) : u_sx k n c (List.replicate 64 0) = List.take 64 (List.drop 0 (u_block k n c)) := by
  have h := sx_step k n c (List.replicate 64 0) 0 64 (by simp)
  have hl : (u_sx k n c (List.replicate 64 0)).length = 64 := by rw [sx_len]; simp
  rw [Nat.mul_zero, List.drop_zero, List.drop_zero, List.take_of_length_le (show (u_sx k n c (List.replicate 64 0)).length ≤ 64 by omega), ← cnt_zero] at h
  rw [← h, List.drop_zero, List.take_of_length_le (show (u_block k n c).length ≤ 64 by rw [block_len]; omega)]
  have e : (List.replicate 64 (0 : UInt8)).take 64 = List.replicate (u_block k n c).length 0 := by
    rw [block_len]; rfl
  rw [e, xor_zeros]
theorem at_eq2 (a : UInt8) : UInt32.ofNat ((IntKind.i64.wrap (((a % UInt8.ofNat ((6 : Int) % 2 ^ 8).toNat).toNat : Nat) : Int)) % 2 ^ 32).toNat = UInt32.ofNat (a.toNat % 6) := by
  have h : (a % UInt8.ofNat ((6 : Int) % 2 ^ 8).toNat).toNat = a.toNat % 6 := by
    rw [UInt8.toNat_mod]; rfl
  rw [h]
  simp (disch := omega) only [wrap_sm]
  congr 1
  omega
end Go.Proofs.Ytegnmmfjbncgnaa
namespace Go.Proofs.Ytegnmmfjbncgnaa
open Go Go.Vc
noncomputable def sp_law4_StreamTwice (F : Fs) (U : Us) : Specs := [(34, s_law4_known F U), (39, s_stream_Xor F U), (37, s_stream_Block F U)]
theorem ok_law4_StreamTwice : SpecsOK Try.prog (sp_law4_StreamTwice real us) := sp_cons r_law4_known k_law4_known (sp_cons r_stream_Xor k_stream_Xor (sp_cons r_stream_Block k_stream_Block sp_nil))
noncomputable def x_law4_StreamTwice (F : Fs) (U : Us) : Cx := ⟨Try.f10.ntmps, tt F, sp_law4_StreamTwice F U, [], [(6, ([(3, [1]), (7, [6]), (13, [6, 7, 10, 11])], [])), (10, ([(1, [0]), (5, [0, 1]), (7, [0, 1, 5, 6]), (8, [0, 1, 5, 6, 7]), (11, [0, 1, 5, 6, 7, 8]), (15, [0, 1, 5, 6, 7, 8, 11])], [])), (11, ([(1, [0]), (3, [0, 1])], [])), (13, ([(8, [6]), (11, [6, 8]), (17, [16]), (18, [16])], []))], [], []⟩
theorem c_law4_StreamTwice (k n : List UInt8) (c : UInt32) (m : List UInt8) (at_ : UInt8) (q0 : k.length = 32) (q1 : n.length = 12) (q3 : m.length ≤ 9223372036854775807) : vc real (x_law4_StreamTwice real us) [] [] (Try.f10.body.getD .skip) ⟨zipSl 0 [.ag 32 (.bt k), .ag 12 (.bt n), .w32 c, .rb 1 (.bt m), .w8 at_], [], 64⟩ (retOk real (tt real) false Try.f10.results.toList [.val (.b true)]) := by
  have tw := sx_twice k n c m
  have l1 := sx_len k n c m
  have l2 := sx_len k n c (u_sx k n c m)
  generalize hU : us = U
  generalize hF : real = F
  cbv
  repeat' first | apply And.intro | refine Classical.or_iff_not_imp_left.2 (fun _ => ?_) | exact trivial
  all_goals try (subst hF hU; simp only [real, us, Nat.le_eq, Int.cast_ofNat_Int, decide_eq_false_iff_not, decide_eq_true_eq, List.length_take, List.length_drop, List.length_append, List.length_replicate, List.length_set, List.length_cons, List.length_nil, List.length_zipWith] at *; (try simp (disch := omega) only [wrap_sm] at *); omega)
  · subst hU; exact q0
  · subst hU; exact q1
  · subst hU; exact q0
  · subst hU; exact q1
  · subst hF hU
    rename_i h1 h2 h3
    simp only [real, us] at h3
    rw [tw] at h3
    simp at h3
  · subst hF; simp only [real]; decide
  · subst hF hU; simp only [real, us, Nat.le_eq, Int.cast_ofNat_Int, decide_eq_false_iff_not, decide_eq_true_eq] at *; rw [at_eq]; split <;> omega
  · subst hU; exact q0
  · subst hU; exact q1
  · subst hF hU; simp only [real, us, Nat.le_eq, Int.cast_ofNat_Int, decide_eq_false_iff_not, decide_eq_true_eq] at *; rw [at_eq]; split <;> omega
  · subst hU; exact q0
  · subst hU; exact q1
  · subst hU; exact q0
  · subst hU; exact q1
  · subst hU; exact q0
  · subst hU; exact q1
  · subst hF hU; simp only [real, us, Nat.le_eq, Int.cast_ofNat_Int, decide_eq_false_iff_not, decide_eq_true_eq] at *
    simp only [sx_len, List.length_take, List.length_drop]
    omega
  · subst hF hU
    show 0 + 64 ≤ (u_block k n c).length
    rw [block_len]
    exact Nat.le_refl 64
  · subst hF hU; simp only [real, us, Nat.le_eq, Int.cast_ofNat_Int, decide_eq_false_iff_not, decide_eq_true_eq] at *
    rw [show (Int.toNat 64) = 64 from rfl, zero_block, beq_iff_eq]
  · subst hF hU
    rename_i g1 g2 g3 g4 g5
    simp only [real, us, Int.cast_ofNat_Int, decide_eq_true_eq] at g1 g2 g5
    rw [at_eq] at g2 g5
    rw [at_eq2] at g5
    exfalso
    have hj : 64 * (at_.toNat % 6) ≤ m.length := by
      split at g2 <;> omega
    have hn : (if (m.length : Int) < ((64 * (at_.toNat % 6) : Nat) : Int) then (m.length : Int) else ((64 * (at_.toNat % 6) : Nat) : Int)).toNat = 64 * (at_.toNat % 6) := by split <;> omega
    rw [hn, List.drop_zero, List.take_of_length_le (show (m.drop (64 * (at_.toNat % 6))).length ≤ m.length - 64 * (at_.toNat % 6) by simp), sx_app k n c m _ hj] at g5
    simp at g5
  · subst hF hU
    show 0 + 64 ≤ (u_block k n c).length
    rw [block_len]
    exact Nat.le_refl 64
  · subst hF hU; simp only [real, us, Nat.le_eq, Int.cast_ofNat_Int, decide_eq_false_iff_not, decide_eq_true_eq] at *
    rw [show (Int.toNat 64) = 64 from rfl, zero_block, beq_iff_eq]
  · subst hF hU
    rename_i g1 g2
    simp only [real, us, l1] at g1 g2
    simp at g2
end Go.Proofs.Ytegnmmfjbncgnaa
namespace Go.Proofs.Ytegnmmfjbncgnaa.streamTwice
open Go.ChangeShapes Go.WideShapes Go.ChangeAt Go.RowKit
set_option linter.unusedVariables false
theorem own : ownKnob Try.prog.godebug = none := by kernel_rfl
theorem laidOut : laidOutB Try.prog = true := by kernel_rfl
set_option maxRecDepth 100000 in
theorem lifted (os : Os) (started : os.Started) (H : Type) (enc : TypeId × Value → H) :
    ReturnsInHanded {} Try.checked os 10 .any (Rows.streamTwiceSpec.pre6 enc Try.prog Try.f10 Rows.streamTwiceRow.domain false) (Rows.streamTwiceSpec.post enc Try.prog Try.f10 false true false false) := by
  refine returnsInHanded_of_change (C := Try.checked) own started (by kernel_rfl) Try.func10
    (ChangeSpec.witness6 (enc := enc) (C := Try.checked) false ⟨#[], #[.agg #[.int .u8 0, .int .u8 0, .int .u8 0, .int .u8 0, .int .u8 0, .int .u8 0, .int .u8 0, .int .u8 0, .int .u8 0, .int .u8 0, .int .u8 0, .int .u8 0, .int .u8 0, .int .u8 0, .int .u8 0, .int .u8 0, .int .u8 0, .int .u8 0, .int .u8 0, .int .u8 0, .int .u8 0, .int .u8 0, .int .u8 0, .int .u8 0, .int .u8 0, .int .u8 0, .int .u8 0, .int .u8 0, .int .u8 0, .int .u8 0, .int .u8 0, .int .u8 0], .agg #[.int .u8 0, .int .u8 0, .int .u8 0, .int .u8 0, .int .u8 0, .int .u8 0, .int .u8 0, .int .u8 0, .int .u8 0, .int .u8 0, .int .u8 0, .int .u8 0], .int .u32 0, .slice none 0 0, .int .u8 0], []⟩ 8 (by kernel_rfl) (by kernel_rfl) (by kernel_rfl) (by kernel_rfl)) ?_
  intro W base args ds gs before hval0 hW hcnd _
  have hval : ∀ (j : Nat) t v, Try.f10.params[j]? = some t → args[j]? = some v → Value.okWide Try.prog W .any base t v := hval0
  have hW' := hW
  obtain ⟨p, q, hA0, hV, rfl, hfz, hnd⟩ := hW
  have hA : DataW.TrodAll enc Try.prog W 0 (fun _ => true) true Try.f10.params.toList args.toList ds p := hA0
  rw [Try.params10] at hA hval
  obtain ⟨v0, vs0, d0, ds0, p0, q0, hargs, rfl, rfl, h0, r0⟩ := trodAll_cons hA
  obtain ⟨v1, vs1, d1, ds1, p1, q1, rfl, rfl, rfl, h1, r1⟩ := trodAll_cons r0
  obtain ⟨v2, vs2, d2, ds2, p2, q2, rfl, rfl, rfl, h2, r2⟩ := trodAll_cons r1
  obtain ⟨v3, vs3, d3, ds3, p3, q3, rfl, rfl, rfl, h3, r3⟩ := trodAll_cons r2
  obtain ⟨v4, vs4, d4, ds4, p4, q4, rfl, rfl, rfl, h4, r4⟩ := trodAll_cons r3
  obtain ⟨rfl, rfl, rfl⟩ := trodAll_nil r4
  obtain rfl : args = #[v0, v1, v2, v3, v4] := by cases args; simp_all
  obtain ⟨rfl, rfl⟩ := trodVars_none hV
  obtain ⟨k, k0, q0⟩ := Go.Vc.openA8 Try.underlying51 Try.underlying5 (by kernel_rfl) (by kernel_rfl) (hval 0 51 v0 rfl rfl) h0
  obtain ⟨n, k1, q1⟩ := Go.Vc.openA8 Try.underlying53 Try.underlying5 (by kernel_rfl) (by kernel_rfl) (hval 1 53 v1 rfl rfl) h1
  obtain ⟨c, k2⟩ := Go.Vc.open32 Try.underlying22 (hval 2 22 v2 rfl rfl) h2
  obtain ⟨m, k3, q3⟩ := Go.Vc.openL8 Try.underlying26 Try.underlying5 (by kernel_rfl) (hval 3 26 v3 rfl rfl) h3
  obtain ⟨at_, k4⟩ := Go.Vc.open8 Try.underlying5 (hval 4 5 v4 rfl rfl) h4
  clear hA0 hval0
  refine (Go.Vc.law_walk2 (x := x_law4_StreamTwice Go.Vc.real us) (an := []) (cu := []) (l := [.ag 32 (.bt k), .ag 12 (.bt n), .w32 c, .rb 1 (.bt m), .w8 at_]) (vals := [v0, v1, v2, v3, v4]) ⟨tt_ok, ok_law4_StreamTwice, Go.Vc.ks_nil⟩ mixed Try.func10 rfl rfl (by kernel_rfl) (Nat.le_of_ble_eq_true rfl) (Go.Vc.rvs_cons k0 (Go.Vc.rvs_cons k1 (Go.Vc.rvs_cons k2 (Go.Vc.rvs_cons k3 (Go.Vc.rvs_cons k4 Go.Vc.rvs_nil))))) (c_law4_StreamTwice k n c m at_ q0 q1 q3)).mono fun e W' ⟨he, bel⟩ => ?_
  subst he
  exact ⟨_, rfl, Go.Vc.post_true (tb := 4) laidOut (by kernel_rfl) rfl Try.underlying4 rfl hW' rfl bel⟩
theorem over : Rows.streamTwiceRow.holds Try.pinned (OpenSpec.ofChange Rows.streamTwiceSpec) :=
  OpenClaim.holds_of_wide 10 Try.f10 rfl rfl rfl rfl rfl rfl rfl ⟨rfl, rfl, rfl, rfl, rfl⟩ rfl rfl rfl rfl rfl (by kernel_rfl) Try.func10 (by kernel_rfl)
    (of_decide_eq_true (by kernel_rfl)) (by unfold Func.isWrapper; first | (rw [if_pos (by decide +kernel)]; kernel_rfl) | (rw [if_neg (by decide +kernel)]; exact ⟨rfl, rfl⟩))
    (fun os started H enc _ => lifted os started H enc)
theorem proved : Rows.StreamTwiceSaid := over
#print axioms proved
end Go.Proofs.Ytegnmmfjbncgnaa.streamTwice

