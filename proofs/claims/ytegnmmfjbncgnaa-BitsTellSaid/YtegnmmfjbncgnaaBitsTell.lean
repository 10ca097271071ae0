/- The given statement is proved: for every input the law's function answers true. No condition. -/
import Derived.Test.YtegnmmfjbncgnaaRows
import Derived.Test.YtegnmmfjbncgnaaPart3
import Derived.Test.YtegnmmfjbncgnaaPart4
import Derived.WalkKit
import Derived.ProofKit
import Derived.OpenShut
import Derived.ShutString
set_option linter.unusedVariables false
set_option linter.unusedSimpArgs false
set_option maxRecDepth 100000
set_option maxHeartbeats 4000000
namespace Go.Proofs.Ytegnmmfjbncgnaa
open Go Go.Vc
theorem cut4 (xs : List UInt8) (h : xs.length = 4) : (xs.drop 0).take 4 = xs := by rw [List.drop_zero, List.take_of_length_le (by omega)]
theorem putBig_len (x : UInt32) : (u_putBig x).length = 4 := rfl
theorem putLittle_len (x : UInt32) : (u_putLittle x).length = 4 := rfl
theorem and31 (n : Int) : ibits BinOp.and n 31 = ((n % 32).toNat : Int) := by
  show IntKind.i64.wrap ((BitVec.ofInt 64 n &&& BitVec.ofInt 64 31).toNat : Int) = _
  have e : (BitVec.ofInt 64 n &&& BitVec.ofInt 64 31).toNat = (n % 32).toNat := by
    rw [BitVec.toNat_and, show (BitVec.ofInt 64 31).toNat = 2 ^ 5 - 1 from rfl, Nat.and_two_pow_sub_one_eq_mod, BitVec.toNat_ofInt]
    omega
  rw [e, wrap_sm (by omega) (by omega)]
theorem getE_ok (xs : List UInt8) (n : Int) : us.getE xs n = if us.getOk xs n = true then 0 else 10 := by
  simp only [us, u_getE, u_getOk, decide_eq_true_eq]
theorem four_nat (X : Nat) (h : X < 4294967296) : ((X / 16777216 % 256) <<< 24 ||| (X / 65536 % 256) <<< 16 ||| (X / 256 % 256) <<< 8 ||| (X % 256)) = X := by
  rw [Nat.or_assoc, Nat.or_assoc]
  rw [← Nat.shiftLeft_add_eq_or_of_lt (by omega : X % 256 < 2 ^ 8)]
  rw [← Nat.shiftLeft_add_eq_or_of_lt (by rw [Nat.shiftLeft_eq]; omega : (X / 256 % 256) <<< 8 + X % 256 < 2 ^ 16)]
  rw [← Nat.shiftLeft_add_eq_or_of_lt (by rw [Nat.shiftLeft_eq, Nat.shiftLeft_eq]; omega : (X / 65536 % 256) <<< 16 + ((X / 256 % 256) <<< 8 + X % 256) < 2 ^ 24)]
  simp only [Nat.shiftLeft_eq]
  omega
theorem byte_at (x : UInt32) (k : Nat) (h : k < 32) : (real.ofI8 (real.toI32 (real.shr32 x (k : Int)))).toNat = x.toNat / 2 ^ k % 256 := by
  rw [shr32_eq x k (by omega)]
  show (UInt8.ofNat (((x.toBitVec >>> k).toNat : Int) % 2 ^ 8).toNat).toNat = _
  rw [BitVec.toNat_ushiftRight, Nat.shiftRight_eq_div_pow]
  show (UInt8.ofNat (((x.toNat / 2 ^ k : Nat) : Int) % 2 ^ 8).toNat).toNat = _
  rw [UInt8.toNat_ofNat']
  omega
theorem shl_at (b : Nat) (hb : b < 256) (k : Nat) (hk : k ≤ 24) : (UInt32.ofNat b <<< UInt32.ofNat k).toNat = b <<< k := by
  rw [UInt32.toNat_shiftLeft, UInt32.toNat_ofNat_of_lt' (by simp [UInt32.size]; omega), UInt32.toNat_ofNat_of_lt' (by simp [UInt32.size]; omega), Nat.mod_eq_of_lt (show k < 32 by omega), Nat.shiftLeft_eq]
  refine Nat.mod_eq_of_lt ?_
  have : 2 ^ k ≤ 2 ^ 24 := Nat.pow_le_pow_right (by omega) hk
  exact Nat.lt_of_le_of_lt (Nat.mul_le_mul (show b ≤ 255 by omega) this) (by decide)
theorem of_four (x : UInt32) (a b c d : UInt8) (ha : a.toNat = x.toNat / 16777216 % 256) (hb : b.toNat = x.toNat / 65536 % 256) (hc : c.toNat = x.toNat / 256 % 256) (hd : d.toNat = x.toNat % 256) :
    (UInt32.ofNat a.toNat <<< 24 ||| UInt32.ofNat b.toNat <<< 16 ||| UInt32.ofNat c.toNat <<< 8 ||| UInt32.ofNat d.toNat) = x := by
  apply UInt32.toNat_inj.1
  have h1 := shl_at a.toNat a.toNat_lt 24 (by omega)
  have h2 := shl_at b.toNat b.toNat_lt 16 (by omega)
  have h3 := shl_at c.toNat c.toNat_lt 8 (by omega)
  have h4 : (UInt32.ofNat d.toNat).toNat = d.toNat := UInt32.toNat_ofNat_of_lt' (by have := d.toNat_lt; simp [UInt32.size]; omega)
  have e : (UInt32.ofNat a.toNat <<< (24 : UInt32) ||| UInt32.ofNat b.toNat <<< (16 : UInt32) ||| UInt32.ofNat c.toNat <<< (8 : UInt32) ||| UInt32.ofNat d.toNat).toNat = (a.toNat <<< 24 ||| b.toNat <<< 16 ||| c.toNat <<< 8 ||| d.toNat) := by
    rw [UInt32.toNat_or, UInt32.toNat_or, UInt32.toNat_or, h4]
    exact congr (congrArg _ (congr (congrArg _ (congr (congrArg _ h1) h2)) h3)) rfl
  rw [e, ha, hb, hc, hd]
  exact four_nat x.toNat x.toNat_lt
theorem sh_c (k : Nat) (h : k < 32) (x : UInt32) : real.shr32 x (real.toI64 (real.ofI64 (real.int k))) = real.shr32 x (k : Int) := by
  have : ∀ k : Fin 32, real.toI64 (real.ofI64 (real.int k.val)) = ((k.val : Nat) : Int) := by decide
  rw [this ⟨k, h⟩]
theorem byte_0 (x : UInt32) : (real.ofI8 (real.toI32 x)).toNat = x.toNat % 256 := by
  show (UInt8.ofNat ((x.toNat : Int) % 2 ^ 8).toNat).toNat = _
  rw [UInt8.toNat_ofNat']
  omega
theorem big_put (x : UInt32) : u_big (u_putBig x) = x := by
  refine of_four x _ _ _ _ ?_ ?_ ?_ ?_
  · show (real.ofI8 (real.toI32 (real.shr32 x (real.toI64 (real.ofI64 (real.int 24)))))).toNat = _
    rw [sh_c 24 (by omega), byte_at x 24 (by omega)]
  · show (real.ofI8 (real.toI32 (real.shr32 x (real.toI64 (real.ofI64 (real.int 16)))))).toNat = _
    rw [sh_c 16 (by omega), byte_at x 16 (by omega)]
  · show (real.ofI8 (real.toI32 (real.shr32 x (real.toI64 (real.ofI64 (real.int 8)))))).toNat = _
    rw [sh_c 8 (by omega), byte_at x 8 (by omega)]
  · exact byte_0 x
theorem little_put (x : UInt32) : u_little (u_putLittle x) = x := by
  refine of_four x _ _ _ _ ?_ ?_ ?_ ?_
  · show (real.ofI8 (real.toI32 (real.shr32 x (real.toI64 (real.ofI64 (real.int 24)))))).toNat = _
    rw [sh_c 24 (by omega), byte_at x 24 (by omega)]
  · show (real.ofI8 (real.toI32 (real.shr32 x (real.toI64 (real.ofI64 (real.int 16)))))).toNat = _
    rw [sh_c 16 (by omega), byte_at x 16 (by omega)]
  · show (real.ofI8 (real.toI32 (real.shr32 x (real.toI64 (real.ofI64 (real.int 8)))))).toNat = _
    rw [sh_c 8 (by omega), byte_at x 8 (by omega)]
  · exact byte_0 x
end Go.Proofs.Ytegnmmfjbncgnaa
namespace Go.Proofs.Ytegnmmfjbncgnaa
open Go Go.Vc
noncomputable def sp_law1_BitsTell (F : Fs) (U : Us) : Specs := [(14, s_law1_known F U), (22, s_bits_Get F U), (23, s_ref1_Get F U), (17, s_bits_PutBig F U), (18, s_bits_PutLittle F U), (15, s_bits_Rotl F U), (16, s_bits_Rotr F U), (24, s_ref1_Rotl F U), (19, s_bits_Big F U), (25, s_ref1_Big F U), (20, s_bits_Little F U), (26, s_ref1_Little F U), (27, s_bits_Put F U), (28, s_ref1_Put F U), (21, s_bits_Xor F U), (29, s_ref1_Xor F U)]
theorem ok_law1_BitsTell : SpecsOK Try.prog (sp_law1_BitsTell real us) := sp_cons r_law1_known k_law1_known (sp_cons r_bits_Get k_bits_Get (sp_cons r_ref1_Get k_ref1_Get (sp_cons r_bits_PutBig k_bits_PutBig (sp_cons r_bits_PutLittle k_bits_PutLittle (sp_cons r_bits_Rotl k_bits_Rotl (sp_cons r_bits_Rotr k_bits_Rotr (sp_cons r_ref1_Rotl k_ref1_Rotl (sp_cons r_bits_Big k_bits_Big (sp_cons r_ref1_Big k_ref1_Big (sp_cons r_bits_Little k_bits_Little (sp_cons r_ref1_Little k_ref1_Little (sp_cons r_bits_Put k_bits_Put (sp_cons r_ref1_Put k_ref1_Put (sp_cons r_bits_Xor k_bits_Xor (sp_cons r_ref1_Xor k_ref1_Xor sp_nil)))))))))))))))
noncomputable def x_law1_BitsTell (F : Fs) (U : Us) : Cx := ⟨Try.f6.ntmps, tt F, sp_law1_BitsTell F U, [], [(11, ([(48, [46]), (65, [63]), (74, [76]), (76, [74]), (79, [74]), (80, [74]), (90, [87]), (91, [87])], [(73, [70]), (79, [76])]))], [], [11]⟩
theorem c_law1_BitsTell (x : UInt32) (n : Int) (a b : List UInt8) (k : UInt64) (by_ : Int) (q1 : -9223372036854775808 ≤ n ∧ n ≤ 9223372036854775807) (q2 : a.length ≤ 9223372036854775807) (q3 : b.length ≤ 9223372036854775807) (q5 : -9223372036854775808 ≤ by_ ∧ by_ ≤ 9223372036854775807) : vc real (x_law1_BitsTell real us) [] [] (Try.f6.body.getD .skip) ⟨zipSl 0 [.w32 x, .i n, .rb 1 (.bt a), .rb 1 (.bt b), .w64 k, .i by_], [], 64⟩ (retOk real (tt real) false Try.f6.results.toList [.val (.b true)]) := by
  generalize hU : us = U
  generalize hF : real = F
  cbv
  repeat' first | apply And.intro | refine Classical.or_iff_not_imp_left.2 (fun _ => ?_) | exact trivial
  all_goals try (subst hF hU; simp only [real, us, Nat.le_eq, Int.cast_ofNat_Int, decide_eq_false_iff_not, decide_eq_true_eq, Bool.not_eq_true', Bool.not_eq_false', beq_eq_false_iff_ne, beq_iff_eq, ne_eq, Decidable.not_not, List.length_take, List.length_drop, List.length_append, List.length_replicate, List.length_set, List.length_cons, List.length_nil] at *; omega)
  all_goals subst hF hU
  all_goals simp only [real, Bool.not_eq_true, decide_eq_false_iff_not, decide_eq_true_eq, Int.not_lt, Int.cast_ofNat_Int] at *
  all_goals have hb : b.length ≤ 200 := by omega
  all_goals have ha : a.length ≤ 200 := by omega
  all_goals have ga := getA_le a by_
  all_goals have e0 := cut_all a
  all_goals simp only [us] at *
  all_goals try simp only [e0, Int.toNat_natCast]
  all_goals try omega
  all_goals try (simp; done)
  all_goals try (rw [beq_iff_eq]; congr 2 <;> omega)
  all_goals try (rw [cut4 _ (putBig_len x), big_put]; simp; done)
  all_goals try (rw [cut4 _ (putLittle_len x), little_put]; simp; done)
  all_goals try (have h1 := putBig_len x; omega)
  all_goals try (have h1 := putLittle_len x; omega)
  all_goals try (have h1 := getE_ok a by_; simp only [us] at h1; rw [h1]; simp_all; done)
  all_goals try (rw [beq_iff_eq]; rfl)
  all_goals try (rw [and31, beq_iff_eq]; congr 2; rw [wrap_sm (by omega) (by omega)]; omega)
end Go.Proofs.Ytegnmmfjbncgnaa
namespace Go.Proofs.Ytegnmmfjbncgnaa.bitsTell
open Go.ChangeShapes Go.WideShapes Go.ChangeAt Go.RowKit
set_option linter.unusedVariables false
theorem own : ownKnob Try.prog.godebug = none := by kernel_rfl
theorem laidOut : laidOutB Try.prog = true := by kernel_rfl
set_option maxRecDepth 100000 in
theorem lifted (os : Os) (started : os.Started) (H : Type) (enc : TypeId × Value → H) :
    ReturnsInHanded {} Try.checked os 6 .any (Rows.bitsTellSpec.pre6 enc Try.prog Try.f6 Rows.bitsTellRow.domain false) (Rows.bitsTellSpec.post enc Try.prog Try.f6 false true false false) := by
  refine returnsInHanded_of_change (C := Try.checked) own started (by kernel_rfl) Try.func6
    (ChangeSpec.witness6 (enc := enc) (C := Try.checked) false ⟨#[], #[.int .u32 0, .int .i64 0, .slice none 0 0, .slice none 0 0, .int .u64 0, .int .i64 0], []⟩ 8 (by kernel_rfl) (by kernel_rfl) (by kernel_rfl) (by kernel_rfl)) ?_
  intro W base args ds gs before hval0 hW hcnd _
  have hval : ∀ (j : Nat) t v, Try.f6.params[j]? = some t → args[j]? = some v → Value.okWide Try.prog W .any base t v := hval0
  have hW' := hW
  obtain ⟨p, q, hA0, hV, rfl, hfz, hnd⟩ := hW
  have hA : DataW.TrodAll enc Try.prog W 0 (fun _ => true) true Try.f6.params.toList args.toList ds p := hA0
  rw [Try.params6] at hA hval
  obtain ⟨v0, vs0, d0, ds0, p0, q0, hargs, rfl, rfl, h0, r0⟩ := trodAll_cons hA
  obtain ⟨v1, vs1, d1, ds1, p1, q1, rfl, rfl, rfl, h1, r1⟩ := trodAll_cons r0
  obtain ⟨v2, vs2, d2, ds2, p2, q2, rfl, rfl, rfl, h2, r2⟩ := trodAll_cons r1
  obtain ⟨v3, vs3, d3, ds3, p3, q3, rfl, rfl, rfl, h3, r3⟩ := trodAll_cons r2
  obtain ⟨v4, vs4, d4, ds4, p4, q4, rfl, rfl, rfl, h4, r4⟩ := trodAll_cons r3
  obtain ⟨v5, vs5, d5, ds5, p5, q5, rfl, rfl, rfl, h5, r5⟩ := trodAll_cons r4
  obtain ⟨rfl, rfl, rfl⟩ := trodAll_nil r5
  obtain rfl : args = #[v0, v1, v2, v3, v4, v5] := by cases args; simp_all
  obtain ⟨rfl, rfl⟩ := trodVars_none hV
  obtain ⟨x, k0⟩ := Go.Vc.open32 Try.underlying22 (hval 0 22 v0 rfl rfl) h0
  obtain ⟨n, k1, q1⟩ := Go.Vc.openI Try.underlying3 (hval 1 3 v1 rfl rfl) h1
  obtain ⟨a, k2, q2⟩ := Go.Vc.openL8 Try.underlying26 Try.underlying5 (by kernel_rfl) (hval 2 26 v2 rfl rfl) h2
  obtain ⟨b, k3, q3⟩ := Go.Vc.openL8 Try.underlying26 Try.underlying5 (by kernel_rfl) (hval 3 26 v3 rfl rfl) h3
  obtain ⟨k, k4⟩ := Go.Vc.open64 Try.underlying33 (hval 4 33 v4 rfl rfl) h4
  obtain ⟨by_, k5, q5⟩ := Go.Vc.openI Try.underlying3 (hval 5 3 v5 rfl rfl) h5
  clear hA0 hval0
  refine (Go.Vc.law_walk2 (x := x_law1_BitsTell Go.Vc.real us) (an := []) (cu := []) (l := [.w32 x, .i n, .rb 1 (.bt a), .rb 1 (.bt b), .w64 k, .i by_]) (vals := [v0, v1, v2, v3, v4, v5]) ⟨tt_ok, ok_law1_BitsTell, Go.Vc.ks_nil⟩ mixed Try.func6 rfl rfl (by kernel_rfl) (Nat.le_of_ble_eq_true rfl) (Go.Vc.rvs_cons k0 (Go.Vc.rvs_cons k1 (Go.Vc.rvs_cons k2 (Go.Vc.rvs_cons k3 (Go.Vc.rvs_cons k4 (Go.Vc.rvs_cons k5 Go.Vc.rvs_nil)))))) (c_law1_BitsTell x n a b k by_ q1 q2 q3 q5)).mono fun e W' ⟨he, bel⟩ => ?_
  subst he
  exact ⟨_, rfl, Go.Vc.post_true (tb := 4) laidOut (by kernel_rfl) rfl Try.underlying4 rfl hW' rfl bel⟩
theorem over : Rows.bitsTellRow.holds Try.pinned (OpenSpec.ofChange Rows.bitsTellSpec) :=
  OpenClaim.holds_of_wide 6 Try.f6 rfl rfl rfl rfl rfl rfl rfl ⟨rfl, rfl, rfl, rfl, rfl⟩ rfl rfl rfl rfl rfl (by kernel_rfl) Try.func6 (by kernel_rfl)
    (of_decide_eq_true (by kernel_rfl)) (by unfold Func.isWrapper; first | (rw [if_pos (by decide +kernel)]; kernel_rfl) | (rw [if_neg (by decide +kernel)]; exact ⟨rfl, rfl⟩))
    (fun os started H enc _ => lifted os started H enc)
theorem proved : Rows.BitsTellSaid := over
#print axioms proved
end Go.Proofs.Ytegnmmfjbncgnaa.bitsTell

