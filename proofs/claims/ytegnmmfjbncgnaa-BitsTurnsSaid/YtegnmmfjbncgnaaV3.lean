/- A part of the proof of given statements: a verified condition generator for the model, and contracts of the program's functions. No condition. -/
import Derived.Test.YtegnmmfjbncgnaaV2
set_option linter.unusedVariables false
set_option linter.unusedSimpArgs false
set_option maxRecDepth 100000
namespace Go.Proofs.Ytegnmmfjbncgnaa
open Go Go.Vc
theorem c14 : vc real (XM Try.f14 real (sp14 real us) [2]) [] [] (Try.f14.body.getD .skip) ⟨zipSl 0 [], [], 64⟩ (retOk real (tt real) false Try.f14.results.toList [.val (.kb true)]) := by
  generalize hU : us = U
  generalize hF : real = F
  cbv
  subst hF hU
  simp only [real, us]
  decide +kernel
theorem k14 : SpecOK Try.prog 14 (s14 real) := by
  refine pure_sound (x := XM Try.f14 real (sp14 real us) [2]) (XM_ok ok14) mixed Try.func14 rfl rfl (by kernel_rfl) ?_
  intro l c rs hg hc
  unfold g14 at hg
  split at hg
  · cases hg; exact ⟨Nat.le_of_ble_eq_true rfl, [], [], c14⟩
  · cases hg
def sp3 (F : Fs) (U : Us) : Specs := [(14, s14 F), (15, s15 F U), (16, s16 F U)]
theorem ok3 : SpecsOK Try.prog (sp3 real us) := sp_cons r14 k14 (sp_cons r15 k15 (sp_cons r16 k16 sp_nil))
theorem rot_get (x : BitVec 32) (a i : Nat) (ha : a < 32) (hi : i < 32) : (x.rotateLeft a).getLsbD i = x.getLsbD ((i + 32 - a) % 32) := by
  simp only [BitVec.getLsbD_rotateLeft, Nat.mod_eq_of_lt ha]
  by_cases h : i < a
  · simp only [h, decide_true, cond_true]; congr 1; omega
  · simp only [h, decide_false, cond_false, hi, decide_true, Bool.true_and]; congr 1; omega
theorem rot_add (x : BitVec 32) (a b : Nat) (ha : a < 32) (hb : b < 32) : (x.rotateLeft a).rotateLeft b = x.rotateLeft ((a + b) % 32) := by
  apply BitVec.eq_of_getLsbD_eq
  intro i hi
  rw [rot_get _ _ _ hb hi, rot_get _ _ _ ha (by omega), rot_get _ _ _ (by omega) hi]
  congr 1; omega
theorem rot_xor (x y : BitVec 32) (a : Nat) (ha : a < 32) : (x ^^^ y).rotateLeft a = x.rotateLeft a ^^^ y.rotateLeft a := by
  apply BitVec.eq_of_getLsbD_eq
  intro i hi
  rw [BitVec.getLsbD_xor, rot_get _ _ _ ha hi, rot_get _ _ _ ha hi, rot_get _ _ _ ha hi, BitVec.getLsbD_xor]
theorem rot_zero (x : BitVec 32) : x.rotateLeft 0 = x := by
  apply BitVec.eq_of_getLsbD_eq
  intro i hi
  rw [rot_get _ _ _ (by omega) hi]
  congr 1; omega
theorem rl_add (x : UInt32) (k j : Int) : us.rl (us.rl x k) j = us.rl x (k + j) := by
  simp only [us]
  rw [rot_add _ _ _ (by omega) (by omega)]
  have : ((k % 32).toNat + (j % 32).toNat) % 32 = ((k + j) % 32).toNat := by omega
  rw [this]
theorem rl_of (x : UInt32) (k : Int) (h : k % 32 = 0) : us.rl x k = x := by
  simp only [us, h, Int.toNat_zero, rot_zero]
theorem rl_xor (x y : UInt32) (k : Int) : us.rl (x ^^^ y) k = us.rl x k ^^^ us.rl y k := by
  simp only [us]
  show (⟨(x.toBitVec ^^^ y.toBitVec).rotateLeft _⟩ : UInt32) = ⟨x.toBitVec.rotateLeft _ ^^^ y.toBitVec.rotateLeft _⟩
  rw [rot_xor _ _ _ (by omega)]
theorem rr_rl (x : UInt32) (k : Int) : us.rr x k = us.rl x (-k) := rfl
def an3 (F : Fs) (U : Us) (x : UInt32) (n m : Int) : Anns := [(5, ⟨Nat, fun i => i ≤ 32, fun i => F.subn 32 i, fun i =>
  ⟨[(0, .w32 x), (1, .i n), (2, .i m), (7, .w32 (U.rl x (F.int i))), (8, .i (F.int i))], []⟩⟩)]
theorem c3 (x : UInt32) (n m : Int) (hn : -9223372036854775808 ≤ n ∧ n ≤ 9223372036854775807) (hm : -9223372036854775808 ≤ m ∧ m ≤ 9223372036854775807) :
    vc real (XM Try.f3 real (sp3 real us) [9]) (an3 real us x n m) [] (Try.f3.body.getD .skip) ⟨zipSl 0 [.w32 x, .i n, .i m], [], 64⟩ (retOk real (tt real) false Try.f3.results.toList [.val (.b true)]) := by
  generalize hU : us = U
  generalize hF : real = F
  cbv
  refine ⟨⟨(0 : Nat), ?_⟩, fun (i : Nat) hi => ?_⟩
  · cbv
    subst hF hU
    exact ⟨⟨(rl_of x _ rfl).symm, trivial⟩, trivial⟩
  · have hi : i ≤ 32 := hi
    cbv
    refine ⟨?_, ?_⟩
    · by_cases hlt : i < 32
      · refine .inr ⟨(i + 1 : Nat), ?_⟩
        cbv
        subst hF hU
        refine ⟨hlt, ?_, ⟨rl_add x (i : Int) ((1 : Nat) : Int), ?_, trivial⟩, trivial⟩
        · show 32 - (i + 1) + 1 ≤ 32 - i
          omega
        · show IntKind.i64.wrap ((i : Int) + 1) = ((i + 1 : Nat) : Int)
          rw [wrap_small (by omega) (by omega)]
          rfl
      · left
        subst hF hU
        simp only [real, us, Nat.le_eq, Nat.succ_eq_add_one, Int.cast_ofNat_Int] at *
        simp only [decide_eq_false_iff_not]
        omega
    · by_cases hlt : i < 32
      · left
        subst hF hU
        simp only [real, us, Nat.le_eq, Nat.succ_eq_add_one, Int.cast_ofNat_Int] at *
        simp only [decide_eq_true_eq]
        omega
      · right
        have hi' : i = 32 := Nat.le_antisymm hi (Nat.le_of_not_lt hlt)
        clear hi hlt
        subst hi'
        subst hF hU
        have k1 : -64 < n.tmod 64 := Int.lt_tmod_of_pos _ (by decide)
        have k2 : n.tmod 64 < 64 := Int.tmod_lt_of_pos _ (by decide)
        have j1 : -64 < m.tmod 64 := Int.lt_tmod_of_pos _ (by decide)
        have j2 : m.tmod 64 < 64 := Int.tmod_lt_of_pos _ (by decide)
        refine ⟨by show (64 : Int) ≠ 0; decide, by show (64 : Int) ≠ 0; decide, ?_, ?_, ?_, ?_, ?_, trivial⟩
        · show (us.rl x 32 == x) = true
          rw [rl_of x _ (by decide)]; simp
        · show (us.rr (us.rl x n) n == x) = true
          rw [rr_rl, rl_add, rl_of x _ (by omega)]; simp
        · show (us.rl (us.rl x (n.tmod 64)) (m.tmod 64) == us.rl x (IntKind.i64.wrap (n.tmod 64 + m.tmod 64))) = true
          rw [rl_add, wrap_small (by omega) (by omega)]; simp
        · show (us.rl x (n.tmod 64) == us.rr x (IntKind.i64.wrap (0 - n.tmod 64))) = true
          rw [rr_rl, wrap_small (by omega) (by omega), show -(0 - n.tmod 64) = n.tmod 64 by omega]; simp
        · show (us.rl (x ^^^ real.ofI32 (real.int 1)) n == us.rl x n ^^^ us.rl (real.ofI32 (real.int 1)) n) = true
          rw [rl_xor]; simp
end Go.Proofs.Ytegnmmfjbncgnaa
