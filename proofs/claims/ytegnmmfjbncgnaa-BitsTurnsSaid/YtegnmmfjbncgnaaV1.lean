/- A part of the proof of given statements: a verified condition generator for the model, and contracts of the program's functions. No condition. -/
import Derived.Test.YtegnmmfjbncgnaaVcLaw
import Derived.Test.YtegnmmfjbncgnaaVcH4
import Derived.Test.YtegnmmfjbncgnaaVTy
set_option linter.unusedVariables false
set_option linter.unusedSimpArgs false
set_option maxRecDepth 100000
namespace Go.Proofs.Ytegnmmfjbncgnaa
open Go Go.Vc
/-- the program's plain functions, behind one name -/
structure Us where
  rl : UInt32 → Int → UInt32
  rr : UInt32 → Int → UInt32
  wid : Int → Int
  four : List UInt8 → List UInt8
  big : List UInt8 → UInt32
  little : List UInt8 → UInt32
  gv : List UInt8 → UInt64
  putBig : UInt32 → List UInt8
def four (xs : List UInt8) : List UInt8 := (xs ++ [0, 0, 0, 0]).take 4
def us : Us where
  rl := fun x n => ⟨x.toBitVec.rotateLeft (n % 32).toNat⟩
  rr := fun x n => ⟨x.toBitVec.rotateLeft ((-n) % 32).toNat⟩
  wid := fun n => min (max n 0) 8
  four := four
  big := fun xs => (UInt32.ofNat ((four xs).getD 0 0).toNat <<< 24 ||| UInt32.ofNat ((four xs).getD 1 0).toNat <<< 16 ||| UInt32.ofNat ((four xs).getD 2 0).toNat <<< 8 ||| UInt32.ofNat ((four xs).getD 3 0).toNat)
  little := fun xs => (UInt32.ofNat ((four xs).getD 3 0).toNat <<< 24 ||| UInt32.ofNat ((four xs).getD 2 0).toNat <<< 16 ||| UInt32.ofNat ((four xs).getD 1 0).toNat <<< 8 ||| UInt32.ofNat ((four xs).getD 0 0).toNat)
  putBig := fun x => [real.ofI8 (real.toI32 (real.shr32 x (real.toI64 (real.ofI64 (real.int 24))))), real.ofI8 (real.toI32 (real.shr32 x (real.toI64 (real.ofI64 (real.int 16))))), real.ofI8 (real.toI32 (real.shr32 x (real.toI64 (real.ofI64 (real.int 8))))), real.ofI8 (real.toI32 x)]
  gv := fun xs => xs.foldl (fun n c => n <<< 8 ||| UInt64.ofNat c.toNat) 0
theorem mixed : Try.prog.follows .mixedOrders = true := by kernel_rfl
def X (fn : Func) (F : Fs) (sp : Specs) : Cx := ⟨fn.ntmps, tt F, sp, [], [], [], []⟩
def XM (fn : Func) (F : Fs) (sp : Specs) (mu : List Nat) : Cx := ⟨fn.ntmps, tt F, sp, [], [], [], mu⟩
theorem XM_ok {fn : Func} {sp : Specs} {mu : List Nat} (h : SpecsOK Try.prog sp) : XOK Try.prog (XM fn real sp mu) := ⟨tt_ok, h, ks_nil⟩
theorem X_ok {fn : Func} {sp : Specs} (h : SpecsOK Try.prog sp) : XOK Try.prog (X fn real sp) := ⟨tt_ok, h, ks_nil⟩

def g42 (U : Us) : Law
  | [.w32 x, .i n] => some (True, [.val (.w32 (U.rl x n))])
  | _ => none
def s42 (F : Fs) (U : Us) : Vc.Spec := pureSpec F false [.keep, .keep] (g42 U)
theorem r42 : Ready Try.prog 42 := by unfold Ready; kernel_rfl
theorem shl32_eq (x : UInt32) (n : Nat) (h : n < 32) : real.shl32 x (n : Int) = ⟨x.toBitVec <<< n⟩ := by
  apply UInt32.toNat_inj.1
  show (UInt32.ofNat (x.toNat * 2 ^ (min (n : Int).toNat 32))).toNat = _
  simp [Nat.shiftLeft_eq, show min n 32 = n by omega]
theorem shr32_eq (x : UInt32) (n : Nat) (h : n ≤ 32) : real.shr32 x (n : Int) = ⟨x.toBitVec >>> n⟩ := by
  apply UInt32.toNat_inj.1
  show (UInt32.ofNat (x.toNat / 2 ^ (min (n : Int).toNat 32))).toNat = _
  have : x.toNat / 2 ^ n < 4294967296 := Nat.lt_of_le_of_lt (Nat.div_le_self _ _) x.toNat_lt
  simp [Nat.shiftRight_eq_div_pow, show min n 32 = n by omega]
  omega
theorem p42a (n : Int) : real.toI64 (real.and64 (real.ofI64 n) (real.ofI64 (real.int 31))) = ((n % 32).toNat : Int) := by
  show ((UInt64.ofNat (n % 2 ^ 64).toNat &&& UInt64.ofNat ((31 : Int) % 2 ^ 64).toNat).toNat : Int) = _
  have h1 : (31 : Nat) = 2 ^ 5 - 1 := rfl
  have h2 : ((31 : Int) % 2 ^ 64).toNat = 31 := by decide
  rw [h2]
  have h3 : (n % 2 ^ 64).toNat < 2 ^ 64 := by omega
  have h4 : (UInt64.ofNat (n % 2 ^ 64).toNat).toNat = (n % 2 ^ 64).toNat := UInt64.toNat_ofNat_of_lt' h3
  rw [UInt64.toNat_and, h4]
  have h5 : (UInt64.ofNat 31).toNat = 31 := rfl
  rw [h5, h1, Nat.and_two_pow_sub_one_eq_mod]
  omega
theorem p42b (n : Int) : real.toI64 (real.sub64 (real.ofI64 (real.int 32)) (real.and64 (real.ofI64 n) (real.ofI64 (real.int 31)))) = ((32 - (n % 32).toNat : Nat) : Int) := by
  have h := p42a n
  generalize real.and64 (real.ofI64 n) (real.ofI64 (real.int 31)) = y at h ⊢
  have h : (y.toNat : Int) = ((n % 32).toNat : Int) := h
  show ((UInt64.ofNat ((32 : Int) % 2 ^ 64).toNat - y).toNat : Int) = _
  have h2 : ((32 : Int) % 2 ^ 64).toNat = 32 := by decide
  rw [h2]
  have h3 : (UInt64.ofNat 32).toNat = 32 := rfl
  rw [UInt64.toNat_sub_of_le _ _ (by rw [UInt64.le_iff_toNat_le, h3]; omega), h3]
  omega
theorem c42 (x : UInt32) (n : Int) : vc real (X Try.f42 real []) [] [] (Try.f42.body.getD .skip) ⟨zipSl 0 [.w32 x, .i n], [], 64⟩ (retOk real (tt real) false Try.f42.results.toList [.val (.w32 (us.rl x n))]) := by
  generalize hU : us = U
  generalize hF : real = F
  cbv
  subst hF hU
  have h1 := p42a n
  have h2 := p42b n
  have h3 := shl32_eq x (n % 32).toNat (by omega)
  have h4 := shr32_eq x (32 - (n % 32).toNat) (by omega)
  simp only [real] at h1 h2 h3 h4 ⊢
  rw [h1, h2, h3, h4]
  refine ⟨by omega, by omega, ?_, trivial⟩
  show (⟨_⟩ ||| ⟨_⟩ : UInt32) = ⟨x.toBitVec.rotateLeft (n % 32).toNat⟩
  rw [BitVec.rotateLeft_def]
  have : (n % 32).toNat % 32 = (n % 32).toNat := by omega
  rw [this]
  rfl
theorem k42 : SpecOK Try.prog 42 (s42 real us) := by
  refine pure_sound (x := X Try.f42 real []) (X_ok sp_nil) mixed Try.func42 rfl rfl (by kernel_rfl) ?_
  intro l c rs hg hc
  unfold g42 at hg
  split at hg
  · cases hg; exact ⟨Nat.le_of_ble_eq_true rfl, [], [], c42 _ _⟩
  · cases hg
def g15 (U : Us) : Law
  | [.w32 x, .i n] => some (True, [.val (.w32 (U.rl x n))])
  | _ => none
def s15 (F : Fs) (U : Us) : Vc.Spec := pureSpec F false [.keep, .keep] (g15 U)
theorem r15 : Ready Try.prog 15 := by unfold Ready; kernel_rfl
theorem ok42 : SpecsOK Try.prog [(42, s42 real us)] := sp_cons r42 k42 sp_nil
theorem c15 (x : UInt32) (n : Int) : vc real (X Try.f15 real [(42, s42 real us)]) [] [] (Try.f15.body.getD .skip) ⟨zipSl 0 [.w32 x, .i n], [], 64⟩ (retOk real (tt real) false Try.f15.results.toList [.val (.w32 (us.rl x n))]) := by
  generalize hU : us = U
  generalize hF : real = F
  cbv
  subst hF hU
  simp only [real, us, Int.cast_ofNat_Int]
  refine ⟨by omega, ?_, trivial⟩
  have : n.tmod 32 % 32 = n % 32 := by have := Int.tmod_def n 32; omega
  rw [this]
theorem k15 : SpecOK Try.prog 15 (s15 real us) := by
  refine pure_sound (x := X Try.f15 real [(42, s42 real us)]) (X_ok ok42) mixed Try.func15 rfl rfl (by kernel_rfl) ?_
  intro l c rs hg hc
  unfold g15 at hg
  split at hg
  · cases hg; exact ⟨Nat.le_of_ble_eq_true rfl, [], [], c15 _ _⟩
  · cases hg
def g16 (U : Us) : Law
  | [.w32 x, .i n] => some (True, [.val (.w32 (U.rr x n))])
  | _ => none
def s16 (F : Fs) (U : Us) : Vc.Spec := pureSpec F false [.keep, .keep] (g16 U)
theorem r16 : Ready Try.prog 16 := by unfold Ready; kernel_rfl
theorem wrap_small {a : Int} (h1 : -9223372036854775808 ≤ a) (h2 : a ≤ 9223372036854775807) : IntKind.i64.wrap a = a := by
  simp [IntKind.wrap, IntKind.signed, IntKind.bits]
  omega
theorem c16 (x : UInt32) (n : Int) : vc real (X Try.f16 real [(42, s42 real us)]) [] [] (Try.f16.body.getD .skip) ⟨zipSl 0 [.w32 x, .i n], [], 64⟩ (retOk real (tt real) false Try.f16.results.toList [.val (.w32 (us.rr x n))]) := by
  generalize hU : us = U
  generalize hF : real = F
  cbv
  subst hF hU
  simp only [real, us, Int.cast_ofNat_Int]
  refine ⟨by omega, ?_, trivial⟩
  have h := Int.tmod_def n 32
  have h1 : -32 < n.tmod 32 := Int.lt_tmod_of_pos _ (by decide)
  have h2 : n.tmod 32 < 32 := Int.tmod_lt_of_pos _ (by decide)
  rw [wrap_small (by omega) (by omega)]
  have : (0 - n.tmod 32) % 32 = (-n) % 32 := by omega
  rw [this]
theorem k16 : SpecOK Try.prog 16 (s16 real us) := by
  refine pure_sound (x := X Try.f16 real [(42, s42 real us)]) (X_ok ok42) mixed Try.func16 rfl rfl (by kernel_rfl) ?_
  intro l c rs hg hc
  unfold g16 at hg
  split at hg
  · cases hg; exact ⟨Nat.le_of_ble_eq_true rfl, [], [], c16 _ _⟩
  · cases hg
def g43 (U : Us) : Law
  | [.rb 1 (.bt xs)] => some (True, [.val (.ag 4 (.bt (U.four xs)))])
  | _ => none
def s43 (F : Fs) (U : Us) : Vc.Spec := pureSpec F false [.row .kB] (g43 U)
theorem r43 : Ready Try.prog 43 := by unfold Ready; kernel_rfl
theorem c43 (xs : List UInt8) : vc real (X Try.f43 real []) [] [] (Try.f43.body.getD .skip) ⟨zipSl 0 [.rb 1 (.bt xs)], [], 64⟩ (retOk real (tt real) false Try.f43.results.toList [.val (.ag 4 (.bt (us.four xs)))]) := by
  generalize hU : us = U
  generalize hF : real = F
  cbv
  subst hF hU
  simp only [real, us, four]
  refine ⟨by omega, ?_, trivial⟩
  by_cases h : 4 ≤ xs.length
  · rw [Nat.min_eq_right h, List.take_append_of_le_length h]; simp [h]
  · rw [Nat.min_eq_left (by omega), List.take_append]
    simp [List.take_of_length_le (show xs.length ≤ 4 by omega)]
    have hk : xs.length = 0 ∨ xs.length = 1 ∨ xs.length = 2 ∨ xs.length = 3 := by omega
    rcases hk with hk | hk | hk | hk <;> rw [hk] <;> rfl
theorem k43 : SpecOK Try.prog 43 (s43 real us) := by
  refine pure_sound (x := X Try.f43 real []) (X_ok sp_nil) mixed Try.func43 rfl rfl (by kernel_rfl) ?_
  intro l c rs hg hc
  unfold g43 at hg
  split at hg
  · cases hg; exact ⟨Nat.le_of_ble_eq_true rfl, [], [], c43 _⟩
  · cases hg
theorem ok43 : SpecsOK Try.prog [(43, s43 real us)] := sp_cons r43 k43 sp_nil
def g19 (U : Us) : Law
  | [.rb 1 (.bt xs)] => some (True, [.val (.w32 (U.big xs))])
  | _ => none
def s19 (F : Fs) (U : Us) : Vc.Spec := pureSpec F false [.row .kB] (g19 U)
theorem r19 : Ready Try.prog 19 := by unfold Ready; kernel_rfl
theorem shl32_c (x : UInt32) (n : Nat) (h : n < 32) : UInt32.ofNat (x.toNat * 2 ^ n) = x <<< UInt32.ofNat n := by
  apply UInt32.toNat_inj.1
  simp [Nat.shiftLeft_eq, Nat.mod_eq_of_lt (show n < 4294967296 by omega), Nat.mod_eq_of_lt h]
theorem c19 (xs : List UInt8) : vc real (X Try.f19 real [(43, s43 real us)]) [] [] (Try.f19.body.getD .skip) ⟨zipSl 0 [.rb 1 (.bt xs)], [], 64⟩ (retOk real (tt real) false Try.f19.results.toList [.val (.w32 (us.big xs))]) := by
  generalize hU : us = U
  generalize hF : real = F
  cbv
  subst hF hU
  simp only [real, us, Int.cast_ofNat_Int]
  refine ⟨by omega, by omega, by omega, by omega, by omega, by omega, by omega, by omega, by omega, by omega, by omega, ?_, trivial⟩
  have e (b : UInt8) : UInt32.ofNat ((b.toNat : Int) % 2 ^ 32).toNat = UInt32.ofNat b.toNat := by congr 1; have := b.toNat_lt; omega
  have h24 : (min (((UInt64.ofNat ((24 : Int) % 2 ^ 64).toNat).toNat : Int)).toNat 32) = 24 := by decide
  have h16 : (min (((UInt64.ofNat ((16 : Int) % 2 ^ 64).toNat).toNat : Int)).toNat 32) = 16 := by decide
  have h8 : (min (((UInt64.ofNat ((8 : Int) % 2 ^ 64).toNat).toNat : Int)).toNat 32) = 8 := by decide
  simp only [e, h24, h16, h8, shl32_c _ 24 (by omega), shl32_c _ 16 (by omega), shl32_c _ 8 (by omega)]
  rfl
theorem k19 : SpecOK Try.prog 19 (s19 real us) := by
  refine pure_sound (x := X Try.f19 real [(43, s43 real us)]) (X_ok ok43) mixed Try.func19 rfl rfl (by kernel_rfl) ?_
  intro l c rs hg hc
  unfold g19 at hg
  split at hg
  · cases hg; exact ⟨Nat.le_of_ble_eq_true rfl, [], [], c19 _⟩
  · cases hg
def g20 (U : Us) : Law
  | [.rb 1 (.bt xs)] => some (True, [.val (.w32 (U.little xs))])
  | _ => none
def s20 (F : Fs) (U : Us) : Vc.Spec := pureSpec F false [.row .kB] (g20 U)
theorem r20 : Ready Try.prog 20 := by unfold Ready; kernel_rfl
theorem c20 (xs : List UInt8) : vc real (X Try.f20 real [(43, s43 real us)]) [] [] (Try.f20.body.getD .skip) ⟨zipSl 0 [.rb 1 (.bt xs)], [], 64⟩ (retOk real (tt real) false Try.f20.results.toList [.val (.w32 (us.little xs))]) := by
  generalize hU : us = U
  generalize hF : real = F
  cbv
  subst hF hU
  simp only [real, us, Int.cast_ofNat_Int]
  refine ⟨by omega, by omega, by omega, by omega, by omega, by omega, by omega, by omega, by omega, by omega, by omega, ?_, trivial⟩
  have e (b : UInt8) : UInt32.ofNat ((b.toNat : Int) % 2 ^ 32).toNat = UInt32.ofNat b.toNat := by congr 1; have := b.toNat_lt; omega
  have h24 : (min (((UInt64.ofNat ((24 : Int) % 2 ^ 64).toNat).toNat : Int)).toNat 32) = 24 := by decide
  have h16 : (min (((UInt64.ofNat ((16 : Int) % 2 ^ 64).toNat).toNat : Int)).toNat 32) = 16 := by decide
  have h8 : (min (((UInt64.ofNat ((8 : Int) % 2 ^ 64).toNat).toNat : Int)).toNat 32) = 8 := by decide
  simp only [e, h24, h16, h8, shl32_c _ 24 (by omega), shl32_c _ 16 (by omega), shl32_c _ 8 (by omega)]
  rfl
theorem k20 : SpecOK Try.prog 20 (s20 real us) := by
  refine pure_sound (x := X Try.f20 real [(43, s43 real us)]) (X_ok ok43) mixed Try.func20 rfl rfl (by kernel_rfl) ?_
  intro l c rs hg hc
  unfold g20 at hg
  split at hg
  · cases hg; exact ⟨Nat.le_of_ble_eq_true rfl, [], [], c20 _⟩
  · cases hg
def g44 (U : Us) : Law
  | [.i n] => some (True, [.val (.i (U.wid n))])
  | _ => none
def s44 (F : Fs) (U : Us) : Vc.Spec := pureSpec F false [.keep] (g44 U)
theorem r44 : Ready Try.prog 44 := by unfold Ready; kernel_rfl
theorem c44 (n : Int) : vc real (X Try.f44 real []) [] [] (Try.f44.body.getD .skip) ⟨zipSl 0 [.i n], [], 64⟩ (retOk real (tt real) false Try.f44.results.toList [.val (.i (us.wid n))]) := by
  generalize hU : us = U
  generalize hF : real = F
  cbv
  subst hF hU
  simp only [real, us, Int.cast_ofNat_Int]
  refine ⟨?_, trivial⟩
  omega
theorem k44 : SpecOK Try.prog 44 (s44 real us) := by
  refine pure_sound (x := X Try.f44 real []) (X_ok sp_nil) mixed Try.func44 rfl rfl (by kernel_rfl) ?_
  intro l c rs hg hc
  unfold g44 at hg
  split at hg
  · cases hg; exact ⟨Nat.le_of_ble_eq_true rfl, [], [], c44 _⟩
  · cases hg
theorem ok44 : SpecsOK Try.prog [(44, s44 real us)] := sp_cons r44 k44 sp_nil
end Go.Proofs.Ytegnmmfjbncgnaa
