/- A part of the proof of given statements: a verified condition generator for the model, and contracts of the program's functions. No condition. -/
import Derived.Test.YtegnmmfjbncgnaaV1
set_option linter.unusedVariables false
set_option linter.unusedSimpArgs false
set_option maxRecDepth 100000
namespace Go.Proofs.Ytegnmmfjbncgnaa
open Go Go.Vc
/-- reading a number off a row of the caller's own, long enough -/
def g22 (F : Fs) (U : Us) : HLaw := fun l mm => match l, mm with
  | [.rw 0, .i n], [.row T e (.bt xs)] => match Nat.beq T 5, Nat.beq e 1 with
    | true, true => some (F.pLe (F.nat (U.wid n)) (F.lenB xs), [.val (.w64 (U.gv (F.cutB xs 0 (F.nat (U.wid n))))), .val (.sl 0 0 0 1 (F.nat (U.wid n)) (F.subn (F.lenB xs) (F.nat (U.wid n)))), .val (.i (F.int 0))], [none])
    | _, _ => none
  | _, _ => none
def X1 (fn : Func) (F : Fs) (sp : Specs) : Cx := ⟨fn.ntmps, tt F, sp, [], [], [0], []⟩
theorem X1_ok {fn : Func} {sp : Specs} (h : SpecsOK Try.prog sp) : XOK Try.prog (X1 fn real sp) := ⟨tt_ok, h, ks_nil⟩
def an22 (F : Fs) (U : Us) (xs : List UInt8) (n : Int) : Anns := [(6, ⟨Nat, fun i => i ≤ F.nat (U.wid n), fun i => F.subn (F.nat (U.wid n)) i, fun i =>
  ⟨[(0, .rw 0), (1, .i n), (7, .i (U.wid n)), (8, .w64 (U.gv (F.cutB xs 0 i))), (20, .sl 0 0 0 1 0 (F.nat (U.wid n))), (21, .i (U.wid n)), (22, .i (F.int i))], [(0, 0, .row 5 1 (.bt xs))]⟩⟩)]
theorem wid_nat (n : Int) : us.wid n = ((us.wid n).toNat : Int) := by
  simp only [us]; omega
theorem gv_step (xs : List UInt8) (i : Nat) (h : i < xs.length) : UInt64.ofNat ((us.gv ((xs.drop 0).take i)).toNat * 2 ^ (min ((real.toI64 (real.ofI64 (real.int 8))).toNat) 64)) ||| UInt64.ofNat (((xs.getD i 0).toNat : Int) % 2 ^ 64).toNat = us.gv ((xs.drop 0).take (i + 1)) := by
  have e8 : (real.toI64 (real.ofI64 (real.int 8))).toNat = 8 := by decide
  rw [e8]
  simp only [us, List.drop_zero]
  rw [List.take_add_one, List.foldl_append]
  generalize List.foldl _ _ _ = y
  have hg : xs[i]? = some (xs.getD i 0) := by simp [List.getD, h]
  rw [hg]
  simp only [Option.toList_some, List.foldl_cons, List.foldl_nil]
  congr 1
  · apply UInt64.toNat_inj.1
    simp [Nat.shiftLeft_eq]
  · congr 1
    have := (xs.getD i 0).toNat_lt
    omega
theorem c22 (xs : List UInt8) (n : Int) (hn : real.pLe (real.nat (us.wid n)) (real.lenB xs)) : vc real (X1 Try.f22 real [(44, s44 real us)]) (an22 real us xs n) [] (Try.f22.body.getD .skip) ⟨zipSl 0 [.rw 0, .i n], zipMe 0 [.row 5 1 (.bt xs)], 64⟩
    (retHOk real (tt real) Try.f22.results.toList [.row 5 1 (.bt xs)] [.val (.w64 (us.gv (real.cutB xs 0 (real.nat (us.wid n))))), .val (.sl 0 0 0 1 (real.nat (us.wid n)) (real.subn (real.lenB xs) (real.nat (us.wid n)))), .val (.i (real.int 0))] [none]) := by
  generalize hU : us = U
  generalize hF : real = F
  cbv
  have hn' : F.nat (U.wid n) ≤ F.lenB xs := by subst hF hU; exact hn
  refine ⟨.inl ?_, .inr ⟨⟨⟨?_, ?_⟩, trivial⟩, ⟨(0 : Nat), ?_⟩, fun (i : Nat) hi => ?_⟩⟩
  · subst hF hU
    simp only [real, us, Nat.le_eq, Nat.succ_eq_add_one, Int.cast_ofNat_Int] at *
    simp only [decide_eq_false_iff_not]
    omega
  · subst hF hU
    simp only [real, us, Nat.le_eq, Nat.succ_eq_add_one, Int.cast_ofNat_Int] at *
    omega
  · subst hF hU
    simp only [real, us, Nat.le_eq, Nat.succ_eq_add_one, Int.cast_ofNat_Int] at *
    omega
  · cbv
    subst hF hU
    simp only [real, us, Nat.le_eq, Nat.succ_eq_add_one, Int.cast_ofNat_Int] at *
    refine ⟨Nat.zero_le _, ⟨rfl, by omega, trivial⟩, trivial⟩
  · have hi : i ≤ F.nat (U.wid n) := hi
    cbv
    refine ⟨?_, ?_⟩
    · by_cases hlt : i < F.nat (U.wid n)
      · refine .inr ⟨?_, ?_, ?_, ⟨(i + 1 : Nat), ?_⟩⟩
        · subst hF hU
          simp only [real, us, Nat.le_eq, Nat.succ_eq_add_one, Int.cast_ofNat_Int] at *
          omega
        · subst hF hU
          simp only [real, us, Nat.le_eq, Nat.succ_eq_add_one, Int.cast_ofNat_Int] at *
          omega
        · subst hF hU
          simp only [real, us, Nat.le_eq, Nat.succ_eq_add_one, Int.cast_ofNat_Int] at *
          omega
        · cbv
          have hs := gv_step xs i (by subst hF hU; simp only [real] at *; omega)
          subst hF hU
          simp only [real, us, Nat.le_eq, Nat.succ_eq_add_one, Int.cast_ofNat_Int] at *
          refine ⟨by omega, by omega, ⟨?_, wrap_small (by omega) (by omega), trivial⟩, trivial⟩
          have e : (0 + ((i : Int)).toNat) = i := by omega
          rw [e]
          exact hs
      · left
        subst hF hU
        simp only [real, us, Nat.le_eq, Nat.succ_eq_add_one, Int.cast_ofNat_Int] at *
        simp only [decide_eq_false_iff_not]
        omega
    · by_cases hlt : i < F.nat (U.wid n)
      · left
        subst hF hU
        simp only [real, us, Nat.le_eq, Nat.succ_eq_add_one, Int.cast_ofNat_Int] at *
        simp only [decide_eq_true_eq]
        omega
      · right
        have hi' : i = F.nat (U.wid n) := Nat.le_antisymm hi (Nat.le_of_not_lt hlt)
        clear hi hlt
        subst hF hU
        simp only [real, us, Nat.le_eq, Nat.succ_eq_add_one, Int.cast_ofNat_Int] at *
        refine ⟨⟨⟨by omega, by omega⟩, trivial⟩, ⟨by rw [hi'], trivial⟩, trivial⟩
theorem r22 : Ready Try.prog 22 := by unfold Ready; kernel_rfl
def s22 (F : Fs) (U : Us) : Vc.Spec := hSpec 1 (g22 F U)
theorem k22 : SpecOK Try.prog 22 (s22 real us) := by
  refine h_sound (x := X1 Try.f22 real [(44, s44 real us)]) (X1_ok ok44) mixed Try.func22 rfl rfl (by kernel_rfl) (by decide) (fun j hj => by simp [X1]; omega) ?_
  intro l mm c rs ch hg hl hc
  unfold g22 at hg
  split at hg
  · split at hg
    · rename_i h1 h2
      have e1 := beq_nat h1; have e2 := beq_nat h2; subst e1; subst e2
      cases hg
      exact ⟨Nat.le_of_ble_eq_true rfl, an22 real us _ _, [], c22 _ _ hc⟩
    · cases hg
  · cases hg
def g17 (U : Us) : Law
  | [.w32 x] => some (True, [.val (.ag 4 (.bt (U.putBig x)))])
  | _ => none
def s17 (F : Fs) (U : Us) : Vc.Spec := pureSpec F false [.keep] (g17 U)
theorem r17 : Ready Try.prog 17 := by unfold Ready; kernel_rfl
theorem c17 (x : UInt32) : vc real (X Try.f17 real []) [] [] (Try.f17.body.getD .skip) ⟨zipSl 0 [.w32 x], [], 64⟩ (retOk real (tt real) false Try.f17.results.toList [.val (.ag 4 (.bt (us.putBig x)))]) := by
  generalize hU : us = U
  generalize hF : real = F
  cbv
  subst hF hU
  simp only [real, us, Int.cast_ofNat_Int]
  refine ⟨by omega, by omega, by omega, trivial, trivial⟩
theorem k17 : SpecOK Try.prog 17 (s17 real us) := by
  refine pure_sound (x := X Try.f17 real []) (X_ok sp_nil) mixed Try.func17 rfl rfl (by kernel_rfl) ?_
  intro l c rs hg hc
  unfold g17 at hg
  split at hg
  · cases hg; exact ⟨Nat.le_of_ble_eq_true rfl, [], [], c17 _⟩
  · cases hg
def sp14 (F : Fs) (U : Us) : Specs := [(15, s15 F U), (16, s16 F U), (17, s17 F U), (19, s19 F U), (20, s20 F U), (22, s22 F U)]
theorem ok14 : SpecsOK Try.prog (sp14 real us) := sp_cons r15 k15 (sp_cons r16 k16 (sp_cons r17 k17 (sp_cons r19 k19 (sp_cons r20 k20 (sp_cons r22 k22 sp_nil)))))
def g14 : Law
  | [] => some (True, [.val (.kb true)])
  | _ => none
def s14 (F : Fs) : Vc.Spec := pureSpec F false [] g14
theorem r14 : Ready Try.prog 14 := by unfold Ready; kernel_rfl
end Go.Proofs.Ytegnmmfjbncgnaa
