/- A part of the proof of given statements: a verified condition generator for the model, and contracts of the program's functions. No condition. -/
import Derived.Test.YtegnmmfjbncgnaaPart3
import Derived.Carry
import Derived.OpenShut
import Derived.WideShapes
import Derived.ChangeOld
set_option linter.unusedVariables false
set_option linter.unusedSimpArgs false
set_option maxRecDepth 100000
set_option maxHeartbeats 4000000
namespace Go.Proofs.Ytegnmmfjbncgnaa
open Go Go.Vc
theorem kwP_len (k : List UInt8) : ∀ i, (u_kwP k i).length = 16
  | 0 => rfl
  | i + 1 => by rw [u_kwP, List.length_set, kwP_len k i]
theorem nwP_len (k n : List UInt8) (c : UInt32) : ∀ i, (u_nwP k n c i).length = 16
  | 0 => by rw [u_nwP, u_cw, List.length_set, kwP_len]
  | i + 1 => by rw [u_nwP, List.length_set, nwP_len k n c i]
theorem little_len (xs : List UInt8) : (four xs).length = 4 := by simp [four]
theorem outP_len (a b : List UInt32) : ∀ i, i ≤ 16 → (u_outP a b i).length = 64
  | 0, _ => by simp [u_outP]
  | i + 1, h => by
    have := outP_len a b i (by omega)
    have e : (u_putLittle (b.getD i 0 + a.getD i 0)).length = 4 := rfl
    simp only [u_outP, List.length_append, List.length_take, List.length_drop, e]
    omega
theorem kw_step (k : List UInt8) (i : Nat) (h : i < 8) (hk : k.length = 32) : (u_kwP k i).set (IntKind.i64.wrap (4 + (i : Int))).toNat (u_little (List.take (32 - (IntKind.i64.wrap (4 * (i : Int))).toNat) (List.drop (IntKind.i64.wrap (4 * (i : Int))).toNat k))) = u_kwP k (i + 1) := by
  rw [wrap_sm (by omega) (by omega), wrap_sm (by omega) (by omega), show (4 + (i : Int)).toNat = 4 + i by omega, show (4 * (i : Int)).toNat = 4 * i by omega, List.take_of_length_le (by rw [List.length_drop]; omega)]
  rfl
theorem nw_step (k n : List UInt8) (c : UInt32) (i : Nat) (h : i < 3) (hn : n.length = 12) : (u_nwP k n c i).set (IntKind.i64.wrap (13 + (i : Int))).toNat (u_little (List.take (12 - (IntKind.i64.wrap (4 * (i : Int))).toNat) (List.drop (IntKind.i64.wrap (4 * (i : Int))).toNat n))) = u_nwP k n c (i + 1) := by
  rw [wrap_sm (by omega) (by omega), wrap_sm (by omega) (by omega), show (13 + (i : Int)).toNat = 13 + i by omega, show (4 * (i : Int)).toNat = 4 * i by omega, List.take_of_length_le (by rw [List.length_drop]; omega)]
  rfl
theorem r_stream_first : Ready Try.prog 45 := by unfold Ready; kernel_rfl
noncomputable def sp_stream_first (F : Fs) (U : Us) : Specs := [(20, s_bits_Little F U)]
theorem ok_stream_first : SpecsOK Try.prog (sp_stream_first real us) := sp_cons r_bits_Little k_bits_Little sp_nil
noncomputable def an_stream_first (F : Fs) (U : Us) (k n : List UInt8) (c : UInt32) : Anns := [(3, ⟨Nat, fun i => i ≤ 8, fun i => F.subn 8 i, fun i => ⟨[(2, .w32 c), (3, .p 0 0 0), (4, .p 1 0 0), (6, .p 2 0 0), (7, .p 3 0 0), (11, .i (F.int i))], [(3, 0, .bk 51 [(32, .bt k)]), (4, 1, .bk 53 [(12, .bt n)]), (6, 2, .bk 68 [(16, .wd (F.repW 16))]), (7, 3, .bk 68 [(16, .wd (U.kwP k i))])]⟩⟩),
  (9, ⟨Nat, fun i => i ≤ 3, fun i => F.subn 3 i, fun i => ⟨[(4, .p 1 0 0), (6, .p 2 0 0), (7, .p 3 0 0), (24, .i (F.int i))], [(4, 1, .bk 53 [(12, .bt n)]), (6, 2, .bk 68 [(16, .wd (F.repW 16))]), (7, 3, .bk 68 [(16, .wd (U.nwP k n c i))])]⟩⟩)]
noncomputable def g_stream_first (F : Fs) (U : Us) : Law
  | [.ag 32 (.bt k), .ag 12 (.bt n), .w32 c] => some (U.isL k 32 ∧ U.isL n 12, [.val (.ag 16 (.wd (U.nwP k n c 3)))])
  | _ => none
noncomputable def s_stream_first (F : Fs) (U : Us) : Vc.Spec := pureSpec F false [.keep, .keep, .keep] (g_stream_first F U)
noncomputable def x_stream_first (F : Fs) (U : Us) : Cx := ⟨Try.f45.ntmps, tt F, sp_stream_first F U, [], [], [], []⟩
theorem c_stream_first (k n : List UInt8) (c : UInt32) (hc : us.isL k 32 ∧ us.isL n 12) : vc real (x_stream_first real us) (an_stream_first real us k n c) [] (Try.f45.body.getD .skip) ⟨zipSl 0 [.ag 32 (.bt k), .ag 12 (.bt n), .w32 c], [], 64⟩ (retOk real (tt real) false Try.f45.results.toList [.val (.ag 16 (.wd (us.nwP k n c 3)))]) := by
  generalize hU : us = U
  generalize hF : real = F
  have hk : k.length = 32 := hc.1
  have hn : n.length = 12 := hc.2
  cbv
  repeat' first | apply And.intro | refine Classical.or_iff_not_imp_left.2 (fun _ => ?_) | exact trivial
  all_goals try (subst hF hU; simp only [real, us, Nat.le_eq, Int.cast_ofNat_Int, decide_eq_false_iff_not, decide_eq_true_eq, List.length_take, List.length_drop, List.length_append, List.length_replicate, List.length_set, List.length_cons, List.length_nil, List.length_zipWith] at *; (try simp (disch := omega) only [wrap_sm] at *); omega)
  · refine ⟨(0 : Nat), ?_⟩
    cbv
    subst hF hU
    simp only [real, us]
    exact ⟨⟨by rw [u_kwP]; decide, trivial⟩, trivial⟩
  · intro (i : Nat) hi
    replace hi : i ≤ 8 := hi
    have hl := kwP_len k i
    cbv
    repeat' first | apply And.intro | refine Classical.or_iff_not_imp_left.2 (fun _ => ?_) | exact trivial
    all_goals try (subst hF hU; simp only [real, us, Nat.le_eq, Int.cast_ofNat_Int, decide_eq_false_iff_not, decide_eq_true_eq, List.length_take, List.length_drop, List.length_append, List.length_replicate, List.length_set, List.length_cons, List.length_nil, List.length_zipWith] at *; (try simp (disch := omega) only [wrap_sm] at *); omega)
    · refine ⟨(i + 1 : Nat), ?_⟩
      cbv; subst hF hU; simp only [real, us, Nat.le_eq, Int.cast_ofNat_Int, decide_eq_false_iff_not, decide_eq_true_eq] at *
      exact ⟨by omega, by omega, ⟨wrap_sm (by omega) (by omega), trivial⟩, ⟨kw_step k i (by omega) hk, trivial⟩, trivial⟩
    · refine ⟨(0 : Nat), ?_⟩
      cbv; subst hF hU; simp only [real, us, Nat.le_eq, Int.cast_ofNat_Int, decide_eq_false_iff_not, decide_eq_true_eq] at *
      have e : i = 8 := by omega
      rw [e]
      exact ⟨⟨rfl, trivial⟩, trivial⟩
    · intro (j : Nat) hj
      replace hj : j ≤ 3 := hj
      have hlj := nwP_len k n c j
      cbv
      repeat' first | apply And.intro | refine Classical.or_iff_not_imp_left.2 (fun _ => ?_) | exact trivial
      all_goals try (subst hF hU; simp only [real, us, Nat.le_eq, Int.cast_ofNat_Int, decide_eq_false_iff_not, decide_eq_true_eq, List.length_take, List.length_drop, List.length_append, List.length_replicate, List.length_set, List.length_cons, List.length_nil, List.length_zipWith] at *; (try simp (disch := omega) only [wrap_sm] at *); omega)
      · refine ⟨(j + 1 : Nat), ?_⟩
        cbv; subst hF hU; simp only [real, us, Nat.le_eq, Int.cast_ofNat_Int, decide_eq_false_iff_not, decide_eq_true_eq] at *
        exact ⟨by omega, by omega, ⟨wrap_sm (by omega) (by omega), trivial⟩, ⟨nw_step k n c j (by omega) hn, trivial⟩, trivial⟩
      · subst hF hU; simp only [real, us, Nat.le_eq, Int.cast_ofNat_Int, decide_eq_false_iff_not, decide_eq_true_eq] at *
        have e : j = 3 := by omega
        rw [e]
theorem k_stream_first : SpecOK Try.prog 45 (s_stream_first real us) := by
  refine pure_sound (x := x_stream_first real us) ⟨tt_ok, ok_stream_first, Go.Vc.ks_nil⟩ mixed Try.func45 rfl rfl (by kernel_rfl) ?_
  intro l c rs hg hc
  unfold g_stream_first at hg
  split at hg
  · cases hg; exact ⟨Nat.le_of_ble_eq_true rfl, an_stream_first real us _ _ _, [], c_stream_first _ _ _ hc⟩
  · cases hg

end Go.Proofs.Ytegnmmfjbncgnaa
set_option linter.unusedVariables false
set_option linter.unusedSimpArgs false
set_option maxRecDepth 100000
set_option maxHeartbeats 4000000
namespace Go.Proofs.Ytegnmmfjbncgnaa
open Go Go.Vc
theorem nw16 (k n : List UInt8) (c : UInt32) (i : Nat) : u_is16 (u_rndP (u_nwP k n c 3) i) := by
  show (u_rndP (u_nwP k n c 3) i).length = 16
  rw [rndP_len, nwP_len]
theorem out_step (o f : List UInt8) (hf : f.length = 4) (j : Nat) (h : j < 16) : List.take (IntKind.i64.wrap (4 * (j : Int))).toNat o ++ List.take (min (List.take 4 (List.drop 0 f)).length (64 - (IntKind.i64.wrap (4 * (j : Int))).toNat)) (List.drop 0 (List.take 4 (List.drop 0 f))) ++
    List.drop ((IntKind.i64.wrap (4 * (j : Int))).toNat + (List.take (min (List.take 4 (List.drop 0 f)).length (64 - (IntKind.i64.wrap (4 * (j : Int))).toNat)) (List.drop 0 (List.take 4 (List.drop 0 f)))).length) o = o.take (4 * j) ++ f ++ o.drop (4 * j + 4) := by
  rw [wrap_sm (by omega) (by omega), show (4 * (j : Int)).toNat = 4 * j by omega, List.drop_zero, List.drop_zero, List.take_of_length_le (show f.length ≤ 4 by omega), hf, Nat.min_eq_left (by omega), List.take_of_length_le (show f.length ≤ 4 by omega), hf]
theorem r_stream_Block : Ready Try.prog 37 := by unfold Ready; kernel_rfl
noncomputable def sp_stream_Block (F : Fs) (U : Us) : Specs := [(45, s_stream_first F U), (46, s_stream_words_round F U), (18, s_bits_PutLittle F U)]
theorem ok_stream_Block : SpecsOK Try.prog (sp_stream_Block real us) := sp_cons r_stream_first k_stream_first (sp_cons r_stream_words_round k_stream_words_round (sp_cons r_bits_PutLittle k_bits_PutLittle sp_nil))
noncomputable def an_stream_Block (F : Fs) (U : Us) (k n : List UInt8) (c : UInt32) : Anns := [(4, ⟨Nat, fun i => i ≤ 10, fun i => F.subn 10 i, fun i => ⟨[(6, .p 0 0 0), (7, .p 1 0 0), (8, .p 2 0 0), (18, .i (F.int i))], [(6, 0, .bk 56 [(64, .bt (F.repB 64))]), (7, 1, .bk 68 [(16, .wd (U.nwP k n c 3))]), (8, 2, .bk 68 [(16, .wd (U.rndP (U.nwP k n c 3) i))])]⟩⟩),
  (9, ⟨Nat, fun i => i ≤ 16, fun i => F.subn 16 i, fun i => ⟨[(6, .p 0 0 0), (7, .p 1 0 0), (9, .p 2 0 0), (22, .ag 16 (.wd (U.rndP (U.nwP k n c 3) 10))), (23, .i (F.int i))], [(6, 0, .bk 56 [(64, .bt (F.repB 64))]), (7, 1, .bk 68 [(16, .wd (U.nwP k n c 3))]), (9, 2, .bk 56 [(64, .bt (U.outP (U.nwP k n c 3) (U.rndP (U.nwP k n c 3) 10) i))])]⟩⟩)]
noncomputable def g_stream_Block (F : Fs) (U : Us) : Law
  | [.ag 32 (.bt k), .ag 12 (.bt n), .w32 c] => some (U.isL k 32 ∧ U.isL n 12, [.val (.ag 64 (.bt (U.block k n c)))])
  | _ => none
noncomputable def s_stream_Block (F : Fs) (U : Us) : Vc.Spec := pureSpec F false [.keep, .keep, .keep] (g_stream_Block F U)
noncomputable def x_stream_Block (F : Fs) (U : Us) : Cx := ⟨Try.f37.ntmps, tt F, sp_stream_Block F U, [], [(12, ([(3, [2])], []))], [], []⟩
theorem c_stream_Block (k n : List UInt8) (c : UInt32) (hc : us.isL k 32 ∧ us.isL n 12) : vc real (x_stream_Block real us) (an_stream_Block real us k n c) [] (Try.f37.body.getD .skip) ⟨zipSl 0 [.ag 32 (.bt k), .ag 12 (.bt n), .w32 c], [], 64⟩ (retOk real (tt real) false Try.f37.results.toList [.val (.ag 64 (.bt (us.block k n c)))]) := by
  generalize hU : us = U
  generalize hF : real = F
  have hk : k.length = 32 := hc.1
  have hn : n.length = 12 := hc.2
  cbv
  repeat' first | apply And.intro | refine Classical.or_iff_not_imp_left.2 (fun _ => ?_) | exact trivial
  · subst hU; exact hk
  · subst hU; exact hn
  · refine ⟨(0 : Nat), ?_⟩
    cbv
    subst hF hU
    exact ⟨⟨rfl, trivial⟩, trivial⟩
  · intro (i : Nat) hi
    replace hi : i ≤ 10 := hi
    cbv
    repeat' first | apply And.intro | refine Classical.or_iff_not_imp_left.2 (fun _ => ?_) | exact trivial
    all_goals try (subst hF hU; simp only [real, us, Nat.le_eq, Int.cast_ofNat_Int, decide_eq_false_iff_not, decide_eq_true_eq, List.length_take, List.length_drop, List.length_append, List.length_replicate, List.length_set, List.length_cons, List.length_nil, List.length_zipWith] at *; (try simp (disch := omega) only [wrap_sm] at *); omega)
    · subst hU; exact nw16 k n c i
    · refine ⟨(i + 1 : Nat), ?_⟩
      cbv; subst hF hU; simp only [real, us, Nat.le_eq, Int.cast_ofNat_Int, decide_eq_false_iff_not, decide_eq_true_eq] at *
      exact ⟨by omega, by omega, ⟨wrap_sm (by omega) (by omega), trivial⟩, ⟨rfl, trivial⟩, trivial⟩
    · refine ⟨(0 : Nat), ?_⟩
      cbv; subst hF hU; simp only [real, us, Nat.le_eq, Int.cast_ofNat_Int, decide_eq_false_iff_not, decide_eq_true_eq] at *
      have e : i = 10 := by omega
      rw [e]
      exact ⟨⟨rfl, trivial⟩, ⟨rfl, trivial⟩, trivial⟩
    · intro (j : Nat) hj
      replace hj : j ≤ 16 := hj
      cbv
      repeat' first | apply And.intro | refine Classical.or_iff_not_imp_left.2 (fun _ => ?_) | exact trivial
      all_goals try (subst hF hU; simp only [real, us, Nat.le_eq, Int.cast_ofNat_Int, decide_eq_false_iff_not, decide_eq_true_eq, List.length_take, List.length_drop, List.length_append, List.length_replicate, List.length_set, List.length_cons, List.length_nil, List.length_zipWith] at *; (try simp (disch := omega) only [wrap_sm] at *); omega)
      · subst hF hU; exact Nat.le_refl 4
      · refine ⟨(j + 1 : Nat), ?_⟩
        cbv; subst hF hU; simp only [real, us, Nat.le_eq, Int.cast_ofNat_Int, decide_eq_false_iff_not, decide_eq_true_eq] at *
        exact ⟨by omega, by omega, ⟨wrap_sm (by omega) (by omega), trivial⟩, ⟨out_step _ _ rfl j (by omega), trivial⟩, trivial⟩
      · subst hF hU; simp only [real, us, Nat.le_eq, Int.cast_ofNat_Int, decide_eq_false_iff_not, decide_eq_true_eq] at *
        have e : j = 16 := by omega
        rw [e]
        rfl
theorem k_stream_Block : SpecOK Try.prog 37 (s_stream_Block real us) := by
  refine pure_sound (x := x_stream_Block real us) ⟨tt_ok, ok_stream_Block, Go.Vc.ks_nil⟩ mixed Try.func37 rfl rfl (by kernel_rfl) ?_
  intro l c rs hg hc
  unfold g_stream_Block at hg
  split at hg
  · cases hg; exact ⟨Nat.le_of_ble_eq_true rfl, an_stream_Block real us _ _ _, [], c_stream_Block _ _ _ hc⟩
  · cases hg

end Go.Proofs.Ytegnmmfjbncgnaa
set_option linter.unusedVariables false
set_option linter.unusedSimpArgs false
set_option maxRecDepth 100000
set_option maxHeartbeats 4000000
namespace Go.Proofs.Ytegnmmfjbncgnaa
open Go Go.Vc
theorem block_len (k n : List UInt8) (c : UInt32) : (u_block k n c).length = 64 := outP_len _ _ 16 (by omega)
theorem ks_len (k n : List UInt8) (c : UInt32) (m : Nat) : (u_ks k n c m).length = m := by simp [u_ks]
theorem sx_len (k n : List UInt8) (c : UInt32) (xs : List UInt8) : (u_sx k n c xs).length = xs.length := by simp [u_sx, ks_len]
theorem cnt_zero (c : UInt32) : c = u_cnt c 0 := by
  show c = c + 0
  rw [UInt32.add_zero]
theorem cnt_succ (c : UInt32) (i : Nat) : u_cnt c i + 1 = u_cnt c (i + 1) := by
  simp only [u_cnt]
  rw [UInt32.add_assoc]
  congr 1
  rw [UInt32.ofNat_add]
  rfl
theorem sx_step (k n : List UInt8) (c : UInt32) (xs : List UInt8) (i m : Nat) (hm : m = min (xs.length - 64 * i) 64) :
    List.zipWith (fun a b => a ^^^ b) ((xs.drop (64 * i)).take m) (u_block k n (u_cnt c i)) = ((u_sx k n c xs).drop (64 * i)).take m := by
  apply List.ext_getElem?
  intro j
  rw [List.getElem?_zipWith, List.getElem?_take, List.getElem?_take]
  by_cases h : j < m
  · rw [if_pos h, if_pos h, List.getElem?_drop, List.getElem?_drop]
    simp only [u_sx]
    rw [List.getElem?_zipWith]
    have hx : 64 * i + j < xs.length := by omega
    rw [List.getElem?_eq_getElem hx]
    have hk : (u_ks k n c xs.length)[64 * i + j]? = some ((u_block k n (u_cnt c i)).getD j 0) := by
      simp only [u_ks, List.getElem?_map, List.getElem?_range hx, Option.map_some]
      rw [show (64 * i + j) / 64 = i by omega, show (64 * i + j) % 64 = j by omega]
      rfl
    rw [hk]
    have hb : (u_block k n (u_cnt c i))[j]? = some ((u_block k n (u_cnt c i)).getD j 0) := by
      rw [List.getD_eq_getElem?_getD, List.getElem?_eq_getElem (by rw [block_len]; omega)]; rfl
    rw [hb]
  · rw [if_neg h, if_neg h]
theorem sx_next (k n : List UInt8) (c : UInt32) (xs : List UInt8) (i : Nat) (h : 64 * i < xs.length) :
    List.take ((List.take (xs.length - 64 * i) (List.drop (64 * i) xs)).length - (if 64 < ((List.take (xs.length - 64 * i) (List.drop (64 * i) xs)).length : Int) then 64 else ((List.take (xs.length - 64 * i) (List.drop (64 * i) xs)).length : Int)).toNat)
      (List.drop (if 64 < ((List.take (xs.length - 64 * i) (List.drop (64 * i) xs)).length : Int) then 64 else ((List.take (xs.length - 64 * i) (List.drop (64 * i) xs)).length : Int)).toNat (List.take (xs.length - 64 * i) (List.drop (64 * i) xs))) =
        List.take (xs.length - 64 * (i + 1)) (List.drop (64 * (i + 1)) xs) ∧
    List.take (64 * i) (List.drop 0 (u_sx k n c xs)) ++ List.zipWith (fun a b => a ^^^ b) (List.take (if 64 < ((List.take (xs.length - 64 * i) (List.drop (64 * i) xs)).length : Int) then 64 else ((List.take (xs.length - 64 * i) (List.drop (64 * i) xs)).length : Int)).toNat (List.drop 0 (List.take (xs.length - 64 * i) (List.drop (64 * i) xs))))
      (List.take 64 (List.drop 0 (u_block k n (u_cnt c i)))) = List.take (64 * (i + 1)) (List.drop 0 (u_sx k n c xs)) := by
  have hR : List.take (xs.length - 64 * i) (List.drop (64 * i) xs) = List.drop (64 * i) xs := List.take_of_length_le (by rw [List.length_drop]; omega)
  rw [hR]
  have hM : (if 64 < ((List.drop (64 * i) xs).length : Int) then 64 else ((List.drop (64 * i) xs).length : Int)).toNat = min (xs.length - 64 * i) 64 := by
    rw [List.length_drop]; split <;> omega
  rw [hM]
  generalize hm : min (xs.length - 64 * i) 64 = m
  have hsl := sx_len k n c xs
  constructor
  · rw [List.drop_drop, List.length_drop]
    by_cases h64 : 64 ≤ xs.length - 64 * i
    · have e : m = 64 := by omega
      subst e
      rw [show 64 * i + 64 = 64 * (i + 1) by omega]
      congr 1
    · rw [List.drop_of_length_le (by omega), List.drop_of_length_le (show xs.length ≤ 64 * (i + 1) by omega)]
      simp
  · rw [List.drop_zero, List.drop_zero, List.drop_zero, List.take_of_length_le (show (u_block k n (u_cnt c i)).length ≤ 64 by rw [block_len]; omega), sx_step k n c xs i m hm.symm, ← List.take_add]
    by_cases h64 : 64 ≤ xs.length - 64 * i
    · congr 1; omega
    · rw [List.take_of_length_le (by omega), List.take_of_length_le (by omega)]
theorem r_stream_Xor : Ready Try.prog 39 := by unfold Ready; kernel_rfl
noncomputable def sp_stream_Xor (F : Fs) (U : Us) : Specs := [(37, s_stream_Block F U), (21, s_bits_Xor F U)]
theorem ok_stream_Xor : SpecsOK Try.prog (sp_stream_Xor real us) := sp_cons r_stream_Block k_stream_Block (sp_cons r_bits_Xor k_bits_Xor sp_nil)
noncomputable def an_stream_Xor (F : Fs) (U : Us) (k n : List UInt8) (c : UInt32) (xs : List UInt8) : Anns := [(2, ⟨Nat, fun i => F.pLe (F.muln 64 i) (F.addn (F.lenB xs) 63), fun i => F.subn (F.lenB xs) (F.muln 64 i), fun i => ⟨[(2, .w32 (U.cnt c i)), (3, .rb 1 (.bt (F.cutB xs (F.muln 64 i) (F.subn (F.lenB xs) (F.muln 64 i))))), (4, .p 0 0 0), (5, .p 1 0 0), (9, .rw 2)], [(4, 0, .bk 51 [(32, .bt k)]), (5, 1, .bk 53 [(12, .bt n)]), (9, 2, .row 5 1 (.bt (F.cutB (U.sx k n c xs) 0 (F.muln 64 i))))]⟩⟩)]
noncomputable def g_stream_Xor (F : Fs) (U : Us) : Law
  | [.ag 32 (.bt k), .ag 12 (.bt n), .w32 c, .rb 1 (.bt xs)] => some ((U.isL k 32 ∧ U.isL n 12) ∧ F.pLe (F.lenB xs) 1000000, [.row 5 1 (.bt (U.sx k n c xs))])
  | _ => none
noncomputable def s_stream_Xor (F : Fs) (U : Us) : Vc.Spec := pureSpec F false [.keep, .keep, .keep, .row .kB] (g_stream_Xor F U)
noncomputable def x_stream_Xor (F : Fs) (U : Us) : Cx := ⟨Try.f39.ntmps, tt F, sp_stream_Xor F U, [], [(5, ([(5, [4])], []))], [], []⟩
theorem c_stream_Xor (k n : List UInt8) (c : UInt32) (xs : List UInt8) (hc : (us.isL k 32 ∧ us.isL n 12) ∧ real.pLe (real.lenB xs) 1000000) : vc real (x_stream_Xor real us) (an_stream_Xor real us k n c xs) [] (Try.f39.body.getD .skip) ⟨zipSl 0 [.ag 32 (.bt k), .ag 12 (.bt n), .w32 c, .rb 1 (.bt xs)], [], 64⟩ (retOk real (tt real) false Try.f39.results.toList [.row 5 1 (.bt (us.sx k n c xs))]) := by
  generalize hU : us = U
  generalize hF : real = F
  have hk : k.length = 32 := hc.1.1
  have hn : n.length = 12 := hc.1.2
  have hx : xs.length ≤ 1000000 := hc.2
  have hsl := sx_len k n c xs
  cbv
  repeat' first | apply And.intro | refine Classical.or_iff_not_imp_left.2 (fun _ => ?_) | exact trivial
  all_goals try (subst hF hU; simp only [real, us, Nat.le_eq, Int.cast_ofNat_Int, decide_eq_false_iff_not, decide_eq_true_eq, List.length_take, List.length_drop, List.length_append, List.length_replicate, List.length_set, List.length_cons, List.length_nil, List.length_zipWith] at *; (try simp (disch := omega) only [wrap_sm] at *); omega)
  · refine ⟨(0 : Nat), ?_⟩
    cbv; subst hF hU; simp only [real, us, Nat.le_eq, Int.cast_ofNat_Int, decide_eq_false_iff_not, decide_eq_true_eq] at *
    exact ⟨by omega, ⟨cnt_zero c, by simp, trivial⟩, by simp, trivial⟩
  · intro (i : Nat) hi
    replace hi : F.pLe (F.muln 64 i) (F.addn (F.lenB xs) 63) := hi
    have hbl := block_len k n (u_cnt c i)
    cbv
    repeat' first | apply And.intro | refine Classical.or_iff_not_imp_left.2 (fun _ => ?_) | exact trivial
    all_goals try (subst hF hU; simp only [real, us, Nat.le_eq, Int.cast_ofNat_Int, decide_eq_false_iff_not, decide_eq_true_eq, List.length_take, List.length_drop, List.length_append, List.length_replicate, List.length_set, List.length_cons, List.length_nil, List.length_zipWith] at *; (try simp (disch := omega) only [wrap_sm] at *); omega)
    · subst hU; exact hk
    · subst hU; exact hn
    · refine ⟨(i + 1 : Nat), ?_⟩
      cbv; subst hF hU; simp only [real, us, Nat.le_eq, Int.cast_ofNat_Int, decide_eq_false_iff_not, decide_eq_true_eq] at *
      have hlt : 64 * i < xs.length := by
        simp only [List.length_take, List.length_drop] at *
        omega
      obtain ⟨h1, h2⟩ := sx_next k n c xs i hlt
      exact ⟨by omega, by omega, ⟨cnt_succ c i, h1, trivial⟩, h2, trivial⟩
    · subst hF hU; simp only [real, us, Nat.le_eq, Int.cast_ofNat_Int, decide_eq_false_iff_not, decide_eq_true_eq] at *
      simp only [List.length_take, List.length_drop] at *
      rw [List.drop_zero, List.take_of_length_le (by omega)]
theorem k_stream_Xor : SpecOK Try.prog 39 (s_stream_Xor real us) := by
  refine pure_sound (x := x_stream_Xor real us) ⟨tt_ok, ok_stream_Xor, Go.Vc.ks_nil⟩ mixed Try.func39 rfl rfl (by kernel_rfl) ?_
  intro l c rs hg hc
  unfold g_stream_Xor at hg
  split at hg
  · cases hg; exact ⟨Nat.le_of_ble_eq_true rfl, an_stream_Xor real us _ _ _ _, [], c_stream_Xor _ _ _ _ hc⟩
  · cases hg

end Go.Proofs.Ytegnmmfjbncgnaa
set_option linter.unusedVariables false
set_option linter.unusedSimpArgs false
set_option maxRecDepth 100000
set_option maxHeartbeats 4000000
namespace Go.Proofs.Ytegnmmfjbncgnaa
open Go Go.Vc
theorem upto_step (i : Nat) (h : i < 32) : (u_upto i).set ((i : Int)).toNat (UInt8.ofNat ((i : Int) % 2 ^ 8).toNat) = u_upto (i + 1) := by
  have : ∀ i : Fin 32, (u_upto i.val).set ((i.val : Int)).toNat (UInt8.ofNat ((i.val : Int) % 2 ^ 8).toNat) = u_upto (i.val + 1) := by decide +kernel
  exact this ⟨i, h⟩
theorem r_law4_known : Ready Try.prog 34 := by unfold Ready; kernel_rfl
noncomputable def sp_law4_known (F : Fs) (U : Us) : Specs := [(35, s_stream_Quarter F U), (37, s_stream_Block F U), (39, s_stream_Xor F U)]
theorem ok_law4_known : SpecsOK Try.prog (sp_law4_known real us) := sp_cons r_stream_Quarter k_stream_Quarter (sp_cons r_stream_Block k_stream_Block (sp_cons r_stream_Xor k_stream_Xor sp_nil))
noncomputable def an_law4_known (F : Fs) (U : Us)  : Anns := [(4, ⟨Nat, fun i => i ≤ 32, fun i => F.subn 32 i, fun i => ⟨[(1, .w32 (F.ofI32 (F.int 0xea2a92f4))), (2, .w32 (F.ofI32 (F.int 0xcb1cf8ce))), (3, .w32 (F.ofI32 (F.int 0x4581472e))), (4, .w32 (F.ofI32 (F.int 0x5881c4bb))), (5, .p 0 0 0), (6, .i (F.int i))], [(5, 0, .bk 51 [(32, .bt (U.upto i))])]⟩⟩)]
noncomputable def g_law4_known (F : Fs) (U : Us) : Law
  | [] => some (True, [.val (.kb true)])
  | _ => none
noncomputable def s_law4_known (F : Fs) (U : Us) : Vc.Spec := pureSpec F false [] (g_law4_known F U)
noncomputable def x_law4_known (F : Fs) (U : Us) : Cx := ⟨Try.f34.ntmps, tt F, sp_law4_known F U, [], [], [], [8]⟩
theorem c_law4_known  : vc real (x_law4_known real us) (an_law4_known real us ) [] (Try.f34.body.getD .skip) ⟨zipSl 0 [], [], 64⟩ (retOk real (tt real) false Try.f34.results.toList [.val (.kb true)]) := by
  generalize hU : us = U
  generalize hF : real = F
  cbv
  repeat' first | apply And.intro | refine Classical.or_iff_not_imp_left.2 (fun _ => ?_) | exact trivial
  · refine ⟨(0 : Nat), ?_⟩
    cbv
    subst hF hU
    refine ⟨⟨?_, ?_, ?_, ?_, trivial⟩, ?_, trivial⟩
    all_goals decide +kernel
  · intro (i : Nat) hi
    replace hi : i ≤ 32 := hi
    cbv
    repeat' first | apply And.intro | refine Classical.or_iff_not_imp_left.2 (fun _ => ?_) | exact trivial
    all_goals try (subst hF hU; simp only [real, us, Nat.le_eq, Int.cast_ofNat_Int, decide_eq_false_iff_not, decide_eq_true_eq, List.length_take, List.length_drop, List.length_append, List.length_replicate, List.length_set, List.length_cons, List.length_nil, List.length_zipWith] at *; (try simp (disch := omega) only [wrap_sm] at *); omega)
    · refine ⟨(i + 1 : Nat), ?_⟩
      cbv; subst hF hU; simp only [real, us, Nat.le_eq, Int.cast_ofNat_Int, decide_eq_false_iff_not, decide_eq_true_eq] at *
      exact ⟨by omega, by omega, ⟨wrap_sm (by omega) (by omega), trivial⟩, ⟨upto_step i (by omega), trivial⟩, trivial⟩
    all_goals subst hF hU
    all_goals have hi32 : i = 32 := by simp only [real, decide_eq_true_eq] at *; omega
    all_goals subst hi32
    all_goals simp only [real, us, u_isL]
    all_goals decide +kernel
theorem k_law4_known : SpecOK Try.prog 34 (s_law4_known real us) := by
  refine pure_sound (x := x_law4_known real us) ⟨tt_ok, ok_law4_known, Go.Vc.ks_nil⟩ mixed Try.func34 rfl rfl (by kernel_rfl) ?_
  intro l c rs hg hc
  unfold g_law4_known at hg
  split at hg
  · cases hg; exact ⟨Nat.le_of_ble_eq_true rfl, an_law4_known real us , [], c_law4_known ⟩
  · cases hg

theorem r_law4_back : Ready Try.prog 41 := by unfold Ready; kernel_rfl
noncomputable def sp_law4_back (F : Fs) (U : Us) : Specs := []
theorem ok_law4_back : SpecsOK Try.prog (sp_law4_back real us) := sp_nil
noncomputable def g_law4_back (F : Fs) (U : Us) : Law
  | [.w32 x, .w64 n] => some (F.pLt (F.nat (F.toI64 n)) 32 ∧ F.pLt 0 (F.nat (F.toI64 n)), [.val (.w32 (U.bk x n))])
  | _ => none
noncomputable def s_law4_back (F : Fs) (U : Us) : Vc.Spec := pureSpec F false [.keep, .keep] (g_law4_back F U)
noncomputable def x_law4_back (F : Fs) (U : Us) : Cx := ⟨Try.f41.ntmps, tt F, sp_law4_back F U, [], [], [], []⟩
theorem c_law4_back (x : UInt32) (n : UInt64) (hc : real.pLt (real.nat (real.toI64 n)) 32 ∧ real.pLt 0 (real.nat (real.toI64 n))) : vc real (x_law4_back real us) [] [] (Try.f41.body.getD .skip) ⟨zipSl 0 [.w32 x, .w64 n], [], 64⟩ (retOk real (tt real) false Try.f41.results.toList [.val (.w32 (us.bk x n))]) := by
  generalize hU : us = U
  generalize hF : real = F
  have h1 : n.toNat < 32 := hc.1
  have h0 : 0 < n.toNat := hc.2
  have hs : real.toI64 (real.sub64 (real.ofI64 (real.int 32)) n) = ((32 - n.toNat : Nat) : Int) := by
    show ((UInt64.ofNat ((32 : Int) % 2 ^ 64).toNat - n).toNat : Int) = _
    have h2 : ((32 : Int) % 2 ^ 64).toNat = 32 := by decide
    rw [h2]
    have h3 : (UInt64.ofNat 32).toNat = 32 := rfl
    rw [UInt64.toNat_sub_of_le _ _ (by rw [UInt64.le_iff_toNat_le, h3]; omega), h3]
  cbv
  subst hF hU
  refine ⟨?_, ?_, ?_, trivial⟩
  · show (0 : Int) ≤ ((n.toNat : Nat) : Int)
    omega
  · show (0 : Int) ≤ real.toI64 (real.sub64 (real.ofI64 (real.int 32)) n)
    rw [hs]; exact Int.natCast_nonneg _
  · show real.shr32 x ((n.toNat : Nat) : Int) ||| real.shl32 x (real.toI64 (real.sub64 (real.ofI64 (real.int 32)) n)) = u_bk x n
    rw [hs, shr32_eq x _ (by omega), shl32_eq x _ (by omega)]
    show (⟨_⟩ ||| ⟨_⟩ : UInt32) = ⟨x.toBitVec.rotateRight n.toNat⟩
    rw [BitVec.rotateRight_def, Nat.mod_eq_of_lt h1]
    rfl
theorem k_law4_back : SpecOK Try.prog 41 (s_law4_back real us) := by
  refine pure_sound (x := x_law4_back real us) ⟨tt_ok, ok_law4_back, Go.Vc.ks_nil⟩ mixed Try.func41 rfl rfl (by kernel_rfl) ?_
  intro l c rs hg hc
  unfold g_law4_back at hg
  split at hg
  · cases hg; exact ⟨Nat.le_of_ble_eq_true rfl, [], [], c_law4_back _ _ hc⟩
  · cases hg

end Go.Proofs.Ytegnmmfjbncgnaa
set_option linter.unusedVariables false
set_option linter.unusedSimpArgs false
namespace Go.Vc
open Go Go.RowKit Go.ChangeShapes Go.WideShapes
section
variable {P : Program} {w : World}
/-- a reading of a one-cell type gives such a cell -/
def Elt (P : Program) (w : World) (t : TypeId) {α : Type} (E : α → Value) (q : α → Prop) : Prop :=
  ∀ (H : Type) (enc : TypeId × Value → H) (base : Nat) (sp : Nat → Bool) (held : Bool) (fuel : Nat) (cs : List Value) (x : DataW H × List MemPlace),
    DataW.trod enc P w base sp held fuel t cs = some x → ∃ a, cs = [E a] ∧ q a
theorem u16_arg {a : Int} (h : (Lit.int .u16 a).wf = true) : ∃ x : UInt16, a = (x.toNat : Int) := by
  simp only [Lit.wf, Bool.and_eq_true, decide_eq_true_eq, IntKind.min, IntKind.max] at h
  refine ⟨UInt16.ofNat a.toNat, ?_⟩
  simp [IntKind.signed, IntKind.bits] at h
  rw [UInt16.toNat_ofNat_of_lt' (by simp [UInt16.size]; omega)]
  omega
theorem elt_i64 {t : TypeId} (ht : P.underlying t = some (.int .i64)) : Elt P w t EI (fun n => -9223372036854775808 ≤ n ∧ n ≤ 9223372036854775807) := by
  intro H enc base sp held fuel cs x h
  obtain ⟨n, rfl, _, hw⟩ := DataW.trod_int ht h
  exact ⟨n, rfl, i64_arg hw⟩
theorem elt_bool {t : TypeId} (ht : P.underlying t = some .bool) : Elt P w t Value.bool (fun _ => True) := by
  intro H enc base sp held fuel cs x h
  obtain ⟨n, rfl, _⟩ := DataW.trod_bool ht h
  exact ⟨n, rfl, trivial⟩
theorem elt_str {t : TypeId} (ht : P.underlying t = some .string) : Elt P w t ES (fun s => s.length ≤ 9223372036854775807) := by
  intro H enc base sp held fuel cs x h
  obtain ⟨s, rfl, _, hs⟩ := DataW.trod_string ht h
  refine ⟨s.data.toList, by simp [ES], ?_⟩
  simpa [maxLen] using hs
theorem elt_u8 {t : TypeId} (ht : P.underlying t = some (.int .u8)) : Elt P w t E8 (fun _ => True) := by
  intro H enc base sp held fuel cs x h
  obtain ⟨n, rfl, _, hw⟩ := DataW.trod_int ht h
  obtain ⟨y, hy⟩ := u8_arg hw
  exact ⟨y, by rw [hy], trivial⟩
theorem elt_u16 {t : TypeId} (ht : P.underlying t = some (.int .u16)) : Elt P w t E16 (fun _ => True) := by
  intro H enc base sp held fuel cs x h
  obtain ⟨n, rfl, _, hw⟩ := DataW.trod_int ht h
  obtain ⟨y, hy⟩ := u16_arg hw
  exact ⟨y, by rw [hy], trivial⟩
theorem elt_u32 {t : TypeId} (ht : P.underlying t = some (.int .u32)) : Elt P w t E32 (fun _ => True) := by
  intro H enc base sp held fuel cs x h
  obtain ⟨n, rfl, _, hw⟩ := DataW.trod_int ht h
  obtain ⟨y, hy⟩ := u32_arg hw
  exact ⟨y, by rw [hy], trivial⟩
theorem elt_u64 {t : TypeId} (ht : P.underlying t = some (.int .u64)) : Elt P w t E64 (fun _ => True) := by
  intro H enc base sp held fuel cs x h
  obtain ⟨n, rfl, _, hw⟩ := DataW.trod_int ht h
  obtain ⟨y, hy⟩ := u64_arg hw
  exact ⟨y, by rw [hy], trivial⟩
theorem drop_take_one {α : Type} {l : List α} {a : α} {i : Nat} (h : (l.drop i).take 1 = [a]) : l[i]? = some a := by
  have h1 := congrArg List.head? h
  rw [List.head?_take, if_neg (by decide), List.head?_drop] at h1
  simpa using h1
theorem list_of {α : Type} (E : α → Value) (q : α → Prop) : ∀ cs : List Value, (∀ i, i < cs.length → ∃ x, cs[i]? = some (E x) ∧ q x) → ∃ xs : List α, cs = xs.map E ∧ ∀ x ∈ xs, q x
  | [], _ => ⟨[], rfl, by simp⟩
  | c :: r, h => by
    obtain ⟨x, hx, hq⟩ := h 0 (by simp)
    obtain ⟨xs, hr, hqs⟩ := list_of E q r fun i hi => by
      obtain ⟨x, hx, hq⟩ := h (i + 1) (by simp; omega)
      exact ⟨x, by simpa using hx, hq⟩
    simp only [List.getElem?_cons_zero, Option.some.injEq] at hx
    refine ⟨x :: xs, by simp [hx, hr], fun y hy => ?_⟩
    rcases List.mem_cons.1 hy with rfl | hy
    · exact hq
    · exact hqs y hy
theorem arr_of {α : Type} {E : α → Value} {q : α → Prop} {t e : TypeId} {n : Nat} (ht : P.underlying t = some (.array n e)) (hc : P.cellsOf e = 1) (hn : P.cellsOf t = n) (hE : Elt P w e E q)
    (H : Type) (enc : TypeId × Value → H) (base : Nat) (sp : Nat → Bool) (held : Bool) (fuel : Nat) (cs : List Value) (x : DataW H × List MemPlace)
    (h : DataW.trod enc P w base sp held fuel t cs = some x) : ∃ xs : List α, cs = xs.map E ∧ xs.length = n ∧ ∀ x ∈ xs, q x := by
  obtain ⟨ys, m, rfl, rfl, hl, hyl, hel⟩ := DataW.trod_array ht h
  obtain ⟨xs, rfl, hq⟩ := list_of E q cs fun i hi => by
    have h1 := hel i (by omega)
    rw [List.getElem?_eq_getElem (by omega), hc] at h1
    obtain ⟨a, ha, hq⟩ := hE H enc base sp held m _ _ h1
    exact ⟨a, drop_take_one (by simpa using ha), hq⟩
  exact ⟨xs, rfl, by simpa [hn] using hl, hq⟩
theorem cell_ltO {a : Addr} {v : Value} (h : w.cell? a = some v) : a.block < w.heap.size := by
  unfold World.cell? at h
  split at h
  · rename_i h1; exact (Array.getElem?_eq_some_iff.1 h1).1
  · cases h
theorem stableAtTop {a : Addr} {ds : List Value} (h0 : 0 < ds.length) (h : ∀ j x, ds[j]? = some x → w.cell? (a.add j) = some x) : StableAt mTop w a ds := by
  refine ⟨⟨?_, trivial, fun k v hk => by cases hk⟩, h⟩
  have := cell_ltO (h 0 ds[0] (by simp [h0]))
  rwa [add_block] at this
theorem sl_of {α : Type} {E : α → Value} {q : α → Prop} {t e : TypeId} (ht : P.underlying t = some (.slice e)) (hc : P.cellsOf e = 1) (hE : Elt P w e E q)
    (H : Type) (enc : TypeId × Value → H) (base : Nat) (sp : Nat → Bool) (held : Bool) (fuel : Nat) (cs : List Value) (x : DataW H × List MemPlace)
    (h : DataW.trod enc P w base sp held fuel t cs = some x) :
    ∃ (xs : List α) (ad : Option Addr) (cap : Nat), cs = [.slice ad xs.length cap] ∧ xs.length ≤ cap ∧ xs.length ≤ 9223372036854775807 ∧ (0 < xs.length → ∃ a, ad = some a ∧ StableAt mTop w a (xs.map E)) ∧ ∀ x ∈ xs, q x := by
  rcases DataW.trod_slice ht h with ⟨rfl, _⟩ | ⟨a, len, cap, elems, rest, m, rfl, rfl, rfl, _, hl, hm, hlen, hel, _⟩
  · exact ⟨[], none, 0, rfl, by simp, by simp, by simp, by simp⟩
  · have key : ∀ k, k ≤ len → ∃ xs : List α, xs.length = k ∧ (∀ j x, (xs.map E)[j]? = some x → w.cell? (a.add j) = some x) ∧ ∀ x ∈ xs, q x := by
      intro k
      induction k with
      | zero => exact fun _ => ⟨[], rfl, by simp, by simp⟩
      | succ k ih =>
        intro hk
        obtain ⟨xs, h1, h2, h3⟩ := ih (by omega)
        have h4 := hel k (by omega)
        rw [List.getElem?_eq_getElem (by omega), hc, Nat.mul_one, Option.bind_eq_some_iff] at h4
        obtain ⟨cs', hcs, hy⟩ := h4
        obtain ⟨y, rfl, hq⟩ := hE H enc base sp held m _ _ hy
        have hcell := cell_of_cells?_one hcs
        refine ⟨xs ++ [y], by simp [h1], fun j x hj => ?_, fun x hx => ?_⟩
        · rw [List.map_append, List.getElem?_append] at hj
          split at hj
          · exact h2 j x hj
          · rename_i hlt
            simp only [List.length_map] at hj hlt
            have : j = k := by
              have := (List.getElem?_eq_some_iff.1 hj).1
              simp at this
              omega
            subst this
            simp [h1] at hj
            rw [← hj]; exact hcell
        · rcases List.mem_append.1 hx with hx | hx
          · exact h3 x hx
          · simp at hx; rw [hx]; exact hq
    obtain ⟨xs, h1, h2, h3⟩ := key len (Nat.le_refl _)
    refine ⟨xs, some a, cap, by rw [h1], by omega, by simp [maxLen] at hm; omega, fun h0 => ⟨a, rfl, stableAtTop (by simpa using h0) h2⟩, h3⟩
theorem cells_oneO {v : Value} (h : ∀ cs, v ≠ .agg cs) : v.cells.toList = [v] := by
  unfold Value.cells
  split
  · rename_i cs; exact absurd rfl (h cs)
  · rfl
section
variable {H : Type} {enc : TypeId × Value → H} {base b0 : Nat} {sp : Nat → Bool} {held : Bool} {t e : TypeId} {v : Value} {d : DataW H} {ps : List MemPlace} {r : Reach}
theorem openB (ht : P.underlying t = some .bool) (hval : Value.okWide P w r b0 t v) (hd : DataW.Trod enc P w base sp held t v d ps) : ∃ x, RV mTop w (.b x) v := by
  obtain ⟨n, rfl⟩ := okWide_bool ht hval
  exact ⟨n, by simp [RV, CR]⟩
theorem openI (ht : P.underlying t = some (.int .i64)) (hval : Value.okWide P w r b0 t v) (hd : DataW.Trod enc P w base sp held t v d ps) : ∃ x, RV mTop w (.i x) v ∧ -9223372036854775808 ≤ x ∧ x ≤ 9223372036854775807 := by
  obtain ⟨n, rfl⟩ := okWide_int ht hval
  obtain ⟨fuel, hf⟩ := hd
  rw [cells_oneO (by simp)] at hf
  obtain ⟨a, ha, hq⟩ := elt_i64 ht _ _ _ _ _ _ _ _ hf
  exact ⟨a, by simpa [RV, CR] using ha, hq⟩
theorem openS (ht : P.underlying t = some .string) (hval : Value.okWide P w r b0 t v) (hd : DataW.Trod enc P w base sp held t v d ps) : ∃ x, RV mTop w (.s x) v ∧ x.length ≤ 9223372036854775807 := by
  obtain ⟨n, rfl⟩ := okWide_string ht hval
  obtain ⟨fuel, hf⟩ := hd
  rw [cells_oneO (by simp)] at hf
  obtain ⟨a, ha, hq⟩ := elt_str ht _ _ _ _ _ _ _ _ hf
  exact ⟨a, by simpa [RV, CR] using ha, hq⟩
theorem open8 (ht : P.underlying t = some (.int .u8)) (hval : Value.okWide P w r b0 t v) (hd : DataW.Trod enc P w base sp held t v d ps) : ∃ x, RV mTop w (.w8 x) v := by
  obtain ⟨n, rfl⟩ := okWide_int ht hval
  obtain ⟨fuel, hf⟩ := hd
  rw [cells_oneO (by simp)] at hf
  obtain ⟨a, ha, hq⟩ := elt_u8 ht _ _ _ _ _ _ _ _ hf
  exact ⟨a, by simpa [RV, CR] using ha⟩
theorem open16 (ht : P.underlying t = some (.int .u16)) (hval : Value.okWide P w r b0 t v) (hd : DataW.Trod enc P w base sp held t v d ps) : ∃ x, RV mTop w (.w16 x) v := by
  obtain ⟨n, rfl⟩ := okWide_int ht hval
  obtain ⟨fuel, hf⟩ := hd
  rw [cells_oneO (by simp)] at hf
  obtain ⟨a, ha, hq⟩ := elt_u16 ht _ _ _ _ _ _ _ _ hf
  exact ⟨a, by simpa [RV, CR] using ha⟩
theorem open32 (ht : P.underlying t = some (.int .u32)) (hval : Value.okWide P w r b0 t v) (hd : DataW.Trod enc P w base sp held t v d ps) : ∃ x, RV mTop w (.w32 x) v := by
  obtain ⟨n, rfl⟩ := okWide_int ht hval
  obtain ⟨fuel, hf⟩ := hd
  rw [cells_oneO (by simp)] at hf
  obtain ⟨a, ha, hq⟩ := elt_u32 ht _ _ _ _ _ _ _ _ hf
  exact ⟨a, by simpa [RV, CR] using ha⟩
theorem open64 (ht : P.underlying t = some (.int .u64)) (hval : Value.okWide P w r b0 t v) (hd : DataW.Trod enc P w base sp held t v d ps) : ∃ x, RV mTop w (.w64 x) v := by
  obtain ⟨n, rfl⟩ := okWide_int ht hval
  obtain ⟨fuel, hf⟩ := hd
  rw [cells_oneO (by simp)] at hf
  obtain ⟨a, ha, hq⟩ := elt_u64 ht _ _ _ _ _ _ _ _ hf
  exact ⟨a, by simpa [RV, CR] using ha⟩
theorem openA8 {n : Nat} (ht : P.underlying t = some (.array n e)) (he : P.underlying e = some (.int .u8)) (hc : P.cellsOf e = 1) (hn : P.cellsOf t = n) (hval : Value.okWide P w r b0 t v) (hd : DataW.Trod enc P w base sp held t v d ps) :
    ∃ xs : List UInt8, RV mTop w (.ag n (.bt xs)) v ∧ xs.length = n := by
  obtain ⟨cs, rfl, hcs⟩ : ∃ cs, v = .agg cs ∧ cs.size = P.cellsOf t := by
    simp only [Value.okWide, ht] at hval
    obtain ⟨cs, h1, h2, _⟩ := hval
    exact ⟨cs, h1, h2⟩
  obtain ⟨fuel, hf⟩ := hd
  obtain ⟨xs, h1, h2, hq⟩ := arr_of ht hc hn (elt_u8 he) _ _ _ _ _ _ _ _ hf
  refine ⟨xs, ?_, h2⟩
  simp only [RV]
  have h1 : cs.toList = xs.map E8 := h1
  exact ⟨cs.toList, by simp, by simp [h1, h2], by simpa [RC] using h1⟩
theorem openL8 (ht : P.underlying t = some (.slice e)) (he : P.underlying e = some (.int .u8)) (hc : P.cellsOf e = 1) (hval : Value.okWide P w r b0 t v) (hd : DataW.Trod enc P w base sp held t v d ps) :
    ∃ xs : List UInt8, RV mTop w (.rb 1 (.bt xs)) v ∧ xs.length ≤ 9223372036854775807 := by
  obtain ⟨a, len, cap, rfl⟩ := okWide_slice ht hval
  obtain ⟨fuel, hf⟩ := hd
  rw [cells_oneO (by simp)] at hf
  obtain ⟨xs, ad, cap', h1, h2, h3, h4, hq⟩ := sl_of ht hc (elt_u8 he) _ _ _ _ _ _ _ _ hf
  simp only [List.cons.injEq, and_true, Value.slice.injEq] at h1
  obtain ⟨rfl, rfl, rfl⟩ := h1
  refine ⟨xs, ?_, h3⟩
  simp only [RV, CR]
  exact ⟨_, _, _, xs.map E8, rfl, by simp [RC], by simp, h2, h4⟩
theorem openA16 {n : Nat} (ht : P.underlying t = some (.array n e)) (he : P.underlying e = some (.int .u16)) (hc : P.cellsOf e = 1) (hn : P.cellsOf t = n) (hval : Value.okWide P w r b0 t v) (hd : DataW.Trod enc P w base sp held t v d ps) :
    ∃ xs : List UInt16, RV mTop w (.ag n (.wh xs)) v ∧ xs.length = n := by
  obtain ⟨cs, rfl, hcs⟩ : ∃ cs, v = .agg cs ∧ cs.size = P.cellsOf t := by
    simp only [Value.okWide, ht] at hval
    obtain ⟨cs, h1, h2, _⟩ := hval
    exact ⟨cs, h1, h2⟩
  obtain ⟨fuel, hf⟩ := hd
  obtain ⟨xs, h1, h2, hq⟩ := arr_of ht hc hn (elt_u16 he) _ _ _ _ _ _ _ _ hf
  refine ⟨xs, ?_, h2⟩
  simp only [RV]
  have h1 : cs.toList = xs.map E16 := h1
  exact ⟨cs.toList, by simp, by simp [h1, h2], by simpa [RC] using h1⟩
theorem openL16 (ht : P.underlying t = some (.slice e)) (he : P.underlying e = some (.int .u16)) (hc : P.cellsOf e = 1) (hval : Value.okWide P w r b0 t v) (hd : DataW.Trod enc P w base sp held t v d ps) :
    ∃ xs : List UInt16, RV mTop w (.rb 1 (.wh xs)) v ∧ xs.length ≤ 9223372036854775807 := by
  obtain ⟨a, len, cap, rfl⟩ := okWide_slice ht hval
  obtain ⟨fuel, hf⟩ := hd
  rw [cells_oneO (by simp)] at hf
  obtain ⟨xs, ad, cap', h1, h2, h3, h4, hq⟩ := sl_of ht hc (elt_u16 he) _ _ _ _ _ _ _ _ hf
  simp only [List.cons.injEq, and_true, Value.slice.injEq] at h1
  obtain ⟨rfl, rfl, rfl⟩ := h1
  refine ⟨xs, ?_, h3⟩
  simp only [RV, CR]
  exact ⟨_, _, _, xs.map E16, rfl, by simp [RC], by simp, h2, h4⟩
theorem openA32 {n : Nat} (ht : P.underlying t = some (.array n e)) (he : P.underlying e = some (.int .u32)) (hc : P.cellsOf e = 1) (hn : P.cellsOf t = n) (hval : Value.okWide P w r b0 t v) (hd : DataW.Trod enc P w base sp held t v d ps) :
    ∃ xs : List UInt32, RV mTop w (.ag n (.wd xs)) v ∧ xs.length = n := by
  obtain ⟨cs, rfl, hcs⟩ : ∃ cs, v = .agg cs ∧ cs.size = P.cellsOf t := by
    simp only [Value.okWide, ht] at hval
    obtain ⟨cs, h1, h2, _⟩ := hval
    exact ⟨cs, h1, h2⟩
  obtain ⟨fuel, hf⟩ := hd
  obtain ⟨xs, h1, h2, hq⟩ := arr_of ht hc hn (elt_u32 he) _ _ _ _ _ _ _ _ hf
  refine ⟨xs, ?_, h2⟩
  simp only [RV]
  have h1 : cs.toList = xs.map E32 := h1
  exact ⟨cs.toList, by simp, by simp [h1, h2], by simpa [RC] using h1⟩
theorem openL32 (ht : P.underlying t = some (.slice e)) (he : P.underlying e = some (.int .u32)) (hc : P.cellsOf e = 1) (hval : Value.okWide P w r b0 t v) (hd : DataW.Trod enc P w base sp held t v d ps) :
    ∃ xs : List UInt32, RV mTop w (.rb 1 (.wd xs)) v ∧ xs.length ≤ 9223372036854775807 := by
  obtain ⟨a, len, cap, rfl⟩ := okWide_slice ht hval
  obtain ⟨fuel, hf⟩ := hd
  rw [cells_oneO (by simp)] at hf
  obtain ⟨xs, ad, cap', h1, h2, h3, h4, hq⟩ := sl_of ht hc (elt_u32 he) _ _ _ _ _ _ _ _ hf
  simp only [List.cons.injEq, and_true, Value.slice.injEq] at h1
  obtain ⟨rfl, rfl, rfl⟩ := h1
  refine ⟨xs, ?_, h3⟩
  simp only [RV, CR]
  exact ⟨_, _, _, xs.map E32, rfl, by simp [RC], by simp, h2, h4⟩
theorem openA64 {n : Nat} (ht : P.underlying t = some (.array n e)) (he : P.underlying e = some (.int .u64)) (hc : P.cellsOf e = 1) (hn : P.cellsOf t = n) (hval : Value.okWide P w r b0 t v) (hd : DataW.Trod enc P w base sp held t v d ps) :
    ∃ xs : List UInt64, RV mTop w (.ag n (.ww xs)) v ∧ xs.length = n := by
  obtain ⟨cs, rfl, hcs⟩ : ∃ cs, v = .agg cs ∧ cs.size = P.cellsOf t := by
    simp only [Value.okWide, ht] at hval
    obtain ⟨cs, h1, h2, _⟩ := hval
    exact ⟨cs, h1, h2⟩
  obtain ⟨fuel, hf⟩ := hd
  obtain ⟨xs, h1, h2, hq⟩ := arr_of ht hc hn (elt_u64 he) _ _ _ _ _ _ _ _ hf
  refine ⟨xs, ?_, h2⟩
  simp only [RV]
  have h1 : cs.toList = xs.map E64 := h1
  exact ⟨cs.toList, by simp, by simp [h1, h2], by simpa [RC] using h1⟩
theorem openL64 (ht : P.underlying t = some (.slice e)) (he : P.underlying e = some (.int .u64)) (hc : P.cellsOf e = 1) (hval : Value.okWide P w r b0 t v) (hd : DataW.Trod enc P w base sp held t v d ps) :
    ∃ xs : List UInt64, RV mTop w (.rb 1 (.ww xs)) v ∧ xs.length ≤ 9223372036854775807 := by
  obtain ⟨a, len, cap, rfl⟩ := okWide_slice ht hval
  obtain ⟨fuel, hf⟩ := hd
  rw [cells_oneO (by simp)] at hf
  obtain ⟨xs, ad, cap', h1, h2, h3, h4, hq⟩ := sl_of ht hc (elt_u64 he) _ _ _ _ _ _ _ _ hf
  simp only [List.cons.injEq, and_true, Value.slice.injEq] at h1
  obtain ⟨rfl, rfl, rfl⟩ := h1
  refine ⟨xs, ?_, h3⟩
  simp only [RV, CR]
  exact ⟨_, _, _, xs.map E64, rfl, by simp [RC], by simp, h2, h4⟩
theorem openAI {n : Nat} (ht : P.underlying t = some (.array n e)) (he : P.underlying e = some (.int .i64)) (hc : P.cellsOf e = 1) (hn : P.cellsOf t = n) (hval : Value.okWide P w r b0 t v) (hd : DataW.Trod enc P w base sp held t v d ps) :
    ∃ xs : List Int, RV mTop w (.ag n (.is xs)) v ∧ xs.length = n ∧ ∀ x ∈ xs, -9223372036854775808 ≤ x ∧ x ≤ 9223372036854775807 := by
  obtain ⟨cs, rfl, hcs⟩ : ∃ cs, v = .agg cs ∧ cs.size = P.cellsOf t := by
    simp only [Value.okWide, ht] at hval
    obtain ⟨cs, h1, h2, _⟩ := hval
    exact ⟨cs, h1, h2⟩
  obtain ⟨fuel, hf⟩ := hd
  obtain ⟨xs, h1, h2, hq⟩ := arr_of ht hc hn (elt_i64 he) _ _ _ _ _ _ _ _ hf
  refine ⟨xs, ?_, h2, hq⟩
  simp only [RV]
  have h1 : cs.toList = xs.map EI := h1
  exact ⟨cs.toList, by simp, by simp [h1, h2], by simpa [RC] using h1⟩
theorem openLI (ht : P.underlying t = some (.slice e)) (he : P.underlying e = some (.int .i64)) (hc : P.cellsOf e = 1) (hval : Value.okWide P w r b0 t v) (hd : DataW.Trod enc P w base sp held t v d ps) :
    ∃ xs : List Int, RV mTop w (.rb 1 (.is xs)) v ∧ xs.length ≤ 9223372036854775807 ∧ ∀ x ∈ xs, -9223372036854775808 ≤ x ∧ x ≤ 9223372036854775807 := by
  obtain ⟨a, len, cap, rfl⟩ := okWide_slice ht hval
  obtain ⟨fuel, hf⟩ := hd
  rw [cells_oneO (by simp)] at hf
  obtain ⟨xs, ad, cap', h1, h2, h3, h4, hq⟩ := sl_of ht hc (elt_i64 he) _ _ _ _ _ _ _ _ hf
  simp only [List.cons.injEq, and_true, Value.slice.injEq] at h1
  obtain ⟨rfl, rfl, rfl⟩ := h1
  refine ⟨xs, ?_, h3, hq⟩
  simp only [RV, CR]
  exact ⟨_, _, _, xs.map EI, rfl, by simp [RC], by simp, h2, h4⟩
theorem openAS {n : Nat} (ht : P.underlying t = some (.array n e)) (he : P.underlying e = some (.string)) (hc : P.cellsOf e = 1) (hn : P.cellsOf t = n) (hval : Value.okWide P w r b0 t v) (hd : DataW.Trod enc P w base sp held t v d ps) :
    ∃ xs : List (List UInt8), RV mTop w (.ag n (.ss xs)) v ∧ xs.length = n ∧ ∀ x ∈ xs, x.length ≤ 9223372036854775807 := by
  obtain ⟨cs, rfl, hcs⟩ : ∃ cs, v = .agg cs ∧ cs.size = P.cellsOf t := by
    simp only [Value.okWide, ht] at hval
    obtain ⟨cs, h1, h2, _⟩ := hval
    exact ⟨cs, h1, h2⟩
  obtain ⟨fuel, hf⟩ := hd
  obtain ⟨xs, h1, h2, hq⟩ := arr_of ht hc hn (elt_str he) _ _ _ _ _ _ _ _ hf
  refine ⟨xs, ?_, h2, hq⟩
  simp only [RV]
  have h1 : cs.toList = xs.map ES := h1
  exact ⟨cs.toList, by simp, by simp [h1, h2], by simpa [RC] using h1⟩
theorem openLS (ht : P.underlying t = some (.slice e)) (he : P.underlying e = some (.string)) (hc : P.cellsOf e = 1) (hval : Value.okWide P w r b0 t v) (hd : DataW.Trod enc P w base sp held t v d ps) :
    ∃ xs : List (List UInt8), RV mTop w (.rb 1 (.ss xs)) v ∧ xs.length ≤ 9223372036854775807 ∧ ∀ x ∈ xs, x.length ≤ 9223372036854775807 := by
  obtain ⟨a, len, cap, rfl⟩ := okWide_slice ht hval
  obtain ⟨fuel, hf⟩ := hd
  rw [cells_oneO (by simp)] at hf
  obtain ⟨xs, ad, cap', h1, h2, h3, h4, hq⟩ := sl_of ht hc (elt_str he) _ _ _ _ _ _ _ _ hf
  simp only [List.cons.injEq, and_true, Value.slice.injEq] at h1
  obtain ⟨rfl, rfl, rfl⟩ := h1
  refine ⟨xs, ?_, h3, hq⟩
  simp only [RV, CR]
  exact ⟨_, _, _, xs.map ES, rfl, by simp [RC], by simp, h2, h4⟩
end
theorem rvs_cons {m : Hd} {a : AV} {v : Value} {l : List AV} {vs : List Value} (h : RV m w a v) (hs : RVs m w l vs) : RVs m w (a :: l) (v :: vs) := ⟨v, vs, rfl, h, hs⟩
theorem rvs_nil {m : Hd} : RVs m w [] [] := rfl
/-! ## A law's end -/
theorem trodAll_stays {H : Type} {enc : TypeId × Value → H} {W W' : World} (hl : laidOutB P = true) (hb : Below W.heap.size W W') :
    ∀ {ts : List TypeId} {vs : List Value} {ds : List (DataW H)} {ps : List MemPlace}, (ts.all fun t => P.readableRec t && decide (t < P.types.size)) = true →
      DataW.TrodAll enc P W 0 (fun _ => true) true ts vs ds ps → DataW.TrodAll enc P W' 0 (fun b => decide (b < W.heap.size)) true ts vs ds ps
  | [], [], [], _, _, h => h
  | t :: ts, v :: vs, d :: ds, ps, hr, h => by
    have hlt := h.lt
    obtain ⟨p, q, h1, h2, rfl⟩ := h
    simp only [List.all_cons, Bool.and_eq_true, decide_eq_true_eq] at hr
    exact ⟨p, q, Below.trod hl hr.1.1 hr.1.2 h1 hb fun x hx => hlt x (List.mem_append_left _ hx), trodAll_stays hl hb hr.2 h2, rfl⟩
  | [], [], _ :: _, _, _, h => h.elim
  | [], _ :: _, _, _, _, h => h.elim
  | _ :: _, [], _, _, _, h => h.elim
  | _ :: _, _ :: _, [], _, _, h => h.elim
theorem post_true {H : Type} {enc : TypeId × Value → H} {f : Func} {s : ChangeSpec} {W W' : World} {args : Array Value} {ds gs : List (DataW H)} {before : List MemPlace} {tb : TypeId}
    (hl : laidOutB P = true) (hr : (f.params.toList.all fun t => P.readableRec t && decide (t < P.types.size)) = true) (hrt : f.resultTypes = #[tb]) (hb : P.underlying tb = some .bool) (hsv : s.vars = [])
    (hW : DataW.Whole enc P f.params.toList s.vars false W args.toList ds gs before) (hfn : s.fn H (ds ++ []) = ⟨[.lit (.bool true)], ds, []⟩) (hk : Below W.heap.size W W') :
    s.post enc P f false true false false W args (.bool true) W' := by
  have hW' := hW
  obtain ⟨p, q, hA, hV, rfl, _, _⟩ := hW
  rw [hsv] at hV
  obtain ⟨rfl, rfl⟩ := trodVars_none hV
  refine ⟨ds, [], _, [], p, [], hW', ?_, ?_, ?_, hk.frame _, fun h => by cases h⟩
  · rw [hfn, hrt]
    exact trodAll_mk1 (shut_bool hb _)
  · rw [hfn]
    exact trodAll_stays hl hk hr hA
  · rw [hfn, hsv]
    rfl
/-- a law's walk, from the conditions of its code -/
theorem law_walk2 {x : Cx} {an cu : Anns} (hx : XOK P x) (hmx : P.follows .mixedOrders = true) {f : Nat} {fn : Func} {body : Code} (hf : P.funcs[f]? = some fn) (hbd : fn.body = some body) (hn : fn.ntmps = x.nt) (hdr : drawsOk x.tt x.dr body = true)
    {l : List AV} {vals : List Value} {w : World} (hl : llen l ≤ x.nt) (hv : RVs mTop w l vals) (hvc : vc real x an cu body ⟨zipSl 0 l, [], 64⟩ (retOk real x.tt false fn.results.toList [.val (.b true)])) :
    Calls P f vals.toArray w fun e w' => e = .returned (.bool true) ∧ Below w.heap.size w w' := by
  have hlen := RVs_length hv
  rw [llen_eq] at hl
  let E : Env := ⟨w, [], fun _ => True, none, []⟩
  have hr : StR E x.nt ⟨zipSl 0 l, [], 64⟩ mTop { tmps := vals.toArray ++ Array.replicate (fn.ntmps - vals.toArray.size) undef, defers := [] } w :=
    ⟨entry_sl hv _, ⟨fun k ab h => (by cases h), fun k k' ab ab' v v' b h => (by cases h)⟩, fun k v b hk => (by cases hk), fun k _ => rfl, (by simp; omega), rfl,
      ⟨rfl, rfl, rfl, Nat.le_refl _, rfl, fun _ _ _ => rfl, fun k v b hk => (by cases hk), fun m0 w1 he => (by cases he), fun j v hj => (by cases hj)⟩⟩
  refine calls_of_wp hf hbd (code_mono (vc_sound hx (fun j v hj => (by cases hj)) (.inl rfl) hmx body _ _ hdr hvc _ _ w hr) ?_)
  intro en a w' hp
  refine ends_sound hx.tt (fun l vs s' m1 w1 k1 k2 k3 => ?_) hp
  cases l with
  | nil => simp [retM] at k2
  | cons b r =>
    cases r with
    | cons c r => simp [retM, AV.nk] at k2
    | nil =>
      simp only [retM, AV.nk, and_true] at k2
      simp only [RVs] at k1
      obtain ⟨v, q, rfl, h1, rfl⟩ := k1
      have := RV_le b (.b true) v k2 (fun h => by cases h) h1
      simp only [RV, CR, List.cons.injEq, and_true] at this
      subst this
      exact ⟨rfl, k3.fr.os, k3.fr.tape, k3.fr.output, k3.fr.size, fun b hb => k3.fr.block b hb (fun h => by cases h)⟩
end
end Go.Vc
