/- The given statement is proved: for every input the law's function answers true. No condition. -/
import Derived.Test.YtegnmmfjbncgnaaRows
import Derived.Test.YtegnmmfjbncgnaaPart3
import Derived.Test.YtegnmmfjbncgnaaPart4
import Derived.WalkKit
import Derived.ProofKit
import Derived.OpenShut
import Derived.ShutString
set_option linter.unusedVariables false
set_option linter.unusedSimpArgs false
set_option maxRecDepth 100000
set_option maxHeartbeats 4000000
namespace Go.Proofs.Ytegnmmfjbncgnaa
open Go Go.Vc
theorem put_mod (x : UInt64) (i : Nat) : putK x (min (max ((i : Int).tmod 9) 0) 8).toNat = putK x (i % 9) := by
  congr 1
  have : (i : Int).tmod 9 = ((i % 9 : Nat) : Int) := rfl
  rw [this]
  omega
theorem rowsP_len (ns : List UInt64) (s : List UInt8) : ∀ i, s.length ≤ 100 → (u_rowsP ns s i).length ≤ 110 * i
  | 0, _ => by simp [u_rowsP]
  | i + 1, h => by
    have := rowsP_len ns s i h
    have ht : (u_text s).length = 2 + s.length := text_len s (by omega)
    simp only [u_rowsP, List.length_append, putK_len, ht]
    omega
theorem rowsP_ext (ns : List UInt64) (s : List UInt8) (i : Nat) : ∀ d, ∃ more, u_rowsP ns s (i + d) = u_rowsP ns s i ++ more
  | 0 => ⟨[], by simp⟩
  | d + 1 => by
    obtain ⟨more, h⟩ := rowsP_ext ns s i d
    exact ⟨more ++ putK (ns.getD (i + d) 0) ((i + d) % 9) ++ u_text s, by rw [← Nat.add_assoc, u_rowsP, h]; simp only [List.append_assoc]⟩
theorem rowsP_cut (ns : List UInt64) (s : List UInt8) (i N : Nat) (h : i < N) : ∃ more, u_rowsP ns s N = u_rowsP ns s i ++ (putK (ns.getD i 0) (i % 9) ++ (u_text s ++ more)) := by
  obtain ⟨more, e⟩ := rowsP_ext ns s (i + 1) (N - (i + 1))
  rw [show i + 1 + (N - (i + 1)) = N by omega] at e
  exact ⟨more, by rw [e, u_rowsP]; simp only [List.append_assoc]⟩
theorem gv_put (x : UInt64) : ∀ (k : Nat) (acc : UInt64) (r : List UInt8), ((putK x k ++ r).take k).foldl (fun (n : UInt64) (c : UInt8) => n <<< 8 ||| UInt64.ofNat c.toNat) acc = (putK x k).foldl (fun (n : UInt64) (c : UInt8) => n <<< 8 ||| UInt64.ofNat c.toNat) acc := by
  intro k acc r
  rw [List.take_left' (putK_len x k)]
theorem shl8_or (n : UInt64) (b : Nat) (hb : b < 256) : (n <<< 8 ||| UInt64.ofNat b).toNat = (n.toNat * 256 + b) % 18446744073709551616 := by
  have h1 : (n <<< (8 : UInt64)).toNat = n.toNat * 256 % 18446744073709551616 := by
    rw [UInt64.toNat_shiftLeft]
    show n.toNat <<< 8 % 2 ^ 64 = _
    rw [Nat.shiftLeft_eq]
  have h2 : (UInt64.ofNat b).toNat = b := UInt64.toNat_ofNat_of_lt' (by simp [UInt64.size]; omega)
  rw [UInt64.toNat_or, h1, h2]
  have h3 : n.toNat * 256 % 18446744073709551616 = 2 ^ 8 * (n.toNat % 72057594037927936) := by omega
  rw [h3, ← Nat.two_pow_add_eq_or_of_lt (by omega : b < 2 ^ 8)]
  omega
theorem fold_put (x : UInt64) : ∀ (k : Nat) (acc : UInt64), k ≤ 8 → ((putK x k).foldl (fun (n : UInt64) (c : UInt8) => n <<< 8 ||| UInt64.ofNat c.toNat) acc).toNat = (acc.toNat * 2 ^ (8 * k) + x.toNat % 2 ^ (8 * k)) % 18446744073709551616
  | 0, acc, _ => by
    have := acc.toNat_lt
    simp [putK, Nat.mod_one]
  | k + 1, acc, h => by
    have hb : (UInt8.ofNat (x.toNat / 2 ^ (8 * k))).toNat = x.toNat / 2 ^ (8 * k) % 256 := by simp
    rw [putK, List.foldl_cons, fold_put x k _ (by omega), shl8_or _ _ (UInt8.toNat_lt _), hb]
    have e1 : 2 ^ (8 * (k + 1)) = 2 ^ (8 * k) * 256 := by rw [Nat.mul_add, Nat.pow_add]
    have e2 : x.toNat % (2 ^ (8 * k) * 256) = x.toNat % 2 ^ (8 * k) + 2 ^ (8 * k) * (x.toNat / 2 ^ (8 * k) % 256) := Nat.mod_mul
    rw [e1, e2]
    generalize 2 ^ (8 * k) = p
    generalize x.toNat / p % 256 = b
    generalize x.toNat % p = q
    rw [Nat.add_mod, Nat.mul_mod, Nat.mod_mod, ← Nat.mul_mod, ← Nat.add_mod]
    congr 1
    rw [Nat.add_mul, Nat.mul_assoc, Nat.mul_comm 256 p, Nat.mul_comm b p]
    omega
theorem get_put (x : UInt64) (w : Nat) (hw : w ≤ 8) (r : List UInt8) : (u_getV (putK x w ++ r) (w : Int)).toNat = x.toNat % 2 ^ (8 * w) ∧ u_getA (putK x w ++ r) (w : Int) = w ∧ u_getE (putK x w ++ r) (w : Int) = 0 := by
  have e : (min (max (w : Int) 0) 8).toNat = w := by omega
  have hl : w ≤ (putK x w ++ r).length := by rw [List.length_append, putK_len]; omega
  simp only [u_getV, u_getA, u_getE, e, if_pos hl]
  refine ⟨?_, trivial, trivial⟩
  rw [gv_put, fold_put x w 0 hw]
  have h1 : x.toNat % 2 ^ (8 * w) ≤ x.toNat := Nat.mod_le _ _
  have h2 := x.toNat_lt
  rw [show (0 : UInt64).toNat = 0 from rfl, Nat.zero_mul, Nat.zero_add, Nat.mod_eq_of_lt (by omega)]
theorem mask_eq (x : UInt64) (w : Nat) (hw : w < 8) : (real.and64 x (real.sub64 (real.shl64 (real.ofI64 (real.int 1)) (real.toI64 (real.mul64 (real.ofI64 (real.int 8)) (real.ofI64 (w : Int))))) (real.ofI64 (real.int 1)))).toNat = x.toNat % 2 ^ (8 * w) := by
  have h : ∀ w : Fin 8, (real.sub64 (real.shl64 (real.ofI64 (real.int 1)) (real.toI64 (real.mul64 (real.ofI64 (real.int 8)) (real.ofI64 ((w.val : Nat) : Int))))) (real.ofI64 (real.int 1))).toNat = 2 ^ (8 * w.val) - 1 := by decide
  have := h ⟨w, hw⟩
  show (x &&& _).toNat = _
  rw [UInt64.toNat_and, this, Nat.and_two_pow_sub_one_eq_mod]
theorem rows_facts (ns : List UInt64) (s : List UInt8) (j : Nat) (hs : s.length ≤ 100) (h : j < ns.length) :
    (u_getV (((u_rowsP ns s ns.length).drop (u_rowsP ns s j).length).take ((u_rowsP ns s ns.length).length - (u_rowsP ns s j).length)) ((j : Int).tmod 9)).toNat = (ns.getD j 0).toNat % 2 ^ (8 * (j % 9)) ∧
    u_getA (((u_rowsP ns s ns.length).drop (u_rowsP ns s j).length).take ((u_rowsP ns s ns.length).length - (u_rowsP ns s j).length)) ((j : Int).tmod 9) = j % 9 ∧
    u_getE (((u_rowsP ns s ns.length).drop (u_rowsP ns s j).length).take ((u_rowsP ns s ns.length).length - (u_rowsP ns s j).length)) ((j : Int).tmod 9) = 0 ∧
    u_gtS (((u_rowsP ns s ns.length).drop ((u_rowsP ns s j).length + j % 9)).take ((u_rowsP ns s ns.length).length - (u_rowsP ns s j).length - j % 9)) 100 = s ∧
    u_gtA (((u_rowsP ns s ns.length).drop ((u_rowsP ns s j).length + j % 9)).take ((u_rowsP ns s ns.length).length - (u_rowsP ns s j).length - j % 9)) 100 = 2 + s.length ∧
    u_gtE (((u_rowsP ns s ns.length).drop ((u_rowsP ns s j).length + j % 9)).take ((u_rowsP ns s ns.length).length - (u_rowsP ns s j).length - j % 9)) 100 = 0 ∧
    (u_rowsP ns s (j + 1)).length = (u_rowsP ns s j).length + j % 9 + (2 + s.length) ∧ (u_rowsP ns s (j + 1)).length ≤ (u_rowsP ns s ns.length).length := by
  obtain ⟨more, e⟩ := rowsP_cut ns s j ns.length h
  have ht : (u_text s).length = 2 + s.length := text_len s (by omega)
  have hX : ((u_rowsP ns s ns.length).drop (u_rowsP ns s j).length).take ((u_rowsP ns s ns.length).length - (u_rowsP ns s j).length) = putK (ns.getD j 0) (j % 9) ++ (u_text s ++ more) := by
    rw [List.take_of_length_le (by rw [List.length_drop]; exact Nat.le_refl _), e, List.drop_left]
  have hY : ((u_rowsP ns s ns.length).drop ((u_rowsP ns s j).length + j % 9)).take ((u_rowsP ns s ns.length).length - (u_rowsP ns s j).length - j % 9) = u_text s ++ more := by
    rw [List.take_of_length_le (by rw [List.length_drop]; omega), e, ← List.drop_drop, List.drop_left, List.drop_left' (putK_len _ _)]
  have hm : (j : Int).tmod 9 = ((j % 9 : Nat) : Int) := rfl
  rw [hX, hY, hm]
  obtain ⟨a1, a2, a3⟩ := get_put (ns.getD j 0) (j % 9) (by omega) (u_text s ++ more)
  obtain ⟨b1, b2, b3⟩ := text_gt s more (by omega) 100 (by omega)
  refine ⟨a1, a2, a3, b1, b2, b3, ?_, ?_⟩
  · simp only [u_rowsP, List.length_append, putK_len, ht]
  · have := congrArg List.length e
    simp only [List.length_append, putK_len, ht] at this
    simp only [u_rowsP, List.length_append, putK_len, ht]
    omega
theorem ct_mod (c : UInt8) (L : Nat) : (IntKind.i64.wrap ((c.toNat : Nat) : Int)).tmod (L : Int) = ((c.toNat % L : Nat) : Int) := by
  rw [wrap_sm (by omega) (by have := c.toNat_lt; omega)]
  rfl
theorem text_n (s : List UInt8) (hs : s.length ≤ 100) : ((u_text s).getD 0 0).toNat * 256 + ((u_text s).getD 1 0).toNat = s.length := by
  have h := text_eq s (by omega)
  have h : u_text s = UInt8.ofNat (s.length / 256) :: UInt8.ofNat s.length :: s := h
  rw [h]
  exact u8_hi s.length (by omega)
theorem gtE_cut (s : List UInt8) (hs : s.length ≤ 100) (k : Nat) (hk : k < 2 + s.length) : u_gtE ((u_text s).take k) 200 = 10 := by
  have hl : (u_text s).length = 2 + s.length := text_len s (by omega)
  have hn := text_n s hs
  simp only [u_gtE, List.length_take, hl]
  by_cases h2 : min k (2 + s.length) < 2
  · rw [if_pos h2]
  · have e : ∀ i, i < 2 → ((u_text s).take k).getD i 0 = (u_text s).getD i 0 := by
      intro i hi
      simp only [List.getD_eq_getElem?_getD, List.getElem?_take, if_pos (show i < k by omega)]
    rw [e 0 (by omega), e 1 (by omega), hn, if_neg h2, if_neg (by omega), if_pos (by omega)]
theorem gtE_long (s : List UInt8) (hs : s.length ≤ 100) : u_gtE (u_text s) ((s.length : Int) - 1) = 11 := by
  have hl : (u_text s).length = 2 + s.length := text_len s (by omega)
  have hn := text_n s hs
  simp only [u_gtE, hl, hn]
  rw [if_neg (by omega), if_pos (by omega)]
end Go.Proofs.Ytegnmmfjbncgnaa
namespace Go.Proofs.Ytegnmmfjbncgnaa
open Go Go.Vc
noncomputable def sp_law1_BitsRows (F : Fs) (U : Us) : Specs := [(14, s_law1_known F U), (27, s_bits_Put F U), (30, s_bits_Text F U), (22, s_bits_Get F U), (31, s_bits_GetText F U)]
theorem ok_law1_BitsRows : SpecsOK Try.prog (sp_law1_BitsRows real us) := sp_cons r_law1_known k_law1_known (sp_cons r_bits_Put k_bits_Put (sp_cons r_bits_Text k_bits_Text (sp_cons r_bits_Get k_bits_Get (sp_cons r_bits_GetText k_bits_GetText sp_nil))))
noncomputable def an_law1_BitsRows (F : Fs) (U : Us) (ns : List UInt64) (s : List UInt8) (ct : UInt8) : Anns := [(7, ⟨Nat, fun i => F.pLe i (F.lenQ ns), fun i => F.subn (F.lenQ ns) i, fun i => ⟨[(0, .rb 1 (.ww ns)), (1, .s s), (2, .w8 ct), (7, .rw 0), (8, .i (F.int i))], [(7, 0, .row 5 1 (.bt (U.rowsP ns s i)))]⟩⟩),
  (11, ⟨Nat, fun i => F.pLe i (F.lenQ ns), fun i => F.subn (F.lenQ ns) i, fun i => ⟨[(0, .rb 1 (.ww ns)), (1, .s s), (2, .w8 ct), (7, .sl 0 0 0 1 (F.lenB (U.rowsP ns s i)) (F.subn (F.lenB (U.rowsP ns s (F.lenQ ns))) (F.lenB (U.rowsP ns s i)))), (9, .i (F.int i))], [(7, 0, .row 5 1 (.bt (U.rowsP ns s (F.lenQ ns))))]⟩⟩)]
noncomputable def x_law1_BitsRows (F : Fs) (U : Us) : Cx := ⟨Try.f8.ntmps, tt F, sp_law1_BitsRows F U, [], [], [], [25]⟩
theorem c_law1_BitsRows (ns : List UInt64) (s : List UInt8) (ct : UInt8) (q0 : ns.length ≤ 9223372036854775807) (q1 : s.length ≤ 9223372036854775807) : vc real (x_law1_BitsRows real us) (an_law1_BitsRows real us ns s ct) [] (Try.f8.body.getD .skip) ⟨zipSl 0 [.rb 1 (.ww ns), .s s, .w8 ct], [], 64⟩ (retOk real (tt real) false Try.f8.results.toList [.val (.b true)]) := by
  generalize hU : us = U
  generalize hF : real = F
  cbv
  repeat' first | apply And.intro | refine Classical.or_iff_not_imp_left.2 (fun _ => ?_) | exact trivial
  all_goals try (subst hF hU; simp only [real, us, Nat.le_eq, Int.cast_ofNat_Int, decide_eq_false_iff_not, decide_eq_true_eq, List.length_take, List.length_drop, List.length_append, List.length_replicate, List.length_set, List.length_cons, List.length_nil, List.length_zipWith] at *; (try simp (disch := omega) only [wrap_sm] at *); omega)
  · refine ⟨(0 : Nat), ?_⟩
    cbv; subst hF hU; simp only [real, us, Nat.le_eq, Int.cast_ofNat_Int, decide_eq_false_iff_not, decide_eq_true_eq] at *
    exact ⟨Nat.zero_le _, rfl, trivial⟩
  · intro (i : Nat) hi
    replace hi : F.pLe i (F.lenQ ns) := hi
    have hl := rowsP_len ns s i
    have hp := putK_len (ns.getD i 0) (i % 9)
    have hlN := rowsP_len ns s ns.length
    cbv
    repeat' first | apply And.intro | refine Classical.or_iff_not_imp_left.2 (fun _ => ?_) | exact trivial
    all_goals try (subst hF hU; simp only [real, us, Nat.le_eq, Int.cast_ofNat_Int, decide_eq_false_iff_not, decide_eq_true_eq, List.length_take, List.length_drop, List.length_append, List.length_replicate, List.length_set, List.length_cons, List.length_nil, List.length_zipWith] at *; (try simp (disch := omega) only [wrap_sm] at *); omega)
    · subst hF hU; simp only [real, us, Nat.le_eq, Int.cast_ofNat_Int, decide_eq_false_iff_not, decide_eq_true_eq] at *
      rw [put_mod]
      rw [List.length_append, putK_len]
      omega
    · refine ⟨(i + 1 : Nat), ?_⟩
      cbv; subst hF hU; simp only [real, us, Nat.le_eq, Int.cast_ofNat_Int, decide_eq_false_iff_not, decide_eq_true_eq] at *
      rw [put_mod]
      exact ⟨by omega, by omega, ⟨wrap_sm (by omega) (by omega), trivial⟩, rfl, trivial⟩
    · have hi2 : i = ns.length := by
        subst hF; simp only [real, decide_eq_true_eq] at *; omega
      refine ⟨(0 : Nat), ?_⟩
      cbv; subst hF hU; simp only [real, us, Nat.le_eq, Int.cast_ofNat_Int, decide_eq_false_iff_not, decide_eq_true_eq] at *
      rw [hi2]
      refine ⟨Nat.zero_le _, ⟨⟨rfl, ?_⟩, trivial⟩, rfl, trivial⟩
      cases u_rowsP ns s ns.length <;> rfl
    · intro (j : Nat) hj
      replace hj : F.pLe j (F.lenQ ns) := hj
      have hlj := rowsP_len ns s j
      have rf : s.length ≤ 100 → j < ns.length → _ := fun a b => rows_facts ns s j a b
      have mk := mask_eq (ns.getD j 0) (j % 9)
      have hm : (j : Int).tmod 9 = ((j % 9 : Nat) : Int) := rfl
      have hd : 0 ≤ ns.length := Nat.zero_le _
      have hne : ∀ a b : UInt64, a.toNat = b.toNat → ¬ (!(a == b)) = false → False := fun a b h h2 => h2 (by rw [UInt64.toNat_inj.1 h]; simp)
      have hns := (ns.getD j 0).toNat_lt
      cbv
      repeat' first | apply And.intro | refine Classical.or_iff_not_imp_left.2 (fun _ => ?_) | exact trivial
      all_goals try (subst hF hU; simp only [real, us, Nat.le_eq, Int.cast_ofNat_Int, decide_eq_false_iff_not, decide_eq_true_eq, List.length_take, List.length_drop, List.length_append, List.length_replicate, List.length_set, List.length_cons, List.length_nil, List.length_zipWith] at *; (try simp (disch := omega) only [wrap_sm] at *); omega)
      all_goals try (refine ⟨(j + 1 : Nat), ?_⟩; cbv)
      all_goals subst hF hU
      all_goals simp only [real, us, Int.cast_ofNat_Int, decide_eq_false_iff_not, decide_eq_true_eq] at *
      all_goals try (obtain ⟨v1, v2, v3, v4, v5, v6, v7, v8⟩ := rf (by omega) (by omega); simp only [v2, v3, v4, v5, v6, beq_self_eq_true, Bool.not_true, not_true_eq_false] at *; omega)
      all_goals try (obtain ⟨v1, v2, v3, v4, v5, v6, v7, v8⟩ := rf (by omega) (by omega); simp only [v2, v3, v4, v5, v6, beq_self_eq_true, Bool.not_true, not_true_eq_false] at *; done)
      all_goals have hm2 : (j : Int).tmod 9 = ((j % 9 : Nat) : Int) := rfl
      all_goals try (obtain ⟨v1, v2, v3, v4, v5, v6, v7, v8⟩ := rf (by omega) (by omega); simp only [v2, v5, Nat.le_eq, Nat.succ_eq_add_one]; exact ⟨by omega, by omega, ⟨⟨by omega, by omega⟩, wrap_sm (by omega) (by omega), trivial⟩, trivial⟩)
      all_goals try (exfalso; obtain ⟨v1, v2, v3, v4, v5, v6, v7, v8⟩ := rf (by omega) (by omega); exact hne _ _ (v1.trans (mk (by omega)).symm) (by assumption))
      all_goals try (exfalso; obtain ⟨v1, v2, v3, v4, v5, v6, v7, v8⟩ := rf (by omega) (by omega); exact hne _ _ (v1.trans (by rw [show j % 9 = 8 by omega]; exact Nat.mod_eq_of_lt hns)) (by assumption))
      all_goals have ht : (u_text s).length = 2 + s.length := text_len s (by omega)
      all_goals have hk := ct_mod ct (u_text s).length
      all_goals have hlt : ct.toNat % (u_text s).length < (u_text s).length := Nat.mod_lt _ (by omega)
      all_goals try rw [hk]
      all_goals try rw [Int.toNat_natCast]
      all_goals try omega
      all_goals try (rw [beq_iff_eq, List.drop_zero]; exact gtE_cut s (by omega) _ (by omega))
      all_goals try (rw [beq_iff_eq, cut_all, wrap_sm (by omega) (by omega)]; exact gtE_long s (by omega))
      all_goals try (rw [beq_iff_eq, show j = ns.length by omega]; simp; done)
end Go.Proofs.Ytegnmmfjbncgnaa
namespace Go.Proofs.Ytegnmmfjbncgnaa.bitsRows
open Go.ChangeShapes Go.WideShapes Go.ChangeAt Go.RowKit
set_option linter.unusedVariables false
theorem own : ownKnob Try.prog.godebug = none := by kernel_rfl
theorem laidOut : laidOutB Try.prog = true := by kernel_rfl
set_option maxRecDepth 100000 in
theorem lifted (os : Os) (started : os.Started) (H : Type) (enc : TypeId × Value → H) :
    ReturnsInHanded {} Try.checked os 8 .any (Rows.bitsRowsSpec.pre6 enc Try.prog Try.f8 Rows.bitsRowsRow.domain false) (Rows.bitsRowsSpec.post enc Try.prog Try.f8 false true false false) := by
  refine returnsInHanded_of_change (C := Try.checked) own started (by kernel_rfl) Try.func8
    (ChangeSpec.witness6 (enc := enc) (C := Try.checked) false ⟨#[], #[.slice none 0 0, .string ByteArray.empty, .int .u8 0], []⟩ 8 (by kernel_rfl) (by kernel_rfl) (by kernel_rfl) (by kernel_rfl)) ?_
  intro W base args ds gs before hval0 hW hcnd _
  have hval : ∀ (j : Nat) t v, Try.f8.params[j]? = some t → args[j]? = some v → Value.okWide Try.prog W .any base t v := hval0
  have hW' := hW
  obtain ⟨p, q, hA0, hV, rfl, hfz, hnd⟩ := hW
  have hA : DataW.TrodAll enc Try.prog W 0 (fun _ => true) true Try.f8.params.toList args.toList ds p := hA0
  rw [Try.params8] at hA hval
  obtain ⟨v0, vs0, d0, ds0, p0, q0, hargs, rfl, rfl, h0, r0⟩ := trodAll_cons hA
  obtain ⟨v1, vs1, d1, ds1, p1, q1, rfl, rfl, rfl, h1, r1⟩ := trodAll_cons r0
  obtain ⟨v2, vs2, d2, ds2, p2, q2, rfl, rfl, rfl, h2, r2⟩ := trodAll_cons r1
  obtain ⟨rfl, rfl, rfl⟩ := trodAll_nil r2
  obtain rfl : args = #[v0, v1, v2] := by cases args; simp_all
  obtain ⟨rfl, rfl⟩ := trodVars_none hV
  obtain ⟨ns, k0, q0⟩ := Go.Vc.openL64 Try.underlying47 Try.underlying33 (by kernel_rfl) (hval 0 47 v0 rfl rfl) h0
  obtain ⟨s, k1, q1⟩ := Go.Vc.openS Try.underlying9 (hval 1 9 v1 rfl rfl) h1
  obtain ⟨ct, k2⟩ := Go.Vc.open8 Try.underlying5 (hval 2 5 v2 rfl rfl) h2
  clear hA0 hval0
  refine (Go.Vc.law_walk2 (x := x_law1_BitsRows Go.Vc.real us) (an := (an_law1_BitsRows Go.Vc.real us ns s ct)) (cu := []) (l := [.rb 1 (.ww ns), .s s, .w8 ct]) (vals := [v0, v1, v2]) ⟨tt_ok, ok_law1_BitsRows, Go.Vc.ks_nil⟩ mixed Try.func8 rfl rfl (by kernel_rfl) (Nat.le_of_ble_eq_true rfl) (Go.Vc.rvs_cons k0 (Go.Vc.rvs_cons k1 (Go.Vc.rvs_cons k2 Go.Vc.rvs_nil))) (c_law1_BitsRows ns s ct q0 q1)).mono fun e W' ⟨he, bel⟩ => ?_
  subst he
  exact ⟨_, rfl, Go.Vc.post_true (tb := 4) laidOut (by kernel_rfl) rfl Try.underlying4 rfl hW' rfl bel⟩
theorem over : Rows.bitsRowsRow.holds Try.pinned (OpenSpec.ofChange Rows.bitsRowsSpec) :=
  OpenClaim.holds_of_wide 8 Try.f8 rfl rfl rfl rfl rfl rfl rfl ⟨rfl, rfl, rfl, rfl, rfl⟩ rfl rfl rfl rfl rfl (by kernel_rfl) Try.func8 (by kernel_rfl)
    (of_decide_eq_true (by kernel_rfl)) (by unfold Func.isWrapper; first | (rw [if_pos (by decide +kernel)]; kernel_rfl) | (rw [if_neg (by decide +kernel)]; exact ⟨rfl, rfl⟩))
    (fun os started H enc _ => lifted os started H enc)
theorem proved : Rows.BitsRowsSaid := over
#print axioms proved
end Go.Proofs.Ytegnmmfjbncgnaa.bitsRows

