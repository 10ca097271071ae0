/- The given statement is proved: for every input the law's function answers true. No condition. -/
import Derived.Test.YtmldccfchnlpgaaRows
import Derived.Test.YtmldccfchnlpgaaPart6
import Derived.WalkKit
import Derived.ProofKit
import Derived.OpenShut
import Derived.ShutString
set_option linter.unusedVariables false
set_option linter.unusedSimpArgs false
set_option maxRecDepth 100000
set_option maxHeartbeats 1000000
namespace Go.Proofs.Ytmldccfchnlpgaa
open Go Go.Vc
def kkL (n : UInt8) : Nat → List (List UInt8)
  | 0 => []
  | i + 1 => kkL n i ++ [[107, UInt8.ofNat i] ++ List.replicate (n.toNat % 10) 0]
def keyAt (n : UInt8) (i : Nat) : List UInt8 := [107, UInt8.ofNat i] ++ List.replicate (n.toNat % 10) 0
theorem kkL_len (n : UInt8) : ∀ i, (kkL n i).length = i
  | 0 => rfl
  | i + 1 => by rw [kkL, List.length_append, kkL_len n i]; rfl
theorem kkL_get (n : UInt8) (j : Nat) : ∀ i, j < i → (kkL n i).getD j [] = keyAt n j
  | 0, h => absurd h (Nat.not_lt_zero j)
  | i + 1, h => by
    rw [kkL, List.getD_eq_getElem?_getD]
    by_cases e : j = i
    · subst e
      rw [List.getElem?_append_right (by rw [kkL_len]; omega), kkL_len, Nat.sub_self]
      rfl
    · rw [List.getElem?_append_left (by rw [kkL_len]; omega)]
      have := kkL_get n j i (by omega)
      rw [List.getD_eq_getElem?_getD] at this
      exact this
theorem keyAt_len (n : UInt8) (i : Nat) : (keyAt n i).length = 2 + n.toNat % 10 := by
  unfold keyAt
  rw [List.length_append, List.length_replicate]; rfl
theorem key_lt (n : UInt8) (i : Nat) (h : i + 1 < 256) : Op.bytesLess (keyAt n i) (keyAt n (i + 1)) = true := by
  show (decide ((107 : UInt8) < 107) || ((107 : UInt8) == 107 && (decide (UInt8.ofNat i < UInt8.ofNat (i + 1)) || _))) = true
  have e : UInt8.ofNat i < UInt8.ofNat (i + 1) := by
    rw [UInt8.lt_iff_toNat_lt, UInt8.toNat_ofNat', UInt8.toNat_ofNat']
    omega
  rw [decide_eq_true e]
  simp
theorem kk_ok (n : UInt8) (m : Nat) (hm : m ≤ 60) : ∀ i, i ≤ m → u_okK (kkL n m) i = true
  | 0, _ => rfl
  | i + 1, h => by
    have ih := kk_ok n m hm i (by omega)
    rw [u_okK, ih, Bool.true_and]
    have hl := keyAt_len n i
    unfold u_okQ u_isKey
    rw [kkL_get n i m (by omega), decide_eq_true (show 1 ≤ (keyAt n i).length by omega), decide_eq_true (show (keyAt n i).length ≤ 60 by omega)]
    cases i with
    | zero => rfl
    | succ j =>
      have e : real.ltS ((kkL n m).getD (j + 1 - 1) []) (keyAt n (j + 1)) = true := by
        rw [Nat.add_sub_cancel, kkL_get n j m (by omega)]
        exact key_lt n j (by omega)
      rw [e]
      simp
theorem kk_sz (n : UInt8) (m : Nat) (hm : m ≤ 60) : ∀ i, i ≤ m → u_bsz (kkL n m) i = 7 + (i : Int) * (8 + ((n.toNat % 10 : Nat) : Int))
  | 0, _ => by simp [u_bsz]
  | i + 1, h => by
    have ih := kk_sz n m hm i (by omega)
    have hl := keyAt_len n i
    have hw : n.toNat % 10 < 10 := Nat.mod_lt _ (by decide)
    obtain ⟨w, hw2⟩ : ∃ w, w = n.toNat % 10 := ⟨_, rfl⟩
    rw [u_bsz, ih, kkL_get n i m (by omega), hl, ← hw2]
    rw [← hw2] at hw
    have hx : (i : Int) * (8 + (w : Int)) ≤ 60 * 17 := Int.mul_le_mul (by omega) (by omega) (by omega) (by omega)
    rw [show ((i + 1 : Nat) : Int) * (8 + (w : Int)) = (i : Int) * (8 + (w : Int)) + (8 + (w : Int)) by rw [show ((i + 1 : Nat) : Int) = (i : Int) + 1 by omega, Int.add_mul, Int.one_mul]]
    omega
theorem kk_E (n : UInt8) (m : Nat) (hm : m ≤ 60) (h1 : 1 ≤ m) (kids : List UInt32) (hk : kids.length = m + 1) : u_brE (kkL n m) kids = if 480 < 7 + (m : Int) * (8 + ((n.toNat % 10 : Nat) : Int)) then 11 else 0 := by
  have h0 : ¬ ((kkL n m).length = 0 ∨ kids.length ≠ (kkL n m).length + 1 ∨ u_okK (kkL n m) (kkL n m).length = false) := by
    rw [kkL_len, hk, kk_ok n m hm m (Nat.le_refl _)]
    intro h
    rcases h with h | h | h
    · omega
    · exact h rfl
    · cases h
  unfold u_brE
  rw [if_neg h0, kkL_len, kk_sz n m hm m (Nat.le_refl _)]
noncomputable abbrev wM (n : UInt8) : Int := real.wrapi (real.toI8 (real.rem8 n (real.ofI8 (real.int 10))))
theorem wM_eq (n : UInt8) : wM n = ((n.toNat % 10 : Nat) : Int) := by
  have h : (n % 10).toNat = n.toNat % 10 := by rw [UInt8.toNat_mod]; rfl
  have hw : n.toNat % 10 < 10 := Nat.mod_lt _ (by decide)
  show IntKind.i64.wrap (((n % 10).toNat : Nat) : Int) = _
  rw [h, wrap_sm (by omega) (by omega)]
theorem wM_lt (n : UInt8) : n.toNat % 10 < 10 := Nat.mod_lt _ (by decide)
noncomputable abbrev szM (n : UInt8) (m k : Nat) : Int := real.addi (real.addi (real.int 3) (real.muli (real.int m) (real.addi (real.int 4) (wM n)))) (real.muli (real.int 4) (real.int k))
theorem szM_eq (n : UInt8) (m : Nat) (hm : m ≤ 60) : szM n m (m + 1) = 7 + (m : Int) * (8 + ((n.toNat % 10 : Nat) : Int)) := by
  have hw := wM_lt n
  unfold szM
  rw [wM_eq]
  obtain ⟨w, hw2⟩ : ∃ w, w = n.toNat % 10 := ⟨_, rfl⟩
  rw [← hw2] at hw ⊢
  have hx : (m : Int) * (4 + (w : Int)) ≤ 60 * 13 := Int.mul_le_mul (by omega) (by omega) (by omega) (by omega)
  have hy : 0 ≤ (m : Int) * (4 + (w : Int)) := Int.mul_nonneg (by omega) (by omega)
  have e1 : real.addi (real.int 4) (w : Int) = 4 + (w : Int) := by
    show IntKind.i64.wrap (4 + (w : Int)) = _
    rw [wrap_sm (by omega) (by omega)]
  have e2 : real.muli (real.int m) (4 + (w : Int)) = (m : Int) * (4 + (w : Int)) := by
    show IntKind.i64.wrap ((m : Int) * (4 + (w : Int))) = _
    rw [wrap_sm (by omega) (by omega)]
  have e3 : real.addi (real.int 3) ((m : Int) * (4 + (w : Int))) = 3 + (m : Int) * (4 + (w : Int)) := by
    show IntKind.i64.wrap (3 + (m : Int) * (4 + (w : Int))) = _
    rw [wrap_sm (by omega) (by omega)]
  have e4 : real.muli (real.int 4) (real.int (m + 1)) = 4 * ((m : Int) + 1) := by
    show IntKind.i64.wrap (4 * ((m + 1 : Nat) : Int)) = _
    rw [wrap_sm (by omega) (by omega)]; omega
  rw [e1, e2, e3, e4]
  show IntKind.i64.wrap (3 + (m : Int) * (4 + (w : Int)) + 4 * ((m : Int) + 1)) = _
  rw [wrap_sm (by omega) (by omega)]
  simp only [Int.mul_add] at *
  omega
theorem p10 : real.pNe (real.toI8 (real.ofI8 (real.int 10))) := by show ¬ (_ = _); decide
theorem w0 (n : UInt8) : real.p0 (wM n) := by
  rw [wM_eq]; show (0 : Int) ≤ _; omega
theorem wMk (n : UInt8) : real.pMk (wM n) 1 := by
  have hw := wM_lt n
  rw [wM_eq]
  show 0 ≤ ((n.toNat % 10 : Nat) : Int) ∧ ((n.toNat % 10 : Nat) : Int) * ((1 : Nat) : Int) ≤ 281474976710656 ∧ ((n.toNat % 10 : Nat) : Int) ≤ 4611686018427387904
  omega
theorem zw (n : UInt8) : real.repB (real.nat (wM n)) = List.replicate (n.toNat % 10) 0 := by rw [wM_eq]; rfl
theorem capK (n : UInt8) (x y : UInt8) : real.pCap (real.addn (real.lenB [x, y]) (real.lenB (real.repB (real.nat (wM n))))) 1 := by
  have hw := wM_lt n
  rw [zw]
  have e : real.lenB (List.replicate (n.toNat % 10) (0 : UInt8)) = n.toNat % 10 := List.length_replicate ..
  rw [e]
  show (2 + n.toNat % 10) * 1 ≤ 140737488355328 ∧ 2 + n.toNat % 10 ≤ 4611686018427387904
  omega
theorem capS {ks : List (List UInt8)} {n : UInt8} {i : Nat} (h : ks = kkL n i) (hi : i ≤ 60) (x : List UInt8) : real.pCap (real.addn (real.lenS ks) (real.lenS [x])) 16 := by
  subst h
  have e : real.lenS (kkL n i) = i := kkL_len n i
  rw [e]
  show (i + 1) * 16 ≤ 140737488355328 ∧ i + 1 ≤ 4611686018427387904
  omega
theorem kk_step {ks : List (List UInt8)} {n : UInt8} {i : Nat} (h : ks = kkL n i) : real.appS ks [real.appB [real.ofI8 (real.int 107), real.ofI8 (real.int i)] (real.repB (real.nat (wM n)))] = kkL n (i + 1) := by
  subst h
  rw [zw, kkL]
  have e : real.ofI8 (real.int i) = UInt8.ofNat i := by
    show UInt8.ofNat ((i : Int) % 2 ^ 8).toNat = _
    apply UInt8.toNat_inj.1
    rw [UInt8.toNat_ofNat', UInt8.toNat_ofNat']
    omega
  rw [e]
  rfl
theorem lt_m {i : Nat} {kids : List UInt32} (hk1 : 2 ≤ kids.length) (hk2 : kids.length ≤ 60) (h : ¬ real.pB (real.lti (real.int i) (real.subi (real.int (real.lenW kids)) (real.int 1))) false) : i + 1 < kids.length := by
  have e : real.subi (real.int (real.lenW kids)) (real.int 1) = ((kids.length - 1 : Nat) : Int) := by
    show IntKind.i64.wrap ((kids.length : Int) - 1) = _
    rw [wrap_sm (by omega) (by omega)]; omega
  rw [e] at h
  have := lt_g (n := kids.length - 1) h
  omega
theorem ge_m {i : Nat} {kids : List UInt32} (hk1 : 2 ≤ kids.length) (hk2 : kids.length ≤ 60) (h : ¬ real.pB (real.lti (real.int i) (real.subi (real.int (real.lenW kids)) (real.int 1))) true) : kids.length ≤ i + 1 := by
  have e : real.subi (real.int (real.lenW kids)) (real.int 1) = ((kids.length - 1 : Nat) : Int) := by
    show IntKind.i64.wrap ((kids.length : Int) - 1) = _
    rw [wrap_sm (by omega) (by omega)]; omega
  rw [e] at h
  have := ge_g (n := kids.length - 1) h
  omega
section
variable {ks : List (List UInt8)} {n : UInt8} {i : Nat} {kids : List UInt32} (hks : ks = kkL n i) (hi1 : 1 ≤ i) (hi2 : i ≤ 60) (hk : kids.length = i + 1)
include hks hi1 hi2 hk
omit hi1 in
theorem r_sz : szM n (real.lenS ks) (real.lenW kids) = 7 + (i : Int) * (8 + ((n.toNat % 10 : Nat) : Int)) := by
  subst hks
  have e1 : real.lenS (kkL n i) = i := kkL_len n i
  have e2 : real.lenW kids = i + 1 := hk
  rw [e1, e2, szM_eq n i hi2]
theorem r_long (h : ¬ real.pB (real.lti (real.int 480) (szM n (real.lenS ks) (real.lenW kids))) false) : real.eqi (us.brE ks kids) (real.int 11) = true := by
  rw [r_sz hks hi2 hk] at h
  subst hks
  have e := kk_E n i hi2 hi1 kids hk
  have h1 : ¬ (decide ((480 : Int) < 7 + (i : Int) * (8 + ((n.toNat % 10 : Nat) : Int))) = false) := h
  rw [if_pos (by simpa using h1)] at e
  show (u_brE (kkL n i) kids == 11) = true
  rw [e]; rfl
theorem r_zero (h : ¬ real.pB (real.lti (real.int 480) (szM n (real.lenS ks) (real.lenW kids))) true) : u_brE ks kids = 0 := by
  rw [r_sz hks hi2 hk] at h
  subst hks
  have e := kk_E n i hi2 hi1 kids hk
  have h1 : ¬ (decide ((480 : Int) < 7 + (i : Int) * (8 + ((n.toNat % 10 : Nat) : Int))) = true) := h
  rw [if_neg (by simpa using h1)] at e
  exact e
theorem r_ok (h : ¬ real.pB (real.lti (real.int 480) (szM n (real.lenS ks) (real.lenW kids))) true) : real.pB (real.eqi (us.brE ks kids) (real.int 0)) true ∧ real.pB (real.eqi (us.rbE (us.brB ks kids)) (real.int 0)) true ∧ us.sam (us.rbK (us.brB ks kids)) (us.rbQ (us.brB ks kids)) ks kids = true ∧ real.pB (real.eqi (real.int (real.lenB (us.brB ks kids))) (szM n (real.lenS ks) (real.lenW kids))) true ∧ real.pLe (real.lenS (us.rbK (us.brB ks kids))) 1000000000000 ∧ real.pLe (real.lenW (us.rbQ (us.brB ks kids))) 1000000000000 := by
  have e0 := r_zero hks hi1 hi2 hk h
  obtain ⟨b1, b2, b3, _⟩ := br_back e0
  have b1 : us.rbE (us.brB ks kids) = 0 := b1
  have b2 : us.rbK (us.brB ks kids) = ks := b2
  have b3 : us.rbQ (us.brB ks kids) = kids := b3
  have hl : ks.length = i := by rw [hks, kkL_len]
  rw [b1, b2, b3, sam_self]
  refine ⟨?_, rfl, rfl, ?_, ?_, ?_⟩
  · have e0 : us.brE ks kids = 0 := e0
    rw [e0]; rfl
  · rw [r_sz hks hi2 hk]
    show (((u_brB ks kids).length : Int) == _) = true
    have hb : ((u_brP ks ks.length).length : Int) + 4 * ks.length + 4 = u_bsz ks ks.length := brP_len ks.length (br_parts e0).2.2.1 (by have := (br_parts e0).2.2.2.1; omega)
    have hr := brR_len ks kids kids.length
    rw [brB_eq e0, beq_iff_eq]
    have hz : u_bsz ks ks.length = 7 + (i : Int) * (8 + ((n.toNat % 10 : Nat) : Int)) := by
      rw [hl, hks]; exact kk_sz n i hi2 i (Nat.le_refl _)
    rw [← hz, ← hb]
    omega
  · show ks.length ≤ _
    omega
  · show kids.length ≤ _
    omega
end
theorem k_fitB (ks : List (List UInt8)) (kids : List UInt32) : real.pLe (real.lenB (us.brB ks kids)) 900000 := by
  have := br_long ks kids
  show (u_brB ks kids).length ≤ 900000
  omega
attribute [local irreducible] kkL u_brE u_brB u_bf u_sam
end Go.Proofs.Ytmldccfchnlpgaa
namespace Go.Proofs.Ytmldccfchnlpgaa
open Go Go.Vc
noncomputable def sp_law8_NodeKids (F : Fs) (U : Us) : Specs := [(48, s_law8_known F U), (50, s_node_Branch F U), (52, s_node_ReadBranch F U), (53, s_law8_same F U)]
theorem ok_law8_NodeKids : SpecsOK Try.prog (sp_law8_NodeKids real us) := sp_cons r_law8_known k_law8_known (sp_cons r_node_Branch k_node_Branch (sp_cons r_node_ReadBranch k_node_ReadBranch (sp_cons r_law8_same k_law8_same sp_nil)))
noncomputable def an_law8_NodeKids (F : Fs) (U : Us) (n : UInt8) (kids : List UInt32) : Anns := [(7, ⟨Nat × List (List UInt8), fun s => F.pLe (F.addn s.1 1) (F.lenW kids) ∧ s.2 = kkL n s.1, fun s => F.subn (F.lenW kids) s.1, fun s => ⟨[(0, .w8 n), (1, .rb 1 (.wd kids)), (5, .rw 1), (6, .i (F.int s.1))], [(5, 1, .row 9 1 (.ss s.2))]⟩⟩)]
noncomputable def x_law8_NodeKids (F : Fs) (U : Us) : Cx := ⟨Try.f11.ntmps, tt F, sp_law8_NodeKids F U, [], [(9, ([(7, [2, 3, 4]), (8, [2, 3, 4]), (9, [2, 3, 4])], []))], [], []⟩
theorem c_law8_NodeKids (n : UInt8) (kids : List UInt32) (q1 : kids.length ≤ 9223372036854775807) : vc real (x_law8_NodeKids real us) (an_law8_NodeKids real us n kids) [] (Try.f11.body.getD .skip) ⟨zipSl 0 [.w8 n, .rb 1 (.wd kids)], [], 64⟩ (retOk real (tt real) false Try.f11.results.toList [.val (.b true)]) := by
  generalize hU : us = U
  generalize hF : real = F
  cbv
  repeat' first | apply And.intro | refine Classical.or_iff_not_imp_left.2 (fun _ => ?_) | exact trivial
  all_goals try (subst hF hU; simp only [real, us, Nat.le_eq, Int.cast_ofNat_Int, decide_eq_false_iff_not, decide_eq_true_eq, List.length_take, List.length_drop, List.length_append, List.length_replicate, List.length_set, List.length_cons, List.length_nil, List.length_zipWith] at *; (try simp (disch := omega) only [wrap_sm] at *); omega)
  · rename_i g1 g2
    have hk1 : 2 ≤ kids.length := by subst hF; exact ge_g (j := kids.length) (n := 2) g1
    refine ⟨((0, []) : Nat × List (List UInt8)), ?_⟩
    cbv; subst hF hU
    exact ⟨⟨Nat.le_trans (by decide) hk1, trivial⟩, trivial⟩
  · rename_i g1 g2
    have hk1 : 2 ≤ kids.length := by subst hF; exact ge_g (j := kids.length) (n := 2) g1
    have hk2 : kids.length ≤ 60 := by subst hF; exact ge_g (n := kids.length) g2
    clear g1 g2
    rintro ⟨(i : Nat), (ks : List (List UInt8))⟩ ⟨hi, hks⟩
    have h1 : i + 1 ≤ kids.length := by subst hF; exact hi
    have hks : ks = kkL n i := hks
    clear hi
    have a1 : F.pNe (F.toI8 (F.ofI8 (F.int 10))) := by subst hF; exact p10
    have a2 : F.p0 (F.wrapi (F.toI8 (F.rem8 n (F.ofI8 (F.int 10))))) := by subst hF; exact w0 n
    have a3 : F.pMk (F.wrapi (F.toI8 (F.rem8 n (F.ofI8 (F.int 10))))) 1 := by subst hF; exact wMk n
    have a4 : F.pCap (F.addn (F.lenB [F.ofI8 (F.int 107), F.ofI8 (F.int i)]) (F.lenB (F.repB (F.nat (F.wrapi (F.toI8 (F.rem8 n (F.ofI8 (F.int 10))))))))) 1 := by subst hF; exact capK n _ _
    have a5 : ∀ x, F.pCap (F.addn (F.lenS ks) (F.lenS [x])) 16 := by subst hF; exact capS hks (by omega)
    have a6 : F.appS ks [F.appB [F.ofI8 (F.int 107), F.ofI8 (F.int i)] (F.repB (F.nat (F.wrapi (F.toI8 (F.rem8 n (F.ofI8 (F.int 10)))))))] = kkL n (i + 1) := by subst hF; exact kk_step hks
    have a7 : ¬ F.pB (F.lti (F.int i) (F.subi (F.int (F.lenW kids)) (F.int 1))) false → i + 1 < kids.length := by subst hF; exact lt_m hk1 hk2
    have a8 : ¬ F.pB (F.lti (F.int i) (F.subi (F.int (F.lenW kids)) (F.int 1))) true → kids.length ≤ i + 1 := by subst hF; exact ge_m hk1 hk2
    have a9 : F.pLe (F.lenB (U.brB ks kids)) 900000 := by subst hF hU; exact k_fitB ks kids
    have b1 : ¬ F.pB (F.lti (F.int i) (F.subi (F.int (F.lenW kids)) (F.int 1))) true → ¬ F.pB (F.lti (F.int 480) (F.addi (F.addi (F.int 3) (F.muli (F.int (F.lenS ks)) (F.addi (F.int 4) (F.wrapi (F.toI8 (F.rem8 n (F.ofI8 (F.int 10)))))))) (F.muli (F.int 4) (F.int (F.lenW kids))))) false → F.eqi (U.brE ks kids) (F.int 11) = true := by subst hF hU; exact fun g h => r_long hks (by have := ge_m hk1 hk2 g; omega) (by omega) (by have := ge_m hk1 hk2 g; omega) h
    have b2 : ¬ F.pB (F.lti (F.int i) (F.subi (F.int (F.lenW kids)) (F.int 1))) true → ¬ F.pB (F.lti (F.int 480) (F.addi (F.addi (F.int 3) (F.muli (F.int (F.lenS ks)) (F.addi (F.int 4) (F.wrapi (F.toI8 (F.rem8 n (F.ofI8 (F.int 10)))))))) (F.muli (F.int 4) (F.int (F.lenW kids))))) true → F.pB (F.eqi (U.brE ks kids) (F.int 0)) true ∧ F.pB (F.eqi (U.rbE (U.brB ks kids)) (F.int 0)) true ∧ U.sam (U.rbK (U.brB ks kids)) (U.rbQ (U.brB ks kids)) ks kids = true ∧ F.pB (F.eqi (F.int (F.lenB (U.brB ks kids))) (F.addi (F.addi (F.int 3) (F.muli (F.int (F.lenS ks)) (F.addi (F.int 4) (F.wrapi (F.toI8 (F.rem8 n (F.ofI8 (F.int 10)))))))) (F.muli (F.int 4) (F.int (F.lenW kids))))) true ∧ F.pLe (F.lenS (U.rbK (U.brB ks kids))) 1000000000000 ∧ F.pLe (F.lenW (U.rbQ (U.brB ks kids))) 1000000000000 := by subst hF hU; exact fun g h => r_ok hks (by have := ge_m hk1 hk2 g; omega) (by omega) (by have := ge_m hk1 hk2 g; omega) h
    cbv
    repeat' first | apply And.intro | refine Classical.or_iff_not_imp_left.2 (fun _ => ?_) | exact trivial
    all_goals try (subst hF hU; simp only [real, us, Nat.le_eq, Int.cast_ofNat_Int, decide_eq_false_iff_not, decide_eq_true_eq, List.length_take, List.length_drop, List.length_append, List.length_replicate, List.length_set, List.length_cons, List.length_nil, List.length_zipWith] at *; (try simp (disch := omega) only [wrap_sm] at *); omega)
    all_goals first
      | exact a1
      | exact a2
      | exact a3
      | exact a4
      | exact a5 _
      | exact a9
      | exact b1 (by assumption) (by assumption)
      | exact (b2 (by assumption) (by assumption)).2.2.2.2.1
      | exact (b2 (by assumption) (by assumption)).2.2.2.2.2
      | exact (b2 (by assumption) (by assumption)).2.2.1
      | (exfalso; rename_i h; exact h (b2 (by assumption) (by assumption)).2.1)
      | (exfalso; rename_i h; exact h (b2 (by assumption) (by assumption)).2.2.2.1)
      | (exfalso; rename_i h; exact h (b2 (by assumption) (by assumption)).1)
      | (subst hF; show ks.length ≤ _; rw [hks, kkL_len]; omega)
      | skip
    · rename_i g1
      have hlt := a7 g1
      have a0 : F.pLe (F.addn (i + 1) 1) (F.lenW kids) := by subst hF; exact hlt
      clear a1 a2 a3 a4 a5 a7 a8 a9 b1 b2
      refine ⟨((i + 1, F.appS ks [F.appB [F.ofI8 (F.int 107), F.ofI8 (F.int i)] (F.repB (F.nat (F.wrapi (F.toI8 (F.rem8 n (F.ofI8 (F.int 10)))))))]) : Nat × List (List UInt8)), ⟨a0, a6⟩, ?_⟩
      clear a0 a6
      cbv; subst hF hU
      exact ⟨sub_stepN (n := kids.length) (by omega), ⟨addi1 (by omega), trivial⟩, trivial⟩
end Go.Proofs.Ytmldccfchnlpgaa
namespace Go.Proofs.Ytmldccfchnlpgaa.nodeKids
open Go.ChangeShapes Go.WideShapes Go.ChangeAt Go.RowKit
set_option linter.unusedVariables false
theorem own : ownKnob Try.prog.godebug = none := by kernel_rfl
theorem laidOut : laidOutB Try.prog = true := p_laidOut
set_option maxRecDepth 100000 in
theorem lifted (os : Os) (started : os.Started) (H : Type) (enc : TypeId × Value → H) :
    ReturnsInHanded {} Try.checked os 11 .any (Rows.nodeKidsSpec.pre6 enc Try.prog Try.f11 Rows.nodeKidsRow.domain false) (Rows.nodeKidsSpec.post enc Try.prog Try.f11 false true false false) := by
  refine returnsInHanded_of_change (C := Try.checked) own started (by kernel_rfl) Try.func11
    (ChangeSpec.witness6 (enc := enc) (C := Try.checked) false ⟨#[], #[.int .u8 0, .slice none 0 0], []⟩ 8 (by kernel_rfl) (by kernel_rfl) (by kernel_rfl) (by kernel_rfl)) ?_
  intro W base args ds gs before hval0 hW hcnd _
  have hval : ∀ (j : Nat) t v, Try.f11.params[j]? = some t → args[j]? = some v → Value.okWide Try.prog W .any base t v := hval0
  have hW' := hW
  obtain ⟨p, q, hA0, hV, rfl, hfz, hnd⟩ := hW
  have hA : DataW.TrodAll enc Try.prog W 0 (fun _ => true) true Try.f11.params.toList args.toList ds p := hA0
  rw [Try.params11] at hA hval
  obtain ⟨v0, vs0, d0, ds0, p0, q0, hargs, rfl, rfl, h0, r0⟩ := trodAll_cons hA
  obtain ⟨v1, vs1, d1, ds1, p1, q1, rfl, rfl, rfl, h1, r1⟩ := trodAll_cons r0
  obtain ⟨rfl, rfl, rfl⟩ := trodAll_nil r1
  obtain rfl : args = #[v0, v1] := by cases args; simp_all
  obtain ⟨rfl, rfl⟩ := trodVars_none hV
  obtain ⟨n, k0⟩ := Go.Vc.open8 Try.underlying5 (hval 0 5 v0 rfl rfl) h0
  obtain ⟨kids, k1, q1⟩ := Go.Vc.openL32 Try.underlying59 Try.underlying22 (by kernel_rfl) (hval 1 59 v1 rfl rfl) h1
  clear hA0 hval0
  refine (Go.Vc.law_walk2 (x := x_law8_NodeKids Go.Vc.real us) (an := (an_law8_NodeKids Go.Vc.real us n kids)) (cu := []) (l := [.w8 n, .rb 1 (.wd kids)]) (vals := [v0, v1]) ⟨tt_ok, ok_law8_NodeKids, Go.Vc.ks_nil⟩ mixed Try.func11 rfl rfl (by kernel_rfl) (Nat.le_of_ble_eq_true rfl) (Go.Vc.rvs_cons k0 (Go.Vc.rvs_cons k1 Go.Vc.rvs_nil)) (c_law8_NodeKids n kids q1)).mono fun e W' ⟨he, bel⟩ => ?_
  subst he
  exact ⟨_, rfl, Go.Vc.post_true (tb := 4) laidOut (by kernel_rfl) rfl Try.underlying4 rfl hW' rfl bel⟩
theorem over : Rows.nodeKidsRow.holds Try.pinned (OpenSpec.ofChange Rows.nodeKidsSpec) :=
  OpenClaim.holds_of_wide 11 Try.f11 rfl rfl rfl rfl rfl rfl rfl ⟨rfl, rfl, rfl, rfl, rfl⟩ rfl rfl rfl rfl rfl (by kernel_rfl) Try.func11 (Go.Vc.joined_of p_laidOut p_maps p_stops p_knobs p_heard p_mayEnter p_lifts p_make rfl rfl (by kernel_rfl) (by kernel_rfl) (by kernel_rfl) (by kernel_rfl) (by kernel_rfl) (by kernel_rfl) (by kernel_rfl) (by kernel_rfl) (by kernel_rfl) (by kernel_rfl) (by kernel_rfl) (by kernel_rfl) (by kernel_rfl) (by kernel_rfl) (by kernel_rfl) (by kernel_rfl) (by kernel_rfl) (by kernel_rfl) (by kernel_rfl) (by kernel_rfl) (by kernel_rfl) (by kernel_rfl) (by kernel_rfl) (by kernel_rfl) )
    (of_decide_eq_true (by kernel_rfl)) (by unfold Func.isWrapper; first | (rw [if_pos (by decide +kernel)]; kernel_rfl) | (rw [if_neg (by decide +kernel)]; exact ⟨rfl, rfl⟩))
    (fun os started H enc _ => lifted os started H enc)
theorem proved : Rows.NodeKidsSaid := over
#print axioms proved
end Go.Proofs.Ytmldccfchnlpgaa.nodeKids

