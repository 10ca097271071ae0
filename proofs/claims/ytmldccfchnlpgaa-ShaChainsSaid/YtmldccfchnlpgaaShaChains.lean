/- The given statement is proved: for every input the law's function answers true. No condition. -/
import Derived.Test.YtmldccfchnlpgaaRows
import Derived.Test.YtmldccfchnlpgaaPart5
import Derived.Test.YtmldccfchnlpgaaPart6
import Derived.WalkKit
import Derived.ProofKit
import Derived.OpenShut
import Derived.ShutString
set_option linter.unusedVariables false
set_option linter.unusedSimpArgs false
set_option maxRecDepth 100000
set_option maxHeartbeats 1000000
namespace Go.Proofs.Ytmldccfchnlpgaa
attribute [local irreducible] u_sched u_rnds u_kc u_add u_blks u_first u_next u_padZ u_padP u_pad u_outB u_nblk u_fin u_ws u_wr u_sum u_outF u_hex u_hexP
open Go Go.Vc
theorem chn_len (b : List UInt8) : ∀ j, (u_chn b j).length = 32
  | 0 => sum_len _
  | j + 1 => sum_len _
theorem mid_len (b : List UInt8) (m i : Nat) : (u_mid b m i).length = 32 := by
  unfold u_mid; split <;> exact chn_len b _
/-- how long a chain, where it is cut -/
def kOf (n : UInt8) : Nat := (n % 20).toNat
def mOf (n a : UInt8) : Nat := a.toNat % (kOf n + 1)
theorem k20 (n : UInt8) : kOf n < 20 := by
  unfold kOf
  rw [UInt8.toNat_mod]
  exact Nat.mod_lt _ (by decide)
theorem k_eq (n : UInt8) : real.wrapi (real.toI8 (real.rem8 n (real.ofI8 (real.int 20)))) = (kOf n : Int) := by
  have := k20 n
  have e : real.ofI8 (real.int 20) = 20 := by decide
  rw [e]
  show IntKind.i64.wrap ((kOf n : Nat) : Int) = _
  rw [wrap_sm (by omega) (by omega)]
theorem k1_eq (n : UInt8) : real.addi (kOf n : Int) (real.int 1) = ((kOf n + 1 : Nat) : Int) := by
  have := k20 n
  show IntKind.i64.wrap ((kOf n : Int) + 1) = _
  rw [wrap_sm (by omega) (by omega)]; omega
theorem m_eq (n a : UInt8) : real.remi (real.wrapi (real.toI8 a)) (real.addi (kOf n : Int) (real.int 1)) = (mOf n a : Int) := by
  have h := a.toNat_lt
  rw [k1_eq]
  have e : real.wrapi (real.toI8 a) = (a.toNat : Int) := by
    show IntKind.i64.wrap ((a.toNat : Nat) : Int) = _
    rw [wrap_sm (by omega) (by omega)]
  rw [e]
  rfl
theorem p20 : real.pNe (real.toI8 (real.ofI8 (real.int 20))) := by show ¬ (_ = _); decide
theorem ke1 (n : UInt8) : real.pNe (real.addi (real.wrapi (real.toI8 (real.rem8 n (real.ofI8 (real.int 20))))) (real.int 1)) := by
  rw [k_eq, k1_eq]; show ¬ (_ = _); omega
theorem m_eq2 (n a : UInt8) : (real.remi (real.wrapi (real.toI8 a)) (real.addi (real.wrapi (real.toI8 (real.rem8 n (real.ofI8 (real.int 20))))) (real.int 1))) = (mOf n a : Int) := by rw [k_eq]; exact m_eq n a
theorem m_nat (n a : UInt8) : real.nat (real.remi (real.wrapi (real.toI8 a)) (real.addi (real.wrapi (real.toI8 (real.rem8 n (real.ofI8 (real.int 20))))) (real.int 1))) = mOf n a := by rw [m_eq2]; rfl
theorem k_nat (n : UInt8) : real.nat (real.wrapi (real.toI8 (real.rem8 n (real.ofI8 (real.int 20))))) = kOf n := by rw [k_eq]; rfl
theorem le_k {i : Nat} {n : UInt8} (h : i ≤ kOf n) : real.pLeI (real.int i) (real.wrapi (real.toI8 (real.rem8 n (real.ofI8 (real.int 20))))) := by rw [k_eq]; exact Int.ofNat_le.2 h
theorem k_le {i : Nat} {n : UInt8} (h : real.pLeI (real.int i) (real.wrapi (real.toI8 (real.rem8 n (real.ofI8 (real.int 20)))))) : i ≤ kOf n := by rw [k_eq] at h; exact Int.ofNat_le.1 h
theorem m_le {i : Nat} {n a : UInt8} (h : real.pLeI (real.remi (real.wrapi (real.toI8 a)) (real.addi (real.wrapi (real.toI8 (real.rem8 n (real.ofI8 (real.int 20))))) (real.int 1))) (real.int i)) : mOf n a ≤ i := by rw [m_eq2] at h; exact Int.ofNat_le.1 h
theorem le_m {i : Nat} {n a : UInt8} (h : mOf n a ≤ i) : real.pLeI (real.remi (real.wrapi (real.toI8 a)) (real.addi (real.wrapi (real.toI8 (real.rem8 n (real.ofI8 (real.int 20))))) (real.int 1))) (real.int i) := by rw [m_eq2]; exact Int.ofNat_le.2 h
theorem lt_k {i : Nat} {n : UInt8} (h : ¬ real.pB (real.lti (real.int i) (real.wrapi (real.toI8 (real.rem8 n (real.ofI8 (real.int 20)))))) false) : i < kOf n := by rw [k_eq] at h; exact lt_g h
theorem ge_k {i : Nat} {n : UInt8} (h : ¬ real.pB (real.lti (real.int i) (real.wrapi (real.toI8 (real.rem8 n (real.ofI8 (real.int 20)))))) true) : kOf n ≤ i := by rw [k_eq] at h; exact ge_g h
theorem eq_m {i : Nat} {n a : UInt8} (h : ¬ real.pB (real.eqi (real.int i) (real.remi (real.wrapi (real.toI8 a)) (real.addi (real.wrapi (real.toI8 (real.rem8 n (real.ofI8 (real.int 20))))) (real.int 1)))) false) : i = mOf n a := by
  rw [m_eq2] at h
  simp only [real, Bool.not_eq_false, beq_iff_eq] at h
  omega
theorem ne_m {i : Nat} {n a : UInt8} (h : ¬ real.pB (real.eqi (real.int i) (real.remi (real.wrapi (real.toI8 a)) (real.addi (real.wrapi (real.toI8 (real.rem8 n (real.ofI8 (real.int 20))))) (real.int 1)))) true) : i ≠ mOf n a := by
  rw [m_eq2] at h
  simp only [real, Bool.not_eq_true, beq_eq_false_iff_ne] at h
  omega
theorem mid_zero (b : List UInt8) (m : Nat) : u_sum b = u_mid b m 0 := by unfold u_mid; rw [if_neg (by omega)]; rfl
theorem mid_here (b : List UInt8) (i : Nat) : u_chn b i = u_mid b i (i + 1) := by unfold u_mid; rw [if_pos (by omega)]
theorem mid_on (b : List UInt8) (m i : Nat) (h : i ≠ m) : u_mid b m i = u_mid b m (i + 1) := by
  unfold u_mid
  by_cases e : m < i
  · rw [if_pos e, if_pos (by omega)]
  · rw [if_neg e, if_neg (by omega)]
theorem chn_step (b : List UInt8) (i : Nat) : us.sum (real.cutB (us.chn b i) 0 32) = us.chn b (i + 1) := by
  show u_sum (real.cutB (u_chn b i) 0 32) = _
  rw [cut32 _ (chn_len b i)]
  rfl
theorem mid_hereR {b : List UInt8} {i : Nat} {n a : UInt8} (h : i = mOf n a) : us.chn b i = us.mid b (real.nat (real.remi (real.wrapi (real.toI8 a)) (real.addi (real.wrapi (real.toI8 (real.rem8 n (real.ofI8 (real.int 20))))) (real.int 1)))) (i + 1) := by
  rw [m_nat, ← h]
  exact mid_here b i
theorem mid_onR {b : List UInt8} {i : Nat} {n a : UInt8} (h : i ≠ mOf n a) : us.mid b (real.nat (real.remi (real.wrapi (real.toI8 a)) (real.addi (real.wrapi (real.toI8 (real.rem8 n (real.ofI8 (real.int 20))))) (real.int 1)))) i = us.mid b (real.nat (real.remi (real.wrapi (real.toI8 a)) (real.addi (real.wrapi (real.toI8 (real.rem8 n (real.ofI8 (real.int 20))))) (real.int 1)))) (i + 1) := by
  rw [m_nat]
  exact mid_on b _ i h
theorem mid_endR {b c : List UInt8} {k : Nat} {n a : UInt8} (h : c = u_mid b (mOf n a) k) : us.mid b (real.nat (real.remi (real.wrapi (real.toI8 a)) (real.addi (real.wrapi (real.toI8 (real.rem8 n (real.ofI8 (real.int 20))))) (real.int 1)))) k = c := by
  rw [m_nat, h]; rfl
theorem chn_endR {b : List UInt8} {k : Nat} {n : UInt8} (h : k = kOf n) : us.chn b k = us.chn b (real.nat (real.wrapi (real.toI8 (real.rem8 n (real.ofI8 (real.int 20)))))) := by
  rw [k_nat, h]
theorem mid_chn {b c : List UInt8} {k m : Nat} {n a : UInt8} (hk : k = kOf n) (hm : m = mOf n a) (hc : c = u_mid b (mOf n a) k) (h : real.pB (real.lti (real.remi (real.wrapi (real.toI8 a)) (real.addi (real.wrapi (real.toI8 (real.rem8 n (real.ofI8 (real.int 20))))) (real.int 1))) (real.wrapi (real.toI8 (real.rem8 n (real.ofI8 (real.int 20)))))) true) : c = us.chn b m := by
  rw [m_eq2, k_eq] at h
  simp only [real, decide_eq_true_eq] at h
  rw [hc, hm]
  unfold u_mid
  rw [if_pos (by omega)]
  rfl
theorem m_lt (n a : UInt8) : mOf n a ≤ kOf n := by
  have := Nat.mod_lt a.toNat (show 0 < kOf n + 1 by omega)
  unfold mOf; omega
theorem on_step {i k : Nat} (h : i < k) (hk : k < 20) : 20 - (i + 1) < 20 - i := by omega
theorem fin2c (c : List UInt8) (h : c.length = 32) : us.fin (us.ws (us.ws us.first [] (real.cutB c 0 (real.nat (real.int 16)))) (us.wr [] (real.cutB c 0 (real.nat (real.int 16)))) (real.cutB c (real.nat (real.int 16)) (real.subn 32 (real.nat (real.int 16))))) (us.wr (us.wr [] (real.cutB c 0 (real.nat (real.int 16)))) (real.cutB c (real.nat (real.int 16)) (real.subn 32 (real.nat (real.int 16)))))
    (real.addi (real.addi 0 (real.int (real.lenB (real.cutB c 0 (real.nat (real.int 16)))))) (real.int (real.lenB (real.cutB c (real.nat (real.int 16)) (real.subn 32 (real.nat (real.int 16))))))) = us.sum c := by
  have e1 : real.cutB c 0 (real.nat (real.int 16)) = c.take 16 := rfl
  have e2 : real.cutB c (real.nat (real.int 16)) (real.subn 32 (real.nat (real.int 16))) = c.drop 16 := by
    show List.take 16 (List.drop 16 c) = _
    rw [List.take_of_length_le (by rw [List.length_drop]; omega)]
  rw [e1, e2]
  have l1 : real.lenB (c.take 16) = 16 := by show (c.take 16).length = 16; rw [List.length_take]; omega
  have l2 : real.lenB (c.drop 16) = 16 := by show (c.drop 16).length = 16; rw [List.length_drop]; omega
  rw [l1, l2, fin2 _ _ _ (by rw [List.take_append_drop, h]; decide), List.take_append_drop]
theorem chn_on {b c : List UInt8} {j : Nat} (h : c = us.chn b j) : us.sum c = us.chn b (j + 1) := by rw [h]; rfl
theorem chain_end {b c : List UInt8} {j : Nat} {n a : UInt8} (hj2 : j ≤ kOf n) (hg : ¬ real.pB (real.lti (real.int j) (real.wrapi (real.toI8 (real.rem8 n (real.ofI8 (real.int 20)))))) true) (hm : ¬ real.pB (real.eqi (real.remi (real.wrapi (real.toI8 a)) (real.addi (real.wrapi (real.toI8 (real.rem8 n (real.ofI8 (real.int 20))))) (real.int 1))) (real.wrapi (real.toI8 (real.rem8 n (real.ofI8 (real.int 20)))))) true) (hch : real.pB (real.lti (real.remi (real.wrapi (real.toI8 a)) (real.addi (real.wrapi (real.toI8 (real.rem8 n (real.ofI8 (real.int 20))))) (real.int 1))) (real.wrapi (real.toI8 (real.rem8 n (real.ofI8 (real.int 20)))))) true → c = us.chn b j) : real.eqB c (us.chn b (real.nat (real.wrapi (real.toI8 (real.rem8 n (real.ofI8 (real.int 20))))))) = true := by
  have h1 := ge_k hg
  have h2 : mOf n a < kOf n := by
    have := m_lt n a
    rw [m_eq2, k_eq] at hm
    simp only [real, Bool.not_eq_true, beq_eq_false_iff_ne] at hm
    omega
  have h3 := hch (by
    rw [m_eq2, k_eq]
    simp only [real, decide_eq_true_eq]
    omega)
  rw [h3, k_nat, show j = kOf n by omega]
  exact eqB_self _
end Go.Proofs.Ytmldccfchnlpgaa
namespace Go.Proofs.Ytmldccfchnlpgaa
open Go Go.Vc
noncomputable def sp_law2_ShaChains (F : Fs) (U : Us) : Specs := [(39, s_law2_known F U), (40, s_sha_Sum F U), (43, s_sha_New F U), (44, s_sha_Hash_Write F U), (45, s_sha_Hash_Sum F U)]
theorem ok_law2_ShaChains : SpecsOK Try.prog (sp_law2_ShaChains real us) := sp_cons r_law2_known k_law2_known (sp_cons r_sha_Sum k_sha_Sum (sp_cons r_sha_New k_sha_New (sp_cons r_sha_Hash_Write k_sha_Hash_Write (sp_cons r_sha_Hash_Sum k_sha_Hash_Sum sp_nil))))
noncomputable def an_law2_ShaChains (F : Fs) (U : Us) (b : List UInt8) (n a : UInt8) : Anns := [(9, ⟨Nat, fun i => F.pLeI (F.int i) (F.wrapi (F.toI8 (F.rem8 n (F.ofI8 (F.int 20))))), fun i => F.subn 20 i, fun i => ⟨[(2, .w8 a), (7, .i (F.wrapi (F.toI8 (F.rem8 n (F.ofI8 (F.int 20)))))), (8, .p 0 0 0), (9, .p 1 0 0), (10, .i (F.int i))], [(8, 0, .bk 23 [(32, .bt (U.chn b i))]), (9, 1, .bk 23 [(32, .bt (U.mid b (F.nat (F.remi (F.wrapi (F.toI8 a)) (F.addi (F.wrapi (F.toI8 (F.rem8 n (F.ofI8 (F.int 20))))) (F.int 1)))) i))])]⟩⟩),
  (15, ⟨Nat × List UInt8, fun s => F.pLeI (F.remi (F.wrapi (F.toI8 a)) (F.addi (F.wrapi (F.toI8 (F.rem8 n (F.ofI8 (F.int 20))))) (F.int 1))) (F.int s.1) ∧ F.pLeI (F.int s.1) (F.wrapi (F.toI8 (F.rem8 n (F.ofI8 (F.int 20))))) ∧ U.isL s.2 32 ∧ (F.pB (F.lti (F.remi (F.wrapi (F.toI8 a)) (F.addi (F.wrapi (F.toI8 (F.rem8 n (F.ofI8 (F.int 20))))) (F.int 1))) (F.wrapi (F.toI8 (F.rem8 n (F.ofI8 (F.int 20)))))) true → s.2 = U.chn b s.1), fun s => F.subn 20 s.1, fun s => ⟨[(2, .w8 a), (7, .i (F.wrapi (F.toI8 (F.rem8 n (F.ofI8 (F.int 20)))))), (8, .p 0 0 0), (9, .p 1 0 0), (11, .i (F.int s.1))], [(8, 0, .bk 23 [(32, .bt (U.chn b (F.nat (F.wrapi (F.toI8 (F.rem8 n (F.ofI8 (F.int 20))))))))]), (9, 1, .bk 23 [(32, .bt s.2)])]⟩⟩)]
noncomputable def x_law2_ShaChains (F : Fs) (U : Us) : Cx := ⟨Try.f6.ntmps, tt F, sp_law2_ShaChains F U, [], [], [], []⟩
theorem c_law2_ShaChains (b : List UInt8) (n a : UInt8) (q0 : b.length ≤ 9223372036854775807) : vc real (x_law2_ShaChains real us) (an_law2_ShaChains real us b n a) [] (Try.f6.body.getD .skip) ⟨zipSl 0 [.rb 1 (.bt b), .w8 n, .w8 a], [], 64⟩ (retOk real (tt real) false Try.f6.results.toList [.val (.b true)]) := by
  generalize hU : us = U
  generalize hF : real = F
  have hk := k20 n
  cbv
  repeat' first | apply And.intro | refine Classical.or_iff_not_imp_left.2 (fun _ => ?_) | exact trivial
  all_goals try (subst hF hU; simp only [real, us, Nat.le_eq, Int.cast_ofNat_Int, decide_eq_false_iff_not, decide_eq_true_eq, List.length_take, List.length_drop, List.length_append, List.length_replicate, List.length_set, List.length_cons, List.length_nil, List.length_zipWith] at *; (try simp (disch := omega) only [wrap_sm] at *); omega)
  · subst hF; exact p20
  · refine ⟨(0 : Nat), ?_⟩
    cbv; subst hF hU
    exact ⟨le_k (Nat.zero_le _), ⟨rfl, trivial⟩, ⟨mid_zero b _, trivial⟩, trivial⟩
  · intro (i : Nat) hi
    have hi2 : i ≤ kOf n := by subst hF; exact k_le hi
    clear hi
    have hcl := chn_len b i
    have hi1 : IntKind.i64.wrap ((i : Int) + 1) = (i : Int) + 1 := wrap_sm (by omega) (by omega)
    cbv
    repeat' first | apply And.intro | refine Classical.or_iff_not_imp_left.2 (fun _ => ?_) | exact trivial
    all_goals try (subst hF hU; simp only [real, us, Nat.le_eq, Int.cast_ofNat_Int, decide_eq_false_iff_not, decide_eq_true_eq, List.length_take, List.length_drop, List.length_append, List.length_replicate, List.length_set, List.length_cons, List.length_nil, List.length_zipWith] at *; (try simp (disch := omega) only [wrap_sm] at *); omega)
    · subst hF; exact ke1 n
    · refine ⟨(i + 1 : Nat), ?_⟩
      cbv; subst hF hU
      rename_i hg hm
      have hlt := lt_k hg
      have he := eq_m hm
      refine ⟨le_k hlt, on_step hlt hk, ⟨hi1, trivial⟩, ⟨chn_step b i, trivial⟩, ⟨mid_hereR he, trivial⟩, trivial⟩
    · refine ⟨(i + 1 : Nat), ?_⟩
      cbv; subst hF hU
      rename_i hg hm
      have hlt := lt_k hg
      have he := ne_m hm
      refine ⟨le_k hlt, on_step hlt hk, ⟨hi1, trivial⟩, ⟨chn_step b i, trivial⟩, ⟨mid_onR he, trivial⟩, trivial⟩
    · subst hF; exact ke1 n
    · have e : i = kOf n := by
        rename_i hg
        subst hF hU
        have := ge_k hg
        omega
      obtain ⟨mm, hmm⟩ : ∃ mm, mm = mOf n a := ⟨_, rfl⟩
      obtain ⟨c, hcc⟩ : ∃ c, c = u_mid b (mOf n a) i := ⟨_, rfl⟩
      have hcl2 : c.length = 32 := by rw [hcc]; exact mid_len b _ _
      refine ⟨((mm, c) : Nat × List UInt8), ?_⟩
      cbv; subst hF hU
      exact ⟨⟨le_m (Nat.le_of_eq hmm.symm), le_k (by rw [hmm]; exact m_lt n a), hcl2, fun h => mid_chn e hmm hcc h⟩, ⟨(m_eq2 n a).trans (congrArg Int.ofNat hmm.symm), trivial⟩, ⟨chn_endR e, trivial⟩, ⟨mid_endR hcc, trivial⟩, trivial⟩
    · intro (s : Nat × List UInt8) hs
      obtain ⟨j, c⟩ := s
      have hj1 : mOf n a ≤ j := by subst hF; exact m_le hs.1
      have hj2 : j ≤ kOf n := by subst hF; exact k_le hs.2.1
      have hcl2 : c.length = 32 := by subst hU; exact hs.2.2.1
      have hch := hs.2.2.2
      clear hs
      have hfl := first_len
      have hw1 := ws_len u_first [] (List.take 16 (List.drop 0 c)) hfl
      have hi1 : IntKind.i64.wrap ((j : Int) + 1) = (j : Int) + 1 := wrap_sm (by omega) (by omega)
      cbv
      repeat' first | apply And.intro | refine Classical.or_iff_not_imp_left.2 (fun _ => ?_) | exact trivial
      all_goals try (subst hF hU; simp only [real, us, Nat.le_eq, Int.cast_ofNat_Int, decide_eq_false_iff_not, decide_eq_true_eq, List.length_take, List.length_drop, List.length_append, List.length_replicate, List.length_set, List.length_cons, List.length_nil, List.length_zipWith] at *; (try simp (disch := omega) only [wrap_sm] at *); omega)
      all_goals try (subst hF hU; first | exact isW_first | exact isW_ws _ _ isW_first | exact isW_ws _ _ (isW_ws _ _ isW_first) | exact wr_small _ _ (by omega))
      · refine ⟨((j + 1, U.sum c) : Nat × List UInt8), ?_⟩
        cbv; subst hF hU
        rename_i hg
        have hlt := lt_k hg
        exact ⟨⟨le_m (by omega), le_k hlt, isL_sum c, fun h => chn_on (hch h)⟩, on_step hlt hk, ⟨hi1, trivial⟩, ⟨fin2c c hcl2, trivial⟩, trivial⟩
      · subst hF; exact ke1 n
      · subst hF hU; rename_i hg _ hm; exact chain_end hj2 hg hm hch
end Go.Proofs.Ytmldccfchnlpgaa
namespace Go.Proofs.Ytmldccfchnlpgaa.shaChains
open Go.ChangeShapes Go.WideShapes Go.ChangeAt Go.RowKit
set_option linter.unusedVariables false
theorem own : ownKnob Try.prog.godebug = none := by kernel_rfl
theorem laidOut : laidOutB Try.prog = true := p_laidOut
set_option maxRecDepth 100000 in
theorem lifted (os : Os) (started : os.Started) (H : Type) (enc : TypeId × Value → H) :
    ReturnsInHanded {} Try.checked os 6 .any (Rows.shaChainsSpec.pre6 enc Try.prog Try.f6 Rows.shaChainsRow.domain false) (Rows.shaChainsSpec.post enc Try.prog Try.f6 false true false false) := by
  refine returnsInHanded_of_change (C := Try.checked) own started (by kernel_rfl) Try.func6
    (ChangeSpec.witness6 (enc := enc) (C := Try.checked) false ⟨#[], #[.slice none 0 0, .int .u8 0, .int .u8 0], []⟩ 8 (by kernel_rfl) (by kernel_rfl) (by kernel_rfl) (by kernel_rfl)) ?_
  intro W base args ds gs before hval0 hW hcnd _
  have hval : ∀ (j : Nat) t v, Try.f6.params[j]? = some t → args[j]? = some v → Value.okWide Try.prog W .any base t v := hval0
  have hW' := hW
  obtain ⟨p, q, hA0, hV, rfl, hfz, hnd⟩ := hW
  have hA : DataW.TrodAll enc Try.prog W 0 (fun _ => true) true Try.f6.params.toList args.toList ds p := hA0
  rw [Try.params6] at hA hval
  obtain ⟨v0, vs0, d0, ds0, p0, q0, hargs, rfl, rfl, h0, r0⟩ := trodAll_cons hA
  obtain ⟨v1, vs1, d1, ds1, p1, q1, rfl, rfl, rfl, h1, r1⟩ := trodAll_cons r0
  obtain ⟨v2, vs2, d2, ds2, p2, q2, rfl, rfl, rfl, h2, r2⟩ := trodAll_cons r1
  obtain ⟨rfl, rfl, rfl⟩ := trodAll_nil r2
  obtain rfl : args = #[v0, v1, v2] := by cases args; simp_all
  obtain ⟨rfl, rfl⟩ := trodVars_none hV
  obtain ⟨b, k0, q0⟩ := Go.Vc.openL8 Try.underlying27 Try.underlying5 (by kernel_rfl) (hval 0 27 v0 rfl rfl) h0
  obtain ⟨n, k1⟩ := Go.Vc.open8 Try.underlying5 (hval 1 5 v1 rfl rfl) h1
  obtain ⟨a, k2⟩ := Go.Vc.open8 Try.underlying5 (hval 2 5 v2 rfl rfl) h2
  clear hA0 hval0
  refine (Go.Vc.law_walk2 (x := x_law2_ShaChains Go.Vc.real us) (an := (an_law2_ShaChains Go.Vc.real us b n a)) (cu := []) (l := [.rb 1 (.bt b), .w8 n, .w8 a]) (vals := [v0, v1, v2]) ⟨tt_ok, ok_law2_ShaChains, Go.Vc.ks_nil⟩ mixed Try.func6 rfl rfl (by kernel_rfl) (Nat.le_of_ble_eq_true rfl) (Go.Vc.rvs_cons k0 (Go.Vc.rvs_cons k1 (Go.Vc.rvs_cons k2 Go.Vc.rvs_nil))) (c_law2_ShaChains b n a q0)).mono fun e W' ⟨he, bel⟩ => ?_
  subst he
  exact ⟨_, rfl, Go.Vc.post_true (tb := 4) laidOut (by kernel_rfl) rfl Try.underlying4 rfl hW' rfl bel⟩
theorem over : Rows.shaChainsRow.holds Try.pinned (OpenSpec.ofChange Rows.shaChainsSpec) :=
  OpenClaim.holds_of_wide 6 Try.f6 rfl rfl rfl rfl rfl rfl rfl ⟨rfl, rfl, rfl, rfl, rfl⟩ rfl rfl rfl rfl rfl (by kernel_rfl) Try.func6 (Go.Vc.joined_of p_laidOut p_maps p_stops p_knobs p_heard p_mayEnter p_lifts p_make rfl rfl (by kernel_rfl) (by kernel_rfl) (by kernel_rfl) (by kernel_rfl) (by kernel_rfl) (by kernel_rfl) (by kernel_rfl) (by kernel_rfl) (by kernel_rfl) (by kernel_rfl) (by kernel_rfl) (by kernel_rfl) (by kernel_rfl) (by kernel_rfl) (by kernel_rfl) (by kernel_rfl) (by kernel_rfl) (by kernel_rfl) (by kernel_rfl) (by kernel_rfl) (by kernel_rfl) (by kernel_rfl) (by kernel_rfl) (by kernel_rfl) )
    (of_decide_eq_true (by kernel_rfl)) (by unfold Func.isWrapper; first | (rw [if_pos (by decide +kernel)]; kernel_rfl) | (rw [if_neg (by decide +kernel)]; exact ⟨rfl, rfl⟩))
    (fun os started H enc _ => lifted os started H enc)
theorem proved : Rows.ShaChainsSaid := over
#print axioms proved
end Go.Proofs.Ytmldccfchnlpgaa.shaChains

