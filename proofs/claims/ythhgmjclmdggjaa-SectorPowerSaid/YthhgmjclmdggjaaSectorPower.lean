/- The given statement is proved: for every input the law's function answers true. No condition. -/
import Derived.Test.YthhgmjclmdggjaaRows
import Derived.Test.YthhgmjclmdggjaaPart5
import Derived.WalkKit
import Derived.HandedShaped
import Derived.ProofKit
import Derived.OpenShut
import Derived.ShutString
set_option linter.unusedVariables false
set_option linter.unusedSimpArgs false
set_option maxRecDepth 100000
set_option maxHeartbeats 1000000
namespace Go.Proofs.Ythhgmjclmdggjaa
open Go Go.Vc
theorem off_nat {s K : Nat} (hK : 0 < K) : u_off (s : Int) (K : Int) = decide (K ≤ s) := by
  unfold u_off
  rw [decide_eq_true (p := (0 : Int) < K) (by omega), Bool.true_and]
  exact decide_eq_decide.2 (by omega)
theorem add_nat {s t : Nat} (h : s ≤ 1000000) (ht : t ≤ 1000000) : IntKind.i64.wrap ((s : Int) + (t : Int)) = ((s + t : Nat) : Int) := by
  rw [wrap_sm (by omega) (by omega)]; omega
theorem wE_pw {s K i : Nat} {xs : List D} {b : List UInt8} (hK : 0 < K) (hs : s ≤ 100000) (hi : i < xs.length) (hb : b.length ≤ 64) : u_wE (s : Int) (K : Int) xs (i : Int) b = if K ≤ s + 1 then 61 else 0 := by
  unfold u_wE
  rw [show (1 : Int) = ((1 : Nat) : Int) from rfl, add_nat (by omega) (by decide), off_nat hK, isI_of hi, decide_eq_true hb]
  by_cases h : K ≤ s + 1
  · rw [if_pos h, decide_eq_true h]; rfl
  · rw [if_neg h, decide_eq_false h]; rfl
theorem fE_pw {s K : Nat} (hK : 0 < K) (hs : s ≤ 100000) : u_fE (s : Int) (K : Int) = if K ≤ s + 1 then 61 else 0 := by
  unfold u_fE
  rw [show (1 : Int) = ((1 : Nat) : Int) from rfl, add_nat (by omega) (by decide), off_nat hK]
  by_cases h : K ≤ s + 1
  · rw [if_pos h, decide_eq_true h]; rfl
  · rw [if_neg h, decide_eq_false h]; rfl
theorem rE_pw {s K i : Nat} {xs : List D} (hK : 0 < K) (hi : i < xs.length) : u_rE (s : Int) (K : Int) xs (i : Int) = if K ≤ s then 61 else 0 := by
  unfold u_rE
  rw [off_nat hK, isI_of hi]
  by_cases h : K ≤ s
  · rw [if_pos h, decide_eq_true h]; rfl
  · rw [if_neg h, decide_eq_false h]; rfl
theorem pw_eq {e : Int} {K T : Nat} (h : e = if K ≤ T then 61 else 0) : real.eqb (real.eqi e (real.int 61)) (real.lei (real.int K) (real.int T)) = true := by
  subst h
  show (((if K ≤ T then (61 : Int) else 0) == 61) == decide ((K : Int) ≤ (T : Int))) = true
  by_cases h : K ≤ T
  · rw [if_pos h, decide_eq_true (by omega)]; rfl
  · rw [if_neg h, decide_eq_false (by omega)]; rfl
theorem pwK_pos (a : UInt8) : 0 < u_pwK a ∧ u_pwK a ≤ 12 := by
  unfold u_pwK
  have : a.toNat % 12 < 12 := Nat.mod_lt _ (by decide)
  omega
theorem pwN_le {j : Nat} (h : j ≤ 30) : u_pwN j ≤ 36 := by unfold u_pwN; omega
theorem pwN_f {j : Nat} (h : (j + 1) % 5 = 0) : u_pwN (j + 1) = u_pwN j + 2 := by unfold u_pwN; omega
theorem pwN_n {j : Nat} (h : ¬ (j + 1) % 5 = 0) : u_pwN (j + 1) = u_pwN j + 1 := by unfold u_pwN; omega
theorem pw_f (a : UInt8) {j : Nat} (h : (j + 1) % 5 = 0) : u_pw a (j + 1) = (u_fX (IntKind.i64.wrap ((u_pwN j : Nat) + 1)) ((u_pwK a : Nat) : Int) (u_pw a j).1 (u_wM ((u_pwN j : Nat) : Int) ((u_pwK a : Nat) : Int) (u_pw a j).1 (u_pw a j).2 (((j + 1 : Nat) : Int).tmod 4) [real.ofI8 ((j + 1 : Nat) : Int)]), u_fM (IntKind.i64.wrap ((u_pwN j : Nat) + 1)) ((u_pwK a : Nat) : Int) (u_wM ((u_pwN j : Nat) : Int) ((u_pwK a : Nat) : Int) (u_pw a j).1 (u_pw a j).2 (((j + 1 : Nat) : Int).tmod 4) [real.ofI8 ((j + 1 : Nat) : Int)])) := by
  rw [u_pw]; exact if_pos h
theorem pw_n (a : UInt8) {j : Nat} (h : ¬ (j + 1) % 5 = 0) : u_pw a (j + 1) = ((u_pw a j).1, u_wM ((u_pwN j : Nat) : Int) ((u_pwK a : Nat) : Int) (u_pw a j).1 (u_pw a j).2 (((j + 1 : Nat) : Int).tmod 4) [real.ofI8 ((j + 1 : Nat) : Int)]) := by
  rw [u_pw]; exact if_neg h
theorem pw_ok (a : UInt8) : ∀ j, u_ok (u_pw a j).1 (u_pw a j).2 ∧ (u_pw a j).1.length = 4
  | 0 => ⟨ok_new (by decide) 0, rfl⟩
  | j + 1 => by
    obtain ⟨h1, h2⟩ := pw_ok a j
    by_cases h : (j + 1) % 5 = 0
    · rw [pw_f a h]
      exact ⟨ok_fl (ok_wM h1), (fX_len _ _ _ _).trans h2⟩
    · rw [pw_n a h]
      exact ⟨ok_wM h1, h2⟩
theorem tmod_nat (i : Nat) (k : Nat) : ((i : Nat) : Int).tmod (k : Int) = ((i % k : Nat) : Int) := rfl
theorem rem_eq (i : UInt8) (n : Nat) (h : (i % UInt8.ofNat n).toNat = i.toNat % n) : IntKind.i64.wrap ((i % UInt8.ofNat n).toNat : Int) = ((i.toNat % n : Nat) : Int) := by
  have h2 := i.toNat_lt
  have h3 : i.toNat % n ≤ i.toNat := Nat.mod_le _ _
  rw [h]
  generalize i.toNat % n = m at h3
  rw [wrap_sm (by omega) (by omega)]
theorem rem12 (i : UInt8) : real.wrapi (real.toI8 (real.rem8 i (real.ofI8 (real.int 12)))) = ((i.toNat % 12 : Nat) : Int) := rem_eq i 12 (by rw [UInt8.toNat_mod]; rfl)
theorem rem20 (i : UInt8) : real.wrapi (real.toI8 (real.rem8 i (real.ofI8 (real.int 20)))) = ((i.toNat % 20 : Nat) : Int) := rem_eq i 20 (by rw [UInt8.toNat_mod]; rfl)
theorem pw_k (a : UInt8) : real.addi (real.wrapi (real.toI8 (real.rem8 a (real.ofI8 (real.int 12))))) (real.int 1) = real.int (us.pwK a) := by
  rw [rem12 a]
  have : a.toNat % 12 < 12 := Nat.mod_lt _ (by decide)
  show IntKind.i64.wrap (((a.toNat % 12 : Nat) : Int) + ((1 : Nat) : Int)) = ((a.toNat % 12 + 1 : Nat) : Int)
  rw [add_nat (by omega) (by decide)]
theorem pow_n {n : Nat} (h1 : 0 < n) (h2 : n ≤ 1000) : u_pow 0 0 (n : Int) = (n : Int) := by
  unfold u_pow
  rw [off0, if_neg (by decide), if_neg (by omega)]
  have e : min (n : Int) 1099511627776 = (n : Int) := by omega
  rw [e, Int.zero_add, wrap_sm (by omega) (by omega)]
theorem pow_u (n : Nat) : us.pow 0 0 (real.int n) = u_pow 0 0 (n : Int) := rfl
attribute [local irreducible] u_pow
theorem pw_pow (a : UInt8) : us.pow 0 0 (real.addi (real.wrapi (real.toI8 (real.rem8 a (real.ofI8 (real.int 12))))) (real.int 1)) = real.int (us.pwK a) := by
  rw [pw_k]
  obtain ⟨h1, h2⟩ := pwK_pos a
  rw [pow_u]
  exact pow_n h1 (by show u_pwK a ≤ 1000; omega)
theorem pw_g {n : UInt8} {j : Nat} (h : ¬ real.pB (real.lei (real.int (real.addn j 1)) (real.wrapi (real.toI8 (real.rem8 n (real.ofI8 (real.int 20)))))) false) : j + 1 ≤ 19 := by
  rw [rem20 n] at h
  have h := le_g (a := j + 1) (n := n.toNat % 20) h
  omega
theorem pw_m5 {j : Nat} : real.eqi (real.remi (real.int (real.addn j 1)) (real.int 5)) (real.int 0) = decide ((j + 1) % 5 = 0) := by
  show ((((j + 1 : Nat) : Int).tmod ((5 : Nat) : Int)) == 0) = _
  rw [tmod_nat]
  by_cases h : (j + 1) % 5 = 0
  · rw [h]; rfl
  · rw [decide_eq_false h]
    rw [beq_eq_false_iff_ne]
    omega
theorem pw_m5t {j : Nat} (h : ¬ real.pB (real.eqi (real.remi (real.int (real.addn j 1)) (real.int 5)) (real.int 0)) false) : (j + 1) % 5 = 0 := by
  rw [pw_m5] at h
  exact of_decide_eq_true (p_t h)
theorem pw_m5f {j : Nat} (h : ¬ real.pB (real.eqi (real.remi (real.int (real.addn j 1)) (real.int 5)) (real.int 0)) true) : ¬ (j + 1) % 5 = 0 := by
  rw [pw_m5] at h
  exact of_decide_eq_false (p_f h)
theorem pw_steps {j : Nat} (h : j + 1 ≤ 19) : real.addi (real.int (real.addn j 1)) (real.quoi (real.int (real.addn j 1)) (real.int 5)) = real.int (us.pwN (j + 1)) := by
  have e : real.quoi (real.int (real.addn j 1)) (real.int 5) = (((j + 1) / 5 : Nat) : Int) := by
    show IntKind.i64.wrap (((j + 1 : Nat) : Int).tdiv ((5 : Nat) : Int)) = _
    rw [show ((j + 1 : Nat) : Int).tdiv ((5 : Nat) : Int) = (((j + 1) / 5 : Nat) : Int) from rfl, wrap_sm (by omega) (by omega)]
  rw [e]
  show IntKind.i64.wrap (((j + 1 : Nat) : Int) + (((j + 1) / 5 : Nat) : Int)) = ((u_pwN (j + 1) : Nat) : Int)
  rw [add_nat (by omega) (by omega)]
  rfl
theorem pw_1 {j : Nat} (h : j + 1 ≤ 19) : real.addi (real.int (us.pwN j)) (real.int 1) = real.int (us.pwN j + 1) := addi1 (by have : u_pwN j ≤ 36 := pwN_le (by omega); show u_pwN j ≤ _; omega)
theorem pw_2 {j : Nat} (h : j + 1 ≤ 19) : real.addi (real.addi (real.int (us.pwN j)) (real.int 1)) (real.int 1) = real.int (us.pwN j + 2) := by
  rw [pw_1 h]
  exact addi1 (by have : u_pwN j ≤ 36 := pwN_le (by omega); show u_pwN j + 1 ≤ _; omega)
theorem pw_fl (a : UInt8) {j : Nat} (h9 : j + 1 ≤ 19) (h5 : (j + 1) % 5 = 0) :
    real.eqb (real.eqi (us.fE (real.addi (real.int (us.pwN j)) (real.int 1)) (real.int (us.pwK a))) (real.int 61)) (real.lei (real.int (us.pwK a)) (real.addi (real.int (real.addn j 1)) (real.quoi (real.int (real.addn j 1)) (real.int 5)))) = true ∧
    (∀ M : MD, real.eqb (real.eqi (us.rE (real.addi (real.addi (real.int (us.pwN j)) (real.int 1)) (real.int 1)) (real.int (us.pwK a)) (us.fX (real.addi (real.int (us.pwN j)) (real.int 1)) (real.int (us.pwK a)) (us.pwX a j) M) (real.int 0)) (real.int 61)) (real.lei (real.int (us.pwK a)) (real.addi (real.int (real.addn j 1)) (real.quoi (real.int (real.addn j 1)) (real.int 5)))) = true) := by
  have hN := pwN_f h5
  have hs : u_pwN j ≤ 36 := pwN_le (by omega)
  have hK := (pwK_pos a).1
  rw [pw_steps h9, pw_2 h9, pw_1 h9]
  have e2 : us.pwN j + 2 = us.pwN (j + 1) := hN.symm
  rw [e2]
  refine ⟨pw_eq ?_, fun M => pw_eq ?_⟩
  · refine (fE_pw (s := u_pwN j + 1) hK (by omega)).trans ?_
    show _ = if u_pwK a ≤ u_pwN (j + 1) then (61 : Int) else 0
    rw [hN]
  · refine (rE_pw (s := u_pwN (j + 1)) (i := 0) hK ?_)
    show 0 < (u_fX _ _ (u_pw a j).1 M).length
    rw [fX_len, (pw_ok a j).2]
    decide
theorem pw_no (a : UInt8) {j : Nat} (h9 : j + 1 ≤ 19) (h5 : ¬ (j + 1) % 5 = 0) (b : List UInt8) (hb : b.length ≤ 64) :
    real.eqb (real.eqi (us.wE (real.int (us.pwN j)) (real.int (us.pwK a)) (us.pwX a j) (real.remi (real.int (real.addn j 1)) (real.int 4)) b) (real.int 61)) (real.lei (real.int (us.pwK a)) (real.addi (real.int (real.addn j 1)) (real.quoi (real.int (real.addn j 1)) (real.int 5)))) = true ∧
    real.eqb (real.eqi (us.rE (real.addi (real.int (us.pwN j)) (real.int 1)) (real.int (us.pwK a)) (us.pwX a j) (real.int 0)) (real.int 61)) (real.lei (real.int (us.pwK a)) (real.addi (real.int (real.addn j 1)) (real.quoi (real.int (real.addn j 1)) (real.int 5)))) = true := by
  have hN := pwN_n h5
  have hs : u_pwN j ≤ 36 := pwN_le (by omega)
  have hK := (pwK_pos a).1
  have hl := (pw_ok a j).2
  have hl : (us.pwX a j).length = 4 := hl
  rw [pw_steps h9, pw_1 h9]
  have e2 : us.pwN j + 1 = us.pwN (j + 1) := hN.symm
  rw [e2]
  refine ⟨pw_eq ?_, pw_eq ?_⟩
  · have hm : (j + 1) % 4 < 4 := Nat.mod_lt _ (by decide)
    refine (wE_pw (s := u_pwN j) (i := (j + 1) % 4) hK (by omega) (by rw [hl]; exact hm) hb).trans ?_
    show _ = if u_pwK a ≤ u_pwN (j + 1) then (61 : Int) else 0
    rw [hN]
  · exact (rE_pw (s := u_pwN (j + 1)) (i := 0) hK (by rw [hl]; decide))
theorem eq_0 {x : Int} {t : Bool} (h : real.pB (real.eqi x 0) true) (g : real.eqb (real.eqi x (real.int 61)) t = true) : real.eqb (real.eqi 0 (real.int 61)) t = true := by
  have h : decide (x = 0) = true := h
  rw [decide_eq_true_eq] at h
  subst h; exact g
theorem pw_nf (a : UInt8) {j : Nat} (h9 : j + 1 ≤ 19) (h5 : (j + 1) % 5 = 0) :
    real.addi (real.addi (real.int (us.pwN j)) (real.int 1)) (real.int 1) = real.int (us.pwN (j + 1)) ∧
    us.fX (real.addi (real.int (us.pwN j)) (real.int 1)) (real.int (us.pwK a)) (us.pwX a j) (us.wM (real.int (us.pwN j)) (real.int (us.pwK a)) (us.pwX a j) (us.pwM a j) (real.remi (real.int (real.addn j 1)) (real.int 4)) [real.ofI8 (real.int (real.addn j 1))]) = us.pwX a (j + 1) ∧
    us.fM (real.addi (real.int (us.pwN j)) (real.int 1)) (real.int (us.pwK a)) (us.wM (real.int (us.pwN j)) (real.int (us.pwK a)) (us.pwX a j) (us.pwM a j) (real.remi (real.int (real.addn j 1)) (real.int 4)) [real.ofI8 (real.int (real.addn j 1))]) = us.pwM a (j + 1) := by
  refine ⟨?_, ?_, ?_⟩
  · rw [pw_2 h9]; exact congrArg real.int (pwN_f h5).symm
  · exact (congrArg Prod.fst (pw_f a h5)).symm
  · exact (congrArg Prod.snd (pw_f a h5)).symm
theorem pw_nn (a : UInt8) {j : Nat} (h9 : j + 1 ≤ 19) (h5 : ¬ (j + 1) % 5 = 0) :
    real.addi (real.int (us.pwN j)) (real.int 1) = real.int (us.pwN (j + 1)) ∧ us.pwX a j = us.pwX a (j + 1) ∧
    us.wM (real.int (us.pwN j)) (real.int (us.pwK a)) (us.pwX a j) (us.pwM a j) (real.remi (real.int (real.addn j 1)) (real.int 4)) [real.ofI8 (real.int (real.addn j 1))] = us.pwM a (j + 1) := by
  refine ⟨?_, ?_, ?_⟩
  · rw [pw_1 h9]; exact congrArg real.int (pwN_n h5).symm
  · exact (congrArg Prod.fst (pw_n a h5)).symm
  · exact (congrArg Prod.snd (pw_n a h5)).symm
theorem pw_i {j : Nat} (h9 : j + 1 ≤ 19) : real.addi (real.int (real.addn j 1)) (real.int 1) = real.int (real.addn (j + 1) 1) := addi1 (i := j + 1) (by omega)
theorem pw_lc (a : UInt8) (j : Nat) : 0 < (u_cX (u_pw a j).1 (u_pw a j).2 []).length := by
  rw [cX_len (pw_ok a j).1, (pw_ok a j).2]; decide
theorem pb_or {p : Prop} {x : Bool} (h : ¬ (p ∧ real.pB x true)) (hp : p) : real.pB x false := by
  cases x with
  | false => rfl
  | true => exact absurd ⟨hp, rfl⟩ h
theorem pw_e0 (a : UInt8) : real.int (us.pwN 0) = 0 := rfl
end Go.Proofs.Ythhgmjclmdggjaa
namespace Go.Proofs.Ythhgmjclmdggjaa
open Go Go.Vc
noncomputable def sp_law6_SectorPower (F : Fs) (U : Us) : Specs := [(9, s_law6_known F U), (10, s_sector_New F U), (16, s_sector_power_Power F U), (11, s_sector_Disk_Write F U), (13, s_sector_Disk_Flush F U), (14, s_sector_Disk_Crash F U), (12, s_sector_Disk_Read_o F U)]
theorem ok_law6_SectorPower : SpecsOK Try.prog (sp_law6_SectorPower real us) := sp_cons r_law6_known k_law6_known (sp_cons r_sector_New k_sector_New (sp_cons r_sector_power_Power k_sector_power_Power (sp_cons r_sector_Disk_Write k_sector_Disk_Write (sp_cons r_sector_Disk_Flush k_sector_Disk_Flush (sp_cons r_sector_Disk_Crash k_sector_Disk_Crash (sp_cons r_sector_Disk_Read_o k_sector_Disk_Read_o sp_nil))))))
noncomputable def an_law6_SectorPower (F : Fs) (U : Us) (a n : UInt8) : Anns := [(7, ⟨Nat, fun j => j ≤ 20, fun j => F.subn 20 j, fun j => ⟨[(1, .w8 n), (5, .p 5 0 0), (6, .i (F.int (U.pwK a))), (7, .i (F.int (F.addn j 1)))], [(5, 5, .bk 47 [(1, .vs [.i (F.int (U.pwN j))]), (1, .vs [.i (F.int (U.pwK a))]), (1, .vs [.rw 6]), (1, .vs [.mh 7])]), (999, 6, .row 60 64 (.ds (.l8 64) (U.pwX a j))), (999, 7, .mp 45 .i (.l8 64) (U.pwM a j))]⟩⟩)]
noncomputable def x_law6_SectorPower (F : Fs) (U : Us) : Cx := ⟨Try.f7.ntmps, tt F, sp_law6_SectorPower F U, [(12, ki_sector_Disk_Read F U)], [], [], []⟩
theorem c_law6_SectorPower (a n : UInt8)  : vc real (x_law6_SectorPower real us) (an_law6_SectorPower real us a n) [] (Try.f7.body.getD .skip) ⟨zipSl 0 [.w8 a, .w8 n], [], 64⟩ (retOk real (tt real) false Try.f7.results.toList [.val (.b true)]) := by
  generalize hU : us = U
  generalize hF : real = F
  cbv
  repeat' first | apply And.intro | refine Classical.or_iff_not_imp_left.2 (fun _ => ?_) | exact trivial
  · rename_i h; subst hF hU; exact absurd rfl h
  · subst hF hU; show ((12 : UInt8).toNat : Int) ≠ 0; decide
  · refine ⟨(0 : Nat), ?_⟩
    cbv
    subst hF hU
    exact ⟨⟨pw_k a, rfl, trivial⟩, ⟨⟨rfl, trivial⟩, ⟨pw_pow a, trivial⟩, trivial⟩, rfl, rfl, trivial⟩
  · intro (j : Nat) hj
    replace hj : j ≤ 20 := hj
    cbv
    repeat' first | apply And.intro | refine Classical.or_iff_not_imp_left.2 (fun _ => ?_) | exact trivial
    · subst hF hU; show ((20 : UInt8).toNat : Int) ≠ 0; decide
    · subst hF hU; show (4 : Int) ≠ 0; decide
    · subst hF hU; exact (pw_ok a j).1
    · subst hF hU; exact Nat.le_of_ble_eq_true rfl
    · subst hF hU; show (5 : Int) ≠ 0; decide
    · subst hF hU; exact ok_wM (pw_ok a j).1
    · subst hF hU; exact ok_fl (ok_wM (pw_ok a j).1)
    · rename_i h; subst hF hU; exact (pb_or h (ok_fl (ok_wM (pw_ok a j).1)))
    · intro hr
      cbv
      repeat' first | apply And.intro | refine Classical.or_iff_not_imp_left.2 (fun _ => ?_) | exact trivial
      · subst hF hU; show (5 : Int) ≠ 0; decide
      · rename_i h; subst hF hU; exact (ap_ne (eq_0 hr.2 ((pw_fl a (pw_g (by assumption)) (pw_m5t (by assumption))).2 _)) h).elim
      · refine ⟨(j + 1 : Nat), ?_⟩
        cbv
        subst hF hU
        have h9 := pw_g (by assumption)
        obtain ⟨k1, k2, k3⟩ := pw_nf a h9 (pw_m5t (by assumption))
        exact ⟨Nat.le_trans h9 (by decide), sub_stepN (Nat.lt_of_lt_of_le h9 (by decide)), ⟨pw_i h9, trivial⟩, ⟨⟨k1, trivial⟩, trivial⟩, k2, k3, trivial⟩
      · rename_i h; subst hF hU; exact (ap_ne (pw_fl a (pw_g (by assumption)) (pw_m5t (by assumption))).1 h).elim
    · intro hr
      cbv
      repeat' first | apply And.intro | refine Classical.or_iff_not_imp_left.2 (fun _ => ?_) | exact trivial
      · subst hF hU; show (5 : Int) ≠ 0; decide
      · rename_i h; subst hF hU; exact (ap_ne ((pw_fl a (pw_g (by assumption)) (pw_m5t (by assumption))).2 _) h).elim
      · refine ⟨(j + 1 : Nat), ?_⟩
        cbv
        subst hF hU
        have h9 := pw_g (by assumption)
        obtain ⟨k1, k2, k3⟩ := pw_nf a h9 (pw_m5t (by assumption))
        exact ⟨Nat.le_trans h9 (by decide), sub_stepN (Nat.lt_of_lt_of_le h9 (by decide)), ⟨pw_i h9, trivial⟩, ⟨⟨k1, trivial⟩, trivial⟩, k2, k3, trivial⟩
      · rename_i h; subst hF hU; exact (ap_ne (pw_fl a (pw_g (by assumption)) (pw_m5t (by assumption))).1 h).elim
    · subst hF hU; exact ok_wM (pw_ok a j).1
    · rename_i h; subst hF hU; exact (pb_or h (ok_wM (pw_ok a j).1))
    · intro hr
      cbv
      repeat' first | apply And.intro | refine Classical.or_iff_not_imp_left.2 (fun _ => ?_) | exact trivial
      · subst hF hU; show (5 : Int) ≠ 0; decide
      · rename_i h; subst hF hU; exact (ap_ne (eq_0 hr.2 (pw_no a (pw_g (by assumption)) (pw_m5f (by assumption)) [] (by decide)).2) h).elim
      · refine ⟨(j + 1 : Nat), ?_⟩
        cbv
        subst hF hU
        have h9 := pw_g (by assumption)
        obtain ⟨k1, k2, k3⟩ := pw_nn a h9 (pw_m5f (by assumption))
        exact ⟨Nat.le_trans h9 (by decide), sub_stepN (Nat.lt_of_lt_of_le h9 (by decide)), ⟨pw_i h9, trivial⟩, ⟨⟨k1, trivial⟩, trivial⟩, k2, k3, trivial⟩
      · rename_i h; subst hF hU; exact (ap_ne (pw_no a (pw_g (by assumption)) (pw_m5f (by assumption)) _ (Nat.le_of_ble_eq_true rfl)).1 h).elim
    · intro hr
      cbv
      repeat' first | apply And.intro | refine Classical.or_iff_not_imp_left.2 (fun _ => ?_) | exact trivial
      · subst hF hU; show (5 : Int) ≠ 0; decide
      · rename_i h; subst hF hU; exact (ap_ne (pw_no a (pw_g (by assumption)) (pw_m5f (by assumption)) [] (by decide)).2 h).elim
      · refine ⟨(j + 1 : Nat), ?_⟩
        cbv
        subst hF hU
        have h9 := pw_g (by assumption)
        obtain ⟨k1, k2, k3⟩ := pw_nn a h9 (pw_m5f (by assumption))
        exact ⟨Nat.le_trans h9 (by decide), sub_stepN (Nat.lt_of_lt_of_le h9 (by decide)), ⟨pw_i h9, trivial⟩, ⟨⟨k1, trivial⟩, trivial⟩, k2, k3, trivial⟩
      · rename_i h; subst hF hU; exact (ap_ne (pw_no a (pw_g (by assumption)) (pw_m5f (by assumption)) _ (Nat.le_of_ble_eq_true rfl)).1 h).elim
    · subst hF hU; exact (pw_ok a j).1
    · subst hF hU; exact ok_crash (pw_ok a j).1 _ _
    · rename_i h; subst hF hU; exact (pb_or h (ok_crash (pw_ok a j).1 _ _))
    · intro hr
      cbv
      repeat' first | apply And.intro | refine Classical.or_iff_not_imp_left.2 (fun _ => ?_) | exact trivial
      · subst hF hU; exact ok_crash (pw_ok a j).1 _ _
      · subst hF hU; exact Nat.zero_le _
      · subst hF hU
        have e := wE_0 (st := ((u_pwN j : Nat) : Int)) (i := 0) (b := []) (pw_lc a j) (by decide)
        show decide (u_wE _ _ _ _ _ = 0) = true
        exact decide_eq_true e
      · rename_i h; subst hF hU; exact no0 h
    · intro hr
      exfalso
      subst hF hU
      have e := rE_0 (st := ((u_pwN j : Nat) : Int)) (i := 0) (pw_lc a j)
      have h2 := hr.2
      have h3 : decide (u_rE ((u_pwN j : Nat) : Int) 0 (u_cX (u_pw a j).1 (u_pw a j).2 []) ((0 : Nat) : Int) = 0) = false := h2
      rw [decide_eq_false_iff_not] at h3
      exact h3 e
end Go.Proofs.Ythhgmjclmdggjaa
namespace Go.Proofs.Ythhgmjclmdggjaa.sectorPower
open Go.ChangeShapes Go.WideShapes Go.ChangeAt Go.RowKit
set_option linter.unusedVariables false
theorem own : ownKnob Try.prog.godebug = none := by kernel_rfl
theorem laidOut : laidOutB Try.prog = true := p_laidOut
set_option maxRecDepth 100000 in
theorem lifted (os : Os) (started : os.Started) (H : Type) (enc : TypeId × Value → H) :
    ReturnsInHanded {} Try.checked os 7 .any (Rows.sectorPowerSpec.pre6 enc Try.prog Try.f7 Rows.sectorPowerRow.domain false) (Rows.sectorPowerSpec.post enc Try.prog Try.f7 false true false false) := by
  refine returnsInHanded_of_change_shaped (C := Try.checked) own started (by kernel_rfl) Try.func7
    (ChangeSpec.witness6 (enc := enc) (C := Try.checked) false ⟨#[], #[.int .u8 0, .int .u8 0], []⟩ 8 (by kernel_rfl) (by kernel_rfl) (by kernel_rfl) (by kernel_rfl)) ?_
  intro W base args ds gs before hval0 hW hcnd hrch hsh _
  have hval : ∀ (j : Nat) t v, Try.f7.params[j]? = some t → args[j]? = some v → Value.okWide Try.prog W .any base t v := hval0
  have hW' := hW
  obtain ⟨p, q, hA0, hV, rfl, hfz, hnd⟩ := hW
  have hA : DataW.TrodAll enc Try.prog W 0 (fun _ => true) true Try.f7.params.toList args.toList ds p := hA0
  rw [Try.params7] at hA hval
  obtain ⟨v0, vs0, d0, ds0, p0, q0, hargs, rfl, rfl, h0, r0⟩ := trodAll_cons hA
  obtain ⟨v1, vs1, d1, ds1, p1, q1, rfl, rfl, rfl, h1, r1⟩ := trodAll_cons r0
  obtain ⟨rfl, rfl, rfl⟩ := trodAll_nil r1
  obtain rfl : args = #[v0, v1] := by cases args; simp_all
  obtain ⟨rfl, rfl⟩ := trodVars_none hV
  obtain ⟨a, k0⟩ := Go.Vc.open8 Try.underlying5 (hval 0 5 v0 rfl rfl) h0
  obtain ⟨n, k1⟩ := Go.Vc.open8 Try.underlying5 (hval 1 5 v1 rfl rfl) h1
  clear hA0 hval0
  refine (Go.Vc.law_walk2 (x := x_law6_SectorPower Go.Vc.real us) (an := (an_law6_SectorPower Go.Vc.real us a n)) (cu := []) (l := [.w8 a, .w8 n]) (vals := [v0, v1]) ⟨tt_ok, ok_law6_SectorPower, (Go.Vc.ks_cons r_sector_Disk_Read kk_sector_Disk_Read Go.Vc.ks_nil)⟩ mixed Try.func7 rfl rfl (by kernel_rfl) hsh (Nat.le_of_ble_eq_true rfl) (Go.Vc.rvs_cons k0 (Go.Vc.rvs_cons k1 Go.Vc.rvs_nil)) (c_law6_SectorPower a n )).mono fun e W' ⟨he, bel⟩ => ?_
  subst he
  exact ⟨_, rfl, Go.Vc.post_true (tb := 4) laidOut (by kernel_rfl) rfl Try.underlying4 rfl hW' rfl bel⟩
theorem over : Rows.sectorPowerRow.holds Try.pinned (OpenSpec.ofChange Rows.sectorPowerSpec) :=
  OpenClaim.holds_of_wide 7 Try.f7 rfl rfl rfl rfl rfl rfl rfl ⟨rfl, rfl, rfl, rfl, rfl⟩ rfl rfl rfl rfl rfl (by kernel_rfl) Try.func7 (Go.Vc.joined_of p_laidOut p_maps p_stops p_knobs p_heard p_mayEnter p_lifts p_make rfl rfl (by kernel_rfl) (by kernel_rfl) (by kernel_rfl) (by kernel_rfl) (by kernel_rfl) (by kernel_rfl) (by kernel_rfl) (by kernel_rfl) (by kernel_rfl) (by kernel_rfl) (by kernel_rfl) (by kernel_rfl) (by kernel_rfl) (by kernel_rfl) (by kernel_rfl) (by kernel_rfl) (by kernel_rfl) (by kernel_rfl) (by kernel_rfl) (by kernel_rfl) (by kernel_rfl) (by kernel_rfl) (by kernel_rfl) (by kernel_rfl) )
    (of_decide_eq_true (by kernel_rfl)) (by unfold Func.isWrapper; first | (rw [if_pos (by decide +kernel)]; kernel_rfl) | (rw [if_neg (by decide +kernel)]; exact ⟨rfl, rfl⟩))
    (fun os started H enc _ => lifted os started H enc)
theorem proved : Rows.SectorPowerSaid := over
#print axioms proved
end Go.Proofs.Ythhgmjclmdggjaa.sectorPower

