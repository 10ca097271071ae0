/- The given statement is proved: for every input the law's function answers true. No condition. -/
import Derived.Test.YthhgmjclmdggjaaRows
import Derived.Test.YthhgmjclmdggjaaPart5
import Derived.WalkKit
import Derived.HandedShaped
import Derived.ProofKit
import Derived.OpenShut
import Derived.ShutString
set_option linter.unusedVariables false
set_option linter.unusedSimpArgs false
set_option maxRecDepth 100000
set_option maxHeartbeats 1000000
namespace Go.Proofs.Ythhgmjclmdggjaa
open Go Go.Vc
theorem ap_pin (i : UInt8) : real.pIn (real.wrapi (real.toI8 (real.rem8 i (real.ofI8 (real.int 8))))) 8 := by
  have h : real.wrapi (real.toI8 (real.rem8 i (real.ofI8 (real.int 8)))) = ((i.toNat % 8 : Nat) : Int) := rem8_eq i
  have h2 : i.toNat % 8 < 8 := Nat.mod_lt _ (by decide)
  rw [h]
  exact ⟨Int.natCast_nonneg _, Int.ofNat_lt.2 h2⟩
theorem ap_nat (i : UInt8) : real.nat (real.wrapi (real.toI8 (real.rem8 i (real.ofI8 (real.int 8))))) = i.toNat % 8 := by
  have h : real.wrapi (real.toI8 (real.rem8 i (real.ofI8 (real.int 8)))) = ((i.toNat % 8 : Nat) : Int) := rem8_eq i
  rw [h]; rfl
theorem ap_le (i : UInt8) : real.pLe (real.addn (real.muln (real.nat (real.wrapi (real.toI8 (real.rem8 i (real.ofI8 (real.int 8)))))) 64) 64) 512 := by
  have h2 : i.toNat % 8 < 8 := Nat.mod_lt _ (by decide)
  rw [ap_nat]
  show (i.toNat % 8) * 64 + 64 ≤ 512
  generalize i.toNat % 8 = n at h2
  omega
theorem ap_wE (st : Int) (i : UInt8) (a : List UInt8) (ha : a.length ≤ 64) : us.wE st 0 (real.repD (us.nlen (real.int 8)) (real.dz (.l8 64))) (real.wrapi (real.toI8 (real.rem8 i (real.ofI8 (real.int 8))))) a = 0 := by
  have h : real.wrapi (real.toI8 (real.rem8 i (real.ofI8 (real.int 8)))) = ((i.toNat % 8 : Nat) : Int) := rem8_eq i
  have h2 : i.toNat % 8 < 8 := Nat.mod_lt _ (by decide)
  rw [h]
  exact wE_0 (st := st) (xs := x8) h2 ha
theorem ap_M (i j : UInt8) (a b : List UInt8) : us.wM (real.addi 0 (real.int 1)) 0 (real.repD (us.nlen (real.int 8)) (real.dz (.l8 64))) (us.wM 0 0 (real.repD (us.nlen (real.int 8)) (real.dz (.l8 64))) ⟨[], 0⟩ (real.wrapi (real.toI8 (real.rem8 i (real.ofI8 (real.int 8))))) a) (real.wrapi (real.toI8 (real.rem8 j (real.ofI8 (real.int 8))))) b = us.apM i j a b := by
  have h : real.wrapi (real.toI8 (real.rem8 i (real.ofI8 (real.int 8)))) = ((i.toNat % 8 : Nat) : Int) := rem8_eq i
  have h2 : real.wrapi (real.toI8 (real.rem8 j (real.ofI8 (real.int 8)))) = ((j.toNat % 8 : Nat) : Int) := rem8_eq j
  rw [h, h2]
  rfl
theorem ap_spl (L a : List UInt8) (p : Nat) (ha : a.length ≤ 64) : real.splB L p (real.cutB a 0 (real.minn (real.lenB a) 64)) = u_spl L p a := by
  have e : real.cutB a 0 (real.minn (real.lenB a) 64) = a := by
    show (a.drop 0).take (min a.length 64) = a
    rw [List.drop_zero, List.take_of_length_le (by omega)]
  rw [e]; rfl
theorem ap_W (i j : UInt8) (a b : List UInt8) (ha : a.length ≤ 64) (hb : b.length ≤ 64) : real.splB (real.splB (real.repB 512) (real.muln (real.nat (real.wrapi (real.toI8 (real.rem8 i (real.ofI8 (real.int 8)))))) 64) (real.cutB a 0 (real.minn (real.lenB a) 64))) (real.muln (real.nat (real.wrapi (real.toI8 (real.rem8 j (real.ofI8 (real.int 8)))))) 64) (real.cutB b 0 (real.minn (real.lenB b) 64)) = us.apW i j a b := by
  rw [ap_nat, ap_nat, ap_spl _ _ _ ha, ap_spl _ _ _ hb]
  show u_spl (u_spl (List.replicate 512 0) (i.toNat % 8 * 64) a) (j.toNat % 8 * 64) b = _
  rw [Nat.mul_comm (i.toNat % 8), Nat.mul_comm (j.toNat % 8)]
  rfl
theorem ap_all (i j : UInt8) (a b : List UInt8) (ha : a.length ≤ 64) (hb : b.length ≤ 64) {n : Int} {k : Nat} (hn : n = (k : Int)) (hk : k < 8) :
    real.pB (real.eqi (us.rE (real.addi (real.addi 0 (real.int 1)) (real.int 1)) 0 (real.repD (us.nlen (real.int 8)) (real.dz (.l8 64))) n) 0) true ∧
    real.pLe (real.addn 0 64) (real.lenB (us.now (real.repD (us.nlen (real.int 8)) (real.dz (.l8 64))) (us.apM i j a b) n)) ∧ real.pIn n 8 ∧
    real.pLe (real.addn (real.muln (real.nat n) 64) 64) (real.lenB (us.apW i j a b)) ∧
    real.eqB (real.cutB (us.now (real.repD (us.nlen (real.int 8)) (real.dz (.l8 64))) (us.apM i j a b) n) 0 64) (real.cutB (us.apW i j a b) (real.muln (real.nat n) 64) 64) = true := by
  subst hn
  have hl : (u_now x8 (u_apM i j a b) (k : Int)).length = 64 := now_len (apM_ok i j a b) (isI_of (by rw [x8_len]; exact hk))
  have hW := apW_len i j a b ha hb
  refine ⟨pb_eq0 (rE_0 (st := real.addi (real.addi 0 (real.int 1)) (real.int 1)) (xs := x8) hk), ?_, ⟨Int.natCast_nonneg k, Int.ofNat_lt.2 hk⟩, ?_, ?_⟩
  · show 0 + 64 ≤ (u_now x8 (u_apM i j a b) (k : Int)).length
    omega
  · show k * 64 + 64 ≤ (u_apW i j a b).length
    omega
  · show (((u_now x8 (u_apM i j a b) (k : Int)).drop 0).take 64 == ((u_apW i j a b).drop (k * 64)).take 64) = true
    rw [List.drop_zero, List.take_of_length_le (by omega), ap_now i j a b ha hb hk, Nat.mul_comm k 64]
    exact beq_self_eq_true (chunk (u_apW i j a b) k)
theorem ap_r (i : UInt8) : real.wrapi (real.toI8 (real.rem8 i (real.ofI8 (real.int 8)))) = ((i.toNat % 8 : Nat) : Int) ∧ i.toNat % 8 < 8 := ⟨rem8_eq i, Nat.mod_lt _ (by decide)⟩
theorem ap_s {k : Nat} (h : k < 8) : real.addi (real.int k) (real.int 1) = real.int (k + 1) := addi1 (by omega)
theorem ap_ok (i j : UInt8) (a b : List UInt8) : us.ok (real.repD (us.nlen (real.int 8)) (real.dz (.l8 64))) (us.apM i j a b) := apM_ok i j a b
attribute [local irreducible] u_wM u_wE u_now u_ok u_apM u_apW u_rE
end Go.Proofs.Ythhgmjclmdggjaa
namespace Go.Proofs.Ythhgmjclmdggjaa
open Go Go.Vc
noncomputable def sp_law6_SectorApart (F : Fs) (U : Us) : Specs := [(9, s_law6_known F U), (10, s_sector_New F U), (11, s_sector_Disk_Write F U), (12, s_sector_Disk_Read_o F U)]
theorem ok_law6_SectorApart : SpecsOK Try.prog (sp_law6_SectorApart real us) := sp_cons r_law6_known k_law6_known (sp_cons r_sector_New k_sector_New (sp_cons r_sector_Disk_Write k_sector_Disk_Write (sp_cons r_sector_Disk_Read_o k_sector_Disk_Read_o sp_nil)))
noncomputable def an_law6_SectorApart (F : Fs) (U : Us) (i j : UInt8) (a b : List UInt8) : Anns := [(13, ⟨Nat, fun k => k ≤ 8, fun k => F.subn 8 k, fun k => ⟨[(2, .rb 1 (.bt a)), (9, .p 5 0 0), (10, .i (F.wrapi (F.toI8 (F.rem8 i (F.ofI8 (F.int 8)))))), (12, .p 8 0 0), (13, .i (F.int k))], [(9, 5, .bk 47 [(1, .vs [.i (F.addi (F.addi 0 (F.int 1)) (F.int 1))]), (1, .vs [.i 0]), (1, .vs [.rw 6]), (1, .vs [.mh 7])]), (999, 6, .row 60 64 (.ds (.l8 64) (F.repD (U.nlen (F.int 8)) (F.dz (.l8 64))))), (999, 7, .mp 45 .i (.l8 64) (U.apM i j a b)), (12, 8, .bk 29 [(512, .bt (U.apW i j a b))])]⟩⟩)]
noncomputable def x_law6_SectorApart (F : Fs) (U : Us) : Cx := ⟨Try.f3.ntmps, tt F, sp_law6_SectorApart F U, [], [(16, ([(7, [4]), (8, [4])], [])), (22, ([(4, [1]), (5, [1])], []))], [], []⟩
theorem c_law6_SectorApart (i j : UInt8) (a b : List UInt8) (q2 : a.length ≤ 9223372036854775807) (q3 : b.length ≤ 9223372036854775807) : vc real (x_law6_SectorApart real us) (an_law6_SectorApart real us i j a b) [] (Try.f3.body.getD .skip) ⟨zipSl 0 [.w8 i, .w8 j, .rb 1 (.bt a), .rb 1 (.bt b)], [], 64⟩ (retOk real (tt real) false Try.f3.results.toList [.val (.b true)]) := by
  generalize hU : us = U
  generalize hF : real = F
  cbv
  repeat' first | apply And.intro | refine Classical.or_iff_not_imp_left.2 (fun _ => ?_) | exact trivial
  · rename_i h; subst hF hU; exact absurd rfl h
  · subst hF hU; show ((8 : UInt8).toNat : Int) ≠ 0; decide
  · subst hF hU; show ((8 : UInt8).toNat : Int) ≠ 0; decide
  · subst hF hU; exact x8_ok
  · subst hF hU
    have ha : a.length ≤ 64 := ge_g (n := a.length) (by assumption)
    show a.length ≤ 1000000000
    omega
  · subst hF hU; exact ok_wM x8_ok
  · subst hF hU
    have hb : b.length ≤ 64 := ge_g (n := b.length) (by assumption)
    show b.length ≤ 1000000000
    omega
  · rename_i h; subst hF hU
    have hb : b.length ≤ 64 := ge_g (n := b.length) (by assumption)
    exact (nz_g h (ap_wE (real.addi 0 (real.int 1)) j b hb)).elim
  · subst hF hU; exact ap_pin i
  · subst hF hU; exact ap_le i
  · subst hF hU; exact ap_pin j
  · subst hF hU; exact ap_le j
  · refine ⟨(0 : Nat), ?_⟩
    cbv
    subst hF hU
    have ha : a.length ≤ 64 := ge_g (n := a.length) (by assumption)
    have hb : b.length ≤ 64 := ge_g (n := b.length) (by assumption)
    exact ⟨ap_M i j a b, ⟨ap_W i j a b ha hb, trivial⟩, trivial⟩
  · intro (k : Nat) hk
    replace hk : k ≤ 8 := hk
    have ha : a.length ≤ 64 := by subst hF hU; exact ge_g (n := a.length) (by assumption)
    have hb : b.length ≤ 64 := by subst hF hU; exact ge_g (n := b.length) (by assumption)
    cbv
    repeat' first | apply And.intro | refine Classical.or_iff_not_imp_left.2 (fun _ => ?_) | exact trivial
    · subst hF hU; exact ap_ok i j a b
    · subst hF hU; exact (ap_all i j a b ha hb rfl (lt_g (n := 8) (by assumption))).1
    · subst hF hU; exact (ap_all i j a b ha hb rfl (lt_g (n := 8) (by assumption))).2.1
    · subst hF hU; exact (ap_all i j a b ha hb rfl (lt_g (n := 8) (by assumption))).2.2.1
    · subst hF hU; exact (ap_all i j a b ha hb rfl (lt_g (n := 8) (by assumption))).2.2.2.1
    · rename_i h; subst hF hU; exact (ap_ne (ap_all i j a b ha hb rfl (lt_g (n := 8) (by assumption))).2.2.2.2 h).elim
    · refine ⟨(k + 1 : Nat), ?_⟩
      cbv
      subst hF hU
      have hlt : k < 8 := lt_g (n := 8) (by assumption)
      exact ⟨hlt, sub_stepN hlt, ⟨ap_s hlt, trivial⟩, trivial⟩
    · rename_i h; subst hF hU; exact absurd rfl h
    · subst hF hU; exact ap_ok i j a b
    · subst hF hU; exact (ap_all i j a b ha hb (ap_r i).1 (ap_r i).2).1
    · subst hF hU; exact ⟨by decide, by decide⟩
    · subst hF hU; exact Nat.le_of_ble_eq_true rfl
    · subst hF hU; exact ⟨by decide, by decide⟩
    · subst hF hU; exact Nat.le_of_ble_eq_true rfl
    · subst hF hU; exact ap_ok i j a b
    · subst hF hU; exact (ap_all i j a b ha hb (ap_r i).1 (ap_r i).2).1
    · subst hF hU; exact (ap_all i j a b ha hb (ap_r i).1 (ap_r i).2).2.1
    · subst hF hU; exact (ap_all i j a b ha hb (ap_r i).1 (ap_r i).2).2.2.1
    · subst hF hU; exact (ap_all i j a b ha hb (ap_r i).1 (ap_r i).2).2.2.2.1
    · subst hF hU; exact (ap_all i j a b ha hb (ap_r i).1 (ap_r i).2).2.2.2.2
    · subst hF hU; exact ap_ok i j a b
    · subst hF hU; exact (ap_all i j a b ha hb (ap_r i).1 (ap_r i).2).1
    · subst hF hU; exact (ap_all i j a b ha hb (ap_r i).1 (ap_r i).2).2.1
    · subst hF hU; exact (ap_all i j a b ha hb (ap_r i).1 (ap_r i).2).2.2.1
    · subst hF hU; exact (ap_all i j a b ha hb (ap_r i).1 (ap_r i).2).2.2.2.1
    · subst hF hU; exact (ap_all i j a b ha hb (ap_r i).1 (ap_r i).2).2.2.2.2
  · rename_i h; subst hF hU
    have ha : a.length ≤ 64 := ge_g (n := a.length) (by assumption)
    exact (nz_g h (ap_wE 0 i a ha)).elim
end Go.Proofs.Ythhgmjclmdggjaa
namespace Go.Proofs.Ythhgmjclmdggjaa.sectorApart
open Go.ChangeShapes Go.WideShapes Go.ChangeAt Go.RowKit
set_option linter.unusedVariables false
theorem own : ownKnob Try.prog.godebug = none := by kernel_rfl
theorem laidOut : laidOutB Try.prog = true := p_laidOut
set_option maxRecDepth 100000 in
theorem lifted (os : Os) (started : os.Started) (H : Type) (enc : TypeId × Value → H) :
    ReturnsInHanded {} Try.checked os 3 .any (Rows.sectorApartSpec.pre6 enc Try.prog Try.f3 Rows.sectorApartRow.domain false) (Rows.sectorApartSpec.post enc Try.prog Try.f3 false true false false) := by
  refine returnsInHanded_of_change_shaped (C := Try.checked) own started (by kernel_rfl) Try.func3
    (ChangeSpec.witness6 (enc := enc) (C := Try.checked) false ⟨#[], #[.int .u8 0, .int .u8 0, .slice none 0 0, .slice none 0 0], []⟩ 8 (by kernel_rfl) (by kernel_rfl) (by kernel_rfl) (by kernel_rfl)) ?_
  intro W base args ds gs before hval0 hW hcnd hrch hsh _
  have hval : ∀ (j : Nat) t v, Try.f3.params[j]? = some t → args[j]? = some v → Value.okWide Try.prog W .any base t v := hval0
  have hW' := hW
  obtain ⟨p, q, hA0, hV, rfl, hfz, hnd⟩ := hW
  have hA : DataW.TrodAll enc Try.prog W 0 (fun _ => true) true Try.f3.params.toList args.toList ds p := hA0
  rw [Try.params3] at hA hval
  obtain ⟨v0, vs0, d0, ds0, p0, q0, hargs, rfl, rfl, h0, r0⟩ := trodAll_cons hA
  obtain ⟨v1, vs1, d1, ds1, p1, q1, rfl, rfl, rfl, h1, r1⟩ := trodAll_cons r0
  obtain ⟨v2, vs2, d2, ds2, p2, q2, rfl, rfl, rfl, h2, r2⟩ := trodAll_cons r1
  obtain ⟨v3, vs3, d3, ds3, p3, q3, rfl, rfl, rfl, h3, r3⟩ := trodAll_cons r2
  obtain ⟨rfl, rfl, rfl⟩ := trodAll_nil r3
  obtain rfl : args = #[v0, v1, v2, v3] := by cases args; simp_all
  obtain ⟨rfl, rfl⟩ := trodVars_none hV
  obtain ⟨i, k0⟩ := Go.Vc.open8 Try.underlying5 (hval 0 5 v0 rfl rfl) h0
  obtain ⟨j, k1⟩ := Go.Vc.open8 Try.underlying5 (hval 1 5 v1 rfl rfl) h1
  obtain ⟨a, k2, q2⟩ := Go.Vc.openL8 Try.underlying22 Try.underlying5 (by kernel_rfl) (hval 2 22 v2 rfl rfl) h2
  obtain ⟨b, k3, q3⟩ := Go.Vc.openL8 Try.underlying22 Try.underlying5 (by kernel_rfl) (hval 3 22 v3 rfl rfl) h3
  clear hA0 hval0
  refine (Go.Vc.law_walk2 (x := x_law6_SectorApart Go.Vc.real us) (an := (an_law6_SectorApart Go.Vc.real us i j a b)) (cu := []) (l := [.w8 i, .w8 j, .rb 1 (.bt a), .rb 1 (.bt b)]) (vals := [v0, v1, v2, v3]) ⟨tt_ok, ok_law6_SectorApart, Go.Vc.ks_nil⟩ mixed Try.func3 rfl rfl (by kernel_rfl) hsh (Nat.le_of_ble_eq_true rfl) (Go.Vc.rvs_cons k0 (Go.Vc.rvs_cons k1 (Go.Vc.rvs_cons k2 (Go.Vc.rvs_cons k3 Go.Vc.rvs_nil)))) (c_law6_SectorApart i j a b q2 q3)).mono fun e W' ⟨he, bel⟩ => ?_
  subst he
  exact ⟨_, rfl, Go.Vc.post_true (tb := 4) laidOut (by kernel_rfl) rfl Try.underlying4 rfl hW' rfl bel⟩
theorem over : Rows.sectorApartRow.holds Try.pinned (OpenSpec.ofChange Rows.sectorApartSpec) :=
  OpenClaim.holds_of_wide 3 Try.f3 rfl rfl rfl rfl rfl rfl rfl ⟨rfl, rfl, rfl, rfl, rfl⟩ rfl rfl rfl rfl rfl (by kernel_rfl) Try.func3 (Go.Vc.joined_of p_laidOut p_maps p_stops p_knobs p_heard p_mayEnter p_lifts p_make rfl rfl (by kernel_rfl) (by kernel_rfl) (by kernel_rfl) (by kernel_rfl) (by kernel_rfl) (by kernel_rfl) (by kernel_rfl) (by kernel_rfl) (by kernel_rfl) (by kernel_rfl) (by kernel_rfl) (by kernel_rfl) (by kernel_rfl) (by kernel_rfl) (by kernel_rfl) (by kernel_rfl) (by kernel_rfl) (by kernel_rfl) (by kernel_rfl) (by kernel_rfl) (by kernel_rfl) (by kernel_rfl) (by kernel_rfl) (by kernel_rfl) )
    (of_decide_eq_true (by kernel_rfl)) (by unfold Func.isWrapper; first | (rw [if_pos (by decide +kernel)]; kernel_rfl) | (rw [if_neg (by decide +kernel)]; exact ⟨rfl, rfl⟩))
    (fun os started H enc _ => lifted os started H enc)
theorem proved : Rows.SectorApartSaid := over
#print axioms proved
end Go.Proofs.Ythhgmjclmdggjaa.sectorApart

