/- The given statement is proved: for every input the law's function answers true. No condition. -/
import Derived.Test.YthhgmjclmdggjaaRows
import Derived.Test.YthhgmjclmdggjaaPart5
import Derived.WalkKit
import Derived.HandedShaped
import Derived.ProofKit
import Derived.OpenShut
import Derived.ShutString
set_option linter.unusedVariables false
set_option linter.unusedSimpArgs false
set_option maxRecDepth 100000
set_option maxHeartbeats 1000000
namespace Go.Proofs.Ythhgmjclmdggjaa
open Go Go.Vc
theorem x2_ok : u_ok x2 ⟨[], 0⟩ := ok_new (by decide) 0
theorem kp_ok1 (a : List UInt8) : u_ok x2 (kp_M1 a) := ok_wM x2_ok
theorem kp_ok2 (a : List UInt8) : u_ok (kp_X2 a) (kp_M2 a) := ok_fl (kp_ok1 a)
theorem kp_ok3 (a b : List UInt8) : u_ok (kp_X2 a) (kp_M3 a b) := ok_wM (kp_ok2 a)
theorem kp_ok4 (a b : List UInt8) : ∀ f, u_ok (kp_X4 a b f) (kp_M4 a b f)
  | true => ok_fl (kp_ok3 a b)
  | false => kp_ok3 a b
theorem kp_l2 (a : List UInt8) : (kp_X2 a).length = 2 := fX_len _ _ _ _
theorem kp_l4 (a b : List UInt8) : ∀ f, (kp_X4 a b f).length = 2
  | true => (fX_len _ _ _ _).trans (kp_l2 a)
  | false => kp_l2 a
theorem kp_okc (a b : List UInt8) (f : Bool) (c : UInt8) : u_ok (u_kpX a b f c) (u_kpM a b f) := ok_crash (kp_ok4 a b f) _ _
theorem kp_lc (a b : List UInt8) (f : Bool) (c : UInt8) : (u_kpX a b f c).length = 2 := (cX_len (kp_ok4 a b f) _).trans (kp_l4 a b f)
theorem kp_f3 {a b : List UInt8} (hb : b.length = 64) : MD.find (kp_M3 a b).es (.i (0 : Int)) = some (.l8 b) := by
  have h := find_wM (st := 2) (xs := kp_X2 a) (M := kp_M2 a) (i := 0) (k := 0) (b := b) (by rw [kp_l2]; decide) (by omega)
  have hn : (u_now (kp_X2 a) (kp_M2 a) ((0 : Nat) : Int)).length = 64 := now_len (kp_ok2 a) (isI_of (by rw [kp_l2]; decide))
  rw [if_pos rfl, List.drop_of_length_le (by omega), List.append_nil] at h
  exact h
theorem kp_g2 {a : List UInt8} (ha : a.length = 64) : (kp_X2 a).getD 0 D.no = .l8 a := by
  unfold kp_X2
  rw [fX_0, flush_get (i := 0) (by decide)]
  have h := find_wM (st := 0) (xs := x2) (M := ⟨[], 0⟩) (i := 0) (k := 0) (b := a) (by decide) (by omega)
  have hn : (u_now x2 ⟨[], 0⟩ ((0 : Nat) : Int)).length = 64 := now_len x2_ok (isI_of (by decide))
  rw [if_pos rfl, List.drop_of_length_le (by omega), List.append_nil] at h
  have h : MD.find (kp_M1 a).es (.i ((0 : Nat) : Int)) = some (.l8 a) := h
  rw [h]; rfl
theorem kp_get {a b : List UInt8} (ha : a.length = 64) (hb : b.length = 64) (c : UInt8) : ∀ f, (u_kpX a b f c).getD 0 D.no = .l8 (u_kpR a b f c)
  | true => by
    have h1 : MD.find (kp_M4 a b true).es (.i ((0 : Nat) : Int)) = none := by
      show MD.find (u_fM 3 0 (kp_M3 a b)).es _ = none
      rw [fM_0]; rfl
    refine (cX_no (kp_ok4 a b true) [c, c] 0 h1).trans ?_
    show (u_fX 3 0 (kp_X2 a) (kp_M3 a b)).getD 0 D.no = _
    rw [fX_0, flush_get (i := 0) (by rw [kp_l2]; decide)]
    have h := kp_f3 (a := a) hb
    have h : MD.find (kp_M3 a b).es (.i ((0 : Nat) : Int)) = some (.l8 b) := h
    rw [h]
    show D.l8 b = .l8 (b.take 64 ++ a.drop 64)
    rw [List.take_of_length_le (by omega), List.drop_of_length_le (by omega), List.append_nil]
  | false => by
    obtain ⟨k, k1, k2, k3⟩ := cX_yes (kp_ok4 a b false) [c, c] 0 (d := .l8 b) (kp_f3 hb)
    refine k3.trans ?_
    have hk : k < 2 := by
      have h1 := ok_mlen (kp_ok4 a b false)
      rw [kp_l4] at h1
      have h2 : (kp_M4 a b false).keysI.length = (kp_M4 a b false).es.length := by unfold MD.keysI; rw [List.length_mergeSort, List.length_map]
      omega
    have hc : [c, c].getD k 0 = c := by
      rcases k with _ | _ | k
      · rfl
      · rfl
      · omega
    rw [hc]
    show D.l8 (u_torn ((kp_X2 a).getD 0 D.no).gl8 b c) = _
    rw [kp_g2 ha]
    show D.l8 (u_torn a b c) = .l8 (b.take (u_kpK false c) ++ a.drop (u_kpK false c))
    unfold u_torn u_kpK
    simp only [Bool.false_eq_true, false_or]
theorem kp_now {a b : List UInt8} (ha : a.length = 64) (hb : b.length = 64) (f : Bool) (c : UInt8) : u_now (u_kpX a b f c) (u_kpM a b f) 0 = u_kpR a b f c := by
  refine (now_eq _ _ 0).trans ?_
  show ((none : Option D).getD ((u_kpX a b f c).getD 0 D.no)).gl8 = _
  rw [kp_get ha hb c f]; rfl
theorem kp_now2 {a b : List UInt8} (ha : a.length = 64) (hb : b.length = 64) (f : Bool) (c : UInt8) (cs : List UInt8) (n : Nat) : u_now (u_cX (u_kpX a b f c) (u_kpM a b f) cs) ⟨[], n⟩ 0 = u_kpR a b f c := by
  refine (now_eq _ _ 0).trans ?_
  show ((none : Option D).getD ((u_cX (u_kpX a b f c) (u_kpM a b f) cs).getD 0 D.no)).gl8 = _
  rw [show (none : Option D).getD ((u_cX (u_kpX a b f c) (u_kpM a b f) cs).getD 0 D.no) = (u_cX (u_kpX a b f c) (u_kpM a b f) cs).getD 0 D.no from rfl, cX_no (kp_okc a b f c) cs 0 rfl, kp_get ha hb c f]; rfl
theorem kp_e4t {a b : List UInt8} (ha : a.length = 64) (hb : b.length = 64) : real.addi (real.addi (real.addi (real.addi 0 (real.int 1)) (real.int 1)) (real.int 1)) (real.int 1) = us.kpS true ∧ us.fX (real.addi (real.addi (real.addi 0 (real.int 1)) (real.int 1)) (real.int 1)) 0 (us.fX (real.addi 0 (real.int 1)) 0 (real.repD (us.nlen (real.int 2)) (real.dz (.l8 64))) (us.wM 0 0 (real.repD (us.nlen (real.int 2)) (real.dz (.l8 64))) ⟨[], 0⟩ (real.int 0) (real.cutB a 0 64))) (us.wM (real.addi (real.addi 0 (real.int 1)) (real.int 1)) 0 (us.fX (real.addi 0 (real.int 1)) 0 (real.repD (us.nlen (real.int 2)) (real.dz (.l8 64))) (us.wM 0 0 (real.repD (us.nlen (real.int 2)) (real.dz (.l8 64))) ⟨[], 0⟩ (real.int 0) (real.cutB a 0 64))) (us.fM (real.addi 0 (real.int 1)) 0 (us.wM 0 0 (real.repD (us.nlen (real.int 2)) (real.dz (.l8 64))) ⟨[], 0⟩ (real.int 0) (real.cutB a 0 64))) (real.int 0) (real.cutB b 0 64)) = us.kpX4 a b true ∧ us.fM (real.addi (real.addi (real.addi 0 (real.int 1)) (real.int 1)) (real.int 1)) 0 (us.wM (real.addi (real.addi 0 (real.int 1)) (real.int 1)) 0 (us.fX (real.addi 0 (real.int 1)) 0 (real.repD (us.nlen (real.int 2)) (real.dz (.l8 64))) (us.wM 0 0 (real.repD (us.nlen (real.int 2)) (real.dz (.l8 64))) ⟨[], 0⟩ (real.int 0) (real.cutB a 0 64))) (us.fM (real.addi 0 (real.int 1)) 0 (us.wM 0 0 (real.repD (us.nlen (real.int 2)) (real.dz (.l8 64))) ⟨[], 0⟩ (real.int 0) (real.cutB a 0 64))) (real.int 0) (real.cutB b 0 64)) = us.kpM4 a b true := by
  rw [cut64 ha, cut64 hb]
  exact ⟨rfl, rfl, rfl⟩
theorem kp_e4f {a b : List UInt8} (ha : a.length = 64) (hb : b.length = 64) : real.addi (real.addi (real.addi 0 (real.int 1)) (real.int 1)) (real.int 1) = us.kpS false ∧ us.fX (real.addi 0 (real.int 1)) 0 (real.repD (us.nlen (real.int 2)) (real.dz (.l8 64))) (us.wM 0 0 (real.repD (us.nlen (real.int 2)) (real.dz (.l8 64))) ⟨[], 0⟩ (real.int 0) (real.cutB a 0 64)) = us.kpX4 a b false ∧ us.wM (real.addi (real.addi 0 (real.int 1)) (real.int 1)) 0 (us.fX (real.addi 0 (real.int 1)) 0 (real.repD (us.nlen (real.int 2)) (real.dz (.l8 64))) (us.wM 0 0 (real.repD (us.nlen (real.int 2)) (real.dz (.l8 64))) ⟨[], 0⟩ (real.int 0) (real.cutB a 0 64))) (us.fM (real.addi 0 (real.int 1)) 0 (us.wM 0 0 (real.repD (us.nlen (real.int 2)) (real.dz (.l8 64))) ⟨[], 0⟩ (real.int 0) (real.cutB a 0 64))) (real.int 0) (real.cutB b 0 64) = us.kpM4 a b false := by
  rw [cut64 ha, cut64 hb]
  exact ⟨rfl, rfl, rfl⟩
theorem kp_wE2 {st : Int} {xs : List D} {b : List UInt8} (hb : b.length = 64) (hx : 0 < xs.length) : us.wE st 0 xs (real.int 0) (real.cutB b 0 64) = 0 := by
  rw [cut64 hb]
  exact wE_0 (st := st) (xs := xs) (i := 0) hx (by omega)
theorem kp_lf {st off : Int} {M : MD} : 0 < (us.fX st off (real.repD (us.nlen (real.int 2)) (real.dz (.l8 64))) M).length := by
  have h := fX_len st off x2 M
  show 0 < (u_fX st off x2 M).length
  rw [h]; decide
theorem kp_fE (st : Int) (h : ¬ real.pB (real.notb (real.eqi (us.fE st 0) (real.int 0))) false) : False := nz_g h (fE_0 st)
theorem kp_K (f : Bool) (c : UInt8) : u_kpK f c ≤ 64 := by
  unfold u_kpK
  have : c.toNat % 64 < 64 := Nat.mod_lt _ (by decide)
  split <;> omega
theorem kp_R {a b : List UInt8} (ha : a.length = 64) (hb : b.length = 64) (f : Bool) (c : UInt8) {i : Nat} (hi : i < 64) : (u_kpR a b f c).getD i 0 = if i < u_kpK f c then b.getD i 0 else a.getD i 0 := by
  have hK := kp_K f c
  unfold u_kpR
  rw [List.getD_eq_getElem?_getD, List.getElem?_append, List.length_take, Nat.min_eq_left (by omega)]
  by_cases h : i < u_kpK f c
  · rw [if_pos h, if_pos h, List.getElem?_take, if_pos h, List.getD_eq_getElem?_getD]
  · rw [if_neg h, if_neg h, List.getElem?_drop, List.getD_eq_getElem?_getD]
    congr 2
    omega
theorem kp_len {a b : List UInt8} (ha : a.length = 64) (hb : b.length = 64) (f : Bool) (c : UInt8) : (u_kpR a b f c).length = 64 := by
  have hK := kp_K f c
  unfold u_kpR
  rw [List.length_append, List.length_take, List.length_drop]; omega
theorem kp_rem (c : UInt8) : real.wrapi (real.toI8 (real.rem8 c (real.ofI8 (real.int 64)))) = ((c.toNat % 64 : Nat) : Int) := by
  have h : (c % 64).toNat = c.toNat % 64 := by rw [UInt8.toNat_mod]; rfl
  have h2 : c.toNat % 64 < 64 := Nat.mod_lt _ (by decide)
  show IntKind.i64.wrap ((c % 64).toNat : Int) = _
  rw [h]
  generalize c.toNat % 64 = n at h2
  rw [wrap_sm (by omega) (by omega)]
theorem kp_Kt {f : Bool} {c : UInt8} (h : f = true ∨ c = 255) : real.int 64 = real.int (us.kpK f c) := by
  show _ = real.int (u_kpK f c)
  unfold u_kpK; rw [if_pos h]
theorem kp_Kf {f : Bool} {c : UInt8} (h1 : f = false) (h2 : c ≠ 255) : real.wrapi (real.toI8 (real.rem8 c (real.ofI8 (real.int 64)))) = real.int (us.kpK f c) := by
  rw [kp_rem]
  show _ = real.int (u_kpK f c)
  unfold u_kpK; rw [if_neg (by rw [h1]; simp [h2])]
  rfl
theorem kp_c3 {a b : List UInt8} (ha : a.length = 64) (hb : b.length = 64) (f : Bool) (c : UInt8) : us.cX (us.kpX4 a b f) (us.kpM4 a b f) [c, c] = us.kpX a b f c ∧ real.mclr (us.kpM4 a b f) = us.kpM a b f ∧ us.now (us.cX (us.kpX4 a b f) (us.kpM4 a b f) [c, c]) (real.mclr (us.kpM4 a b f)) (real.int 0) = us.kpR a b f c := ⟨rfl, rfl, kp_now ha hb f c⟩
theorem eq8_t {c d : UInt8} (h : ¬ real.pB (real.eq8 c d) false) : c = d := by
  have : ¬ ((c == d) = false) := h
  simpa using this
theorem eq8_f {c d : UInt8} (h : ¬ real.pB (real.eq8 c d) true) : c ≠ d := by
  have : ¬ ((c == d) = true) := h
  simpa using this
theorem kp_ra {a b : List UInt8} (ha : a.length = 64) (hb : b.length = 64) (f : Bool) (c : UInt8) {i : Nat} (hi : i < 64) (h : u_kpK f c ≤ i) : real.eq8 (real.getB (us.kpR a b f c) (real.addn 0 (real.nat (real.int i)))) (real.getB a (real.nat (real.int i))) = true := by
  show ((u_kpR a b f c).getD (0 + i) 0 == a.getD i 0) = true
  rw [Nat.zero_add, kp_R ha hb f c hi, if_neg (by omega)]
  exact beq_self_eq_true _
theorem kp_rb {a b : List UInt8} (ha : a.length = 64) (hb : b.length = 64) (f : Bool) (c : UInt8) {i : Nat} (hi : i < 64) (h : i < u_kpK f c) : real.eq8 (real.getB (us.kpR a b f c) (real.addn 0 (real.nat (real.int i)))) (real.getB b (real.nat (real.int i))) = true := by
  show ((u_kpR a b f c).getD (0 + i) 0 == b.getD i 0) = true
  rw [Nat.zero_add, kp_R ha hb f c hi, if_pos h]
  exact beq_self_eq_true _
theorem kp_end {a b : List UInt8} (ha : a.length = 64) (hb : b.length = 64) (f : Bool) (c : UInt8) (cs : List UInt8) : us.ok (us.cX (us.kpX a b f c) (us.kpM a b f) cs) (real.mclr (us.kpM a b f)) ∧ real.pB (real.eqi (us.rE (us.kpS f) 0 (us.cX (us.kpX a b f c) (us.kpM a b f) cs) (real.int 0)) 0) true ∧ real.pLe (real.addn 0 64) (real.lenB (us.kpR a b f c)) ∧ real.pLe (real.addn 0 64) (real.lenB (us.now (us.cX (us.kpX a b f c) (us.kpM a b f) cs) (real.mclr (us.kpM a b f)) (real.int 0))) ∧ real.eqB (real.cutB (us.kpR a b f c) 0 64) (real.cutB (us.now (us.cX (us.kpX a b f c) (us.kpM a b f) cs) (real.mclr (us.kpM a b f)) (real.int 0)) 0 64) = true := by
  have hl := kp_len ha hb f c
  have hn : us.now (us.cX (us.kpX a b f c) (us.kpM a b f) cs) (real.mclr (us.kpM a b f)) (real.int 0) = u_kpR a b f c := kp_now2 ha hb f c cs (u_kpM a b f).clock
  refine ⟨ok_crash (kp_okc a b f c) cs _, pb_eq0 (rE_0 (st := u_kpS f) (xs := u_cX (u_kpX a b f c) (u_kpM a b f) cs) (i := 0) (by rw [cX_len (kp_okc a b f c), kp_lc]; decide)), ?_, ?_, ?_⟩
  · show 0 + 64 ≤ (u_kpR a b f c).length
    omega
  · rw [hn]
    show 0 + 64 ≤ (u_kpR a b f c).length
    omega
  · rw [hn]
    exact beq_self_eq_true _
theorem kp_p {i : Nat} (h : i < 64) : real.pIn (real.int i) 64 ∧ real.pLt (real.addn 0 (real.nat (real.int i))) 64 ∧ real.pLt (real.nat (real.int i)) 64 := by
  refine ⟨⟨Int.natCast_nonneg i, Int.ofNat_lt.2 h⟩, ?_, h⟩
  show 0 + i < 64
  omega
attribute [local irreducible] u_fE u_wE u_rE u_now u_cX u_fX u_fM u_wM u_ok u_kpR u_kpK
end Go.Proofs.Ythhgmjclmdggjaa
namespace Go.Proofs.Ythhgmjclmdggjaa
open Go Go.Vc
noncomputable def sp_law6_SectorKeeps (F : Fs) (U : Us) : Specs := [(9, s_law6_known F U), (10, s_sector_New F U), (11, s_sector_Disk_Write F U), (13, s_sector_Disk_Flush F U), (14, s_sector_Disk_Crash F U), (12, s_sector_Disk_Read_o F U)]
theorem ok_law6_SectorKeeps : SpecsOK Try.prog (sp_law6_SectorKeeps real us) := sp_cons r_law6_known k_law6_known (sp_cons r_sector_New k_sector_New (sp_cons r_sector_Disk_Write k_sector_Disk_Write (sp_cons r_sector_Disk_Flush k_sector_Disk_Flush (sp_cons r_sector_Disk_Crash k_sector_Disk_Crash (sp_cons r_sector_Disk_Read_o k_sector_Disk_Read_o sp_nil)))))
noncomputable def an_law6_SectorKeeps (F : Fs) (U : Us) (a b : List UInt8) (f : Bool) (c : UInt8) : Anns := [(12, ⟨Nat, fun i => i ≤ 64, fun i => F.subn 64 i, fun i => ⟨[(4, .p 1 0 0), (5, .p 2 0 0), (9, .p 5 0 0), (10, .sl 8 0 0 1 0 64), (11, .i 0), (12, .i (F.int (U.kpK f c))), (13, .i (F.int i))], [(4, 1, .bk 28 [(64, .bt a)]), (5, 2, .bk 28 [(64, .bt b)]), (9, 5, .bk 47 [(1, .vs [.i (U.kpS f)]), (1, .vs [.i 0]), (1, .vs [.rw 6]), (1, .vs [.mh 7])]), (999, 6, .row 60 64 (.ds (.l8 64) (U.kpX a b f c))), (999, 7, .mp 45 .i (.l8 64) (U.kpM a b f)), (10, 8, .bk 60 [(64, .bt (U.kpR a b f c))])]⟩⟩)]
noncomputable def cu_law6_SectorKeeps (F : Fs) (U : Us) (a b : List UInt8) (f : Bool) (c : UInt8) : Anns := [(6, ⟨Nat, fun _ => True, fun i => i, fun _ => ⟨[(2, .b f), (3, .w8 c), (4, .p 1 0 0), (5, .p 2 0 0), (9, .p 5 0 0)], [(4, 1, .bk 28 [(64, .bt a)]), (5, 2, .bk 28 [(64, .bt b)]), (9, 5, .bk 47 [(1, .vs [.i (U.kpS f)]), (1, .vs [.i 0]), (1, .vs [.rw 6]), (1, .vs [.mh 7])]), (999, 6, .row 60 64 (.ds (.l8 64) (U.kpX4 a b f))), (999, 7, .mp 45 .i (.l8 64) (U.kpM4 a b f))]⟩⟩), (11, ⟨Nat, fun _ => True, fun i => i, fun _ => ⟨[(4, .p 1 0 0), (5, .p 2 0 0), (9, .p 5 0 0), (10, .sl 8 0 0 1 0 64), (11, .i 0), (12, .i (F.int (U.kpK f c)))], [(4, 1, .bk 28 [(64, .bt a)]), (5, 2, .bk 28 [(64, .bt b)]), (9, 5, .bk 47 [(1, .vs [.i (U.kpS f)]), (1, .vs [.i 0]), (1, .vs [.rw 6]), (1, .vs [.mh 7])]), (999, 6, .row 60 64 (.ds (.l8 64) (U.kpX a b f c))), (999, 7, .mp 45 .i (.l8 64) (U.kpM a b f)), (10, 8, .bk 60 [(64, .bt (U.kpR a b f c))])]⟩⟩)]
noncomputable def x_law6_SectorKeeps (F : Fs) (U : Us) : Cx := ⟨Try.f4.ntmps, tt F, sp_law6_SectorKeeps F U, [], [(14, ([(10, [6, 7]), (24, [20, 21])], []))], [], []⟩
theorem c_law6_SectorKeeps (a b : List UInt8) (f : Bool) (c : UInt8) (q0 : a.length = 64) (q1 : b.length = 64) : vc real (x_law6_SectorKeeps real us) (an_law6_SectorKeeps real us a b f c) (cu_law6_SectorKeeps real us a b f c) (Try.f4.body.getD .skip) ⟨zipSl 0 [.ag 64 (.bt a), .ag 64 (.bt b), .b f, .w8 c], [], 64⟩ (retOk real (tt real) false Try.f4.results.toList [.val (.b true)]) := by
  generalize hU : us = U
  generalize hF : real = F
  cbv
  repeat' first | apply And.intro | refine Classical.or_iff_not_imp_left.2 (fun _ => ?_) | exact trivial
  · rename_i h; subst hF hU; exact absurd rfl h
  · subst hF hU; show 0 + 64 ≤ a.length; omega
  · subst hF hU; exact x2_ok
  · subst hF hU; show (real.cutB a 0 64).length ≤ 1000000000; rw [cut64 q0]; omega
  · subst hF hU; exact ok_wM x2_ok
  · subst hF hU; show 0 + 64 ≤ b.length; omega
  · subst hF hU; exact ok_fl (ok_wM x2_ok)
  · subst hF hU; show (real.cutB b 0 64).length ≤ 1000000000; rw [cut64 q1]; omega
  · subst hF hU; exact ok_wM (ok_fl (ok_wM x2_ok))
  · rename_i h; subst hF hU; exact (kp_fE (real.addi (real.addi (real.addi 0 (real.int 1)) (real.int 1)) (real.int 1)) h).elim
  · refine ⟨(0 : Nat), ?_⟩
    cbv
    subst hF hU
    have hf : f = true := p_t (by assumption)
    subst hf
    obtain ⟨k1, k2, k3⟩ := kp_e4t q0 q1
    exact ⟨⟨⟨k1, trivial⟩, trivial⟩, k2, k3, trivial⟩
  · refine ⟨(0 : Nat), ?_⟩
    cbv
    subst hF hU
    have hf : f = false := p_f (by assumption)
    subst hf
    obtain ⟨k1, k2, k3⟩ := kp_e4f q0 q1
    exact ⟨⟨⟨k1, trivial⟩, trivial⟩, k2, k3, trivial⟩
  · rename_i h; subst hF hU; exact (nz_g h (kp_wE2 (st := real.addi (real.addi 0 (real.int 1)) (real.int 1)) (xs := u_fX _ _ x2 _) q1 (by rw [fX_len]; decide))).elim
  · rename_i h; subst hF hU; exact (kp_fE (real.addi 0 (real.int 1)) h).elim
  · rename_i h; subst hF hU; exact (nz_g h (kp_wE2 (st := 0) (xs := x2) q0 (by decide))).elim
  · intro (z : Nat) hz
    cbv
    repeat' first | apply And.intro | refine Classical.or_iff_not_imp_left.2 (fun _ => ?_) | exact trivial
    · subst hF hU; exact kp_ok4 a b f
    · subst hF hU; exact kp_okc a b f c
    · subst hF hU; exact pb_eq0 (rE_0 (st := u_kpS f) (xs := u_kpX a b f c) (i := 0) (by rw [kp_lc]; decide))
    · subst hF hU; show ((64 : UInt8).toNat : Int) ≠ 0; decide
    · refine ⟨(0 : Nat), ?_⟩
      cbv
      subst hF hU
      obtain ⟨k1, k2, k3⟩ := kp_c3 q0 q1 f c
      exact ⟨⟨kp_Kt (.inl (p_t (by assumption))), trivial⟩, k1, k2, ⟨k3, trivial⟩, trivial⟩
    · refine ⟨(0 : Nat), ?_⟩
      cbv
      subst hF hU
      obtain ⟨k1, k2, k3⟩ := kp_c3 q0 q1 f c
      exact ⟨⟨kp_Kf (p_f (by assumption)) (eq8_f (d := 255) (by assumption)), trivial⟩, k1, k2, ⟨k3, trivial⟩, trivial⟩
    · refine ⟨(0 : Nat), ?_⟩
      cbv
      subst hF hU
      obtain ⟨k1, k2, k3⟩ := kp_c3 q0 q1 f c
      exact ⟨⟨kp_Kt (.inr (eq8_t (d := 255) (by assumption))), trivial⟩, k1, k2, ⟨k3, trivial⟩, trivial⟩
    · clear hz
      intro (z : Nat) hz
      cbv
      repeat' first | apply And.intro | refine Classical.or_iff_not_imp_left.2 (fun _ => ?_) | exact trivial
      · refine ⟨(0 : Nat), ?_⟩
        cbv
      · clear hz
        intro (i : Nat) hi
        replace hi : i ≤ 64 := hi
        cbv
        repeat' first | apply And.intro | refine Classical.or_iff_not_imp_left.2 (fun _ => ?_) | exact trivial
        · subst hF hU; exact (kp_p (lt_g (n := 64) (by assumption))).1
        · subst hF hU; exact (kp_p (lt_g (n := 64) (by assumption))).2.1
        · subst hF hU; exact (kp_p (lt_g (n := 64) (by assumption))).1
        · subst hF hU; exact (kp_p (lt_g (n := 64) (by assumption))).2.2
        · subst hF hU; exact (kp_p (lt_g (n := 64) (by assumption))).1
        · subst hF hU; exact (kp_p (lt_g (n := 64) (by assumption))).2.1
        · subst hF hU; exact (kp_p (lt_g (n := 64) (by assumption))).1
        · subst hF hU; exact (kp_p (lt_g (n := 64) (by assumption))).2.2
        · rename_i h; subst hF hU; exact (ap_ne (kp_ra q0 q1 f c (lt_g (n := 64) (by assumption)) (le_g (by assumption))) h).elim
        · refine ⟨(i + 1 : Nat), ?_⟩
          cbv
          subst hF hU
          have hlt : i < 64 := lt_g (n := 64) (by assumption)
          exact ⟨hlt, sub_stepN hlt, ⟨addi1 (by omega), trivial⟩, trivial⟩
        · refine ⟨(i + 1 : Nat), ?_⟩
          cbv
          subst hF hU
          have hlt : i < 64 := lt_g (n := 64) (by assumption)
          exact ⟨hlt, sub_stepN hlt, ⟨addi1 (by omega), trivial⟩, trivial⟩
        · rename_i h; subst hF hU; exact (ap_ne (kp_rb q0 q1 f c (lt_g (n := 64) (by assumption)) (lt_g (by assumption))) h).elim
        · subst hF hU; exact (kp_p (lt_g (n := 64) (by assumption))).1
        · subst hF hU; exact (kp_p (lt_g (n := 64) (by assumption))).2.1
        · subst hF hU; exact (kp_p (lt_g (n := 64) (by assumption))).1
        · subst hF hU; exact (kp_p (lt_g (n := 64) (by assumption))).2.2
        · rename_i h; subst hF hU; exact (ap_ne (kp_ra q0 q1 f c (lt_g (n := 64) (by assumption)) (le_g (by assumption))) h).elim
        · refine ⟨(i + 1 : Nat), ?_⟩
          cbv
          subst hF hU
          have hlt : i < 64 := lt_g (n := 64) (by assumption)
          exact ⟨hlt, sub_stepN hlt, ⟨addi1 (by omega), trivial⟩, trivial⟩
        · refine ⟨(i + 1 : Nat), ?_⟩
          cbv
          subst hF hU
          have hlt : i < 64 := lt_g (n := 64) (by assumption)
          exact ⟨hlt, sub_stepN hlt, ⟨addi1 (by omega), trivial⟩, trivial⟩
        · subst hF hU; exact kp_okc a b f c
        · subst hF hU; exact (kp_end q0 q1 f c [9]).1
        · subst hF hU; exact (kp_end q0 q1 f c [9]).2.1
        · subst hF hU; exact (kp_end q0 q1 f c [9]).2.2.1
        · subst hF hU; exact (kp_end q0 q1 f c [9]).2.2.2.1
        · subst hF hU; exact (kp_end q0 q1 f c [9]).2.2.2.2
        · subst hF hU; exact no0 (by assumption)
        · subst hF hU; exact no0 (by assumption)
        · subst hF hU; exact no0 (by assumption)
        · subst hF hU; exact no0 (by assumption)
        · subst hF hU; exact no0 (by assumption)
        · subst hF hU; exact no0 (by assumption)
        · subst hF hU; exact no0 (by assumption)
        · subst hF hU; exact no0 (by assumption)
        · subst hF hU; exact no0 (by assumption)
        · subst hF hU; exact no0 (by assumption)
end Go.Proofs.Ythhgmjclmdggjaa
namespace Go.Proofs.Ythhgmjclmdggjaa.sectorKeeps
open Go.ChangeShapes Go.WideShapes Go.ChangeAt Go.RowKit
set_option linter.unusedVariables false
theorem own : ownKnob Try.prog.godebug = none := by kernel_rfl
theorem laidOut : laidOutB Try.prog = true := p_laidOut
set_option maxRecDepth 100000 in
theorem lifted (os : Os) (started : os.Started) (H : Type) (enc : TypeId × Value → H) :
    ReturnsInHanded {} Try.checked os 4 .any (Rows.sectorKeepsSpec.pre6 enc Try.prog Try.f4 Rows.sectorKeepsRow.domain false) (Rows.sectorKeepsSpec.post enc Try.prog Try.f4 false true false false) := by
  refine returnsInHanded_of_change_shaped (C := Try.checked) own started (by kernel_rfl) Try.func4
    (ChangeSpec.witness6 (enc := enc) (C := Try.checked) false ⟨#[], #[.agg #[.int .u8 0, .int .u8 0, .int .u8 0, .int .u8 0, .int .u8 0, .int .u8 0, .int .u8 0, .int .u8 0, .int .u8 0, .int .u8 0, .int .u8 0, .int .u8 0, .int .u8 0, .int .u8 0, .int .u8 0, .int .u8 0, .int .u8 0, .int .u8 0, .int .u8 0, .int .u8 0, .int .u8 0, .int .u8 0, .int .u8 0, .int .u8 0, .int .u8 0, .int .u8 0, .int .u8 0, .int .u8 0, .int .u8 0, .int .u8 0, .int .u8 0, .int .u8 0, .int .u8 0, .int .u8 0, .int .u8 0, .int .u8 0, .int .u8 0, .int .u8 0, .int .u8 0, .int .u8 0, .int .u8 0, .int .u8 0, .int .u8 0, .int .u8 0, .int .u8 0, .int .u8 0, .int .u8 0, .int .u8 0, .int .u8 0, .int .u8 0, .int .u8 0, .int .u8 0, .int .u8 0, .int .u8 0, .int .u8 0, .int .u8 0, .int .u8 0, .int .u8 0, .int .u8 0, .int .u8 0, .int .u8 0, .int .u8 0, .int .u8 0, .int .u8 0], .agg #[.int .u8 0, .int .u8 0, .int .u8 0, .int .u8 0, .int .u8 0, .int .u8 0, .int .u8 0, .int .u8 0, .int .u8 0, .int .u8 0, .int .u8 0, .int .u8 0, .int .u8 0, .int .u8 0, .int .u8 0, .int .u8 0, .int .u8 0, .int .u8 0, .int .u8 0, .int .u8 0, .int .u8 0, .int .u8 0, .int .u8 0, .int .u8 0, .int .u8 0, .int .u8 0, .int .u8 0, .int .u8 0, .int .u8 0, .int .u8 0, .int .u8 0, .int .u8 0, .int .u8 0, .int .u8 0, .int .u8 0, .int .u8 0, .int .u8 0, .int .u8 0, .int .u8 0, .int .u8 0, .int .u8 0, .int .u8 0, .int .u8 0, .int .u8 0, .int .u8 0, .int .u8 0, .int .u8 0, .int .u8 0, .int .u8 0, .int .u8 0, .int .u8 0, .int .u8 0, .int .u8 0, .int .u8 0, .int .u8 0, .int .u8 0, .int .u8 0, .int .u8 0, .int .u8 0, .int .u8 0, .int .u8 0, .int .u8 0, .int .u8 0, .int .u8 0], .bool false, .int .u8 0], []⟩ 8 (by kernel_rfl) (by kernel_rfl) (by kernel_rfl) (by kernel_rfl)) ?_
  intro W base args ds gs before hval0 hW hcnd hrch hsh _
  have hval : ∀ (j : Nat) t v, Try.f4.params[j]? = some t → args[j]? = some v → Value.okWide Try.prog W .any base t v := hval0
  have hW' := hW
  obtain ⟨p, q, hA0, hV, rfl, hfz, hnd⟩ := hW
  have hA : DataW.TrodAll enc Try.prog W 0 (fun _ => true) true Try.f4.params.toList args.toList ds p := hA0
  rw [Try.params4] at hA hval
  obtain ⟨v0, vs0, d0, ds0, p0, q0, hargs, rfl, rfl, h0, r0⟩ := trodAll_cons hA
  obtain ⟨v1, vs1, d1, ds1, p1, q1, rfl, rfl, rfl, h1, r1⟩ := trodAll_cons r0
  obtain ⟨v2, vs2, d2, ds2, p2, q2, rfl, rfl, rfl, h2, r2⟩ := trodAll_cons r1
  obtain ⟨v3, vs3, d3, ds3, p3, q3, rfl, rfl, rfl, h3, r3⟩ := trodAll_cons r2
  obtain ⟨rfl, rfl, rfl⟩ := trodAll_nil r3
  obtain rfl : args = #[v0, v1, v2, v3] := by cases args; simp_all
  obtain ⟨rfl, rfl⟩ := trodVars_none hV
  obtain ⟨a, k0, q0⟩ := Go.Vc.openA8 Try.underlying28 Try.underlying5 (by kernel_rfl) (by kernel_rfl) (hval 0 28 v0 rfl rfl) h0
  obtain ⟨b, k1, q1⟩ := Go.Vc.openA8 Try.underlying28 Try.underlying5 (by kernel_rfl) (by kernel_rfl) (hval 1 28 v1 rfl rfl) h1
  obtain ⟨f, k2⟩ := Go.Vc.openB Try.underlying4 (hval 2 4 v2 rfl rfl) h2
  obtain ⟨c, k3⟩ := Go.Vc.open8 Try.underlying5 (hval 3 5 v3 rfl rfl) h3
  clear hA0 hval0
  refine (Go.Vc.law_walk2 (x := x_law6_SectorKeeps Go.Vc.real us) (an := (an_law6_SectorKeeps Go.Vc.real us a b f c)) (cu := (cu_law6_SectorKeeps Go.Vc.real us a b f c)) (l := [.ag 64 (.bt a), .ag 64 (.bt b), .b f, .w8 c]) (vals := [v0, v1, v2, v3]) ⟨tt_ok, ok_law6_SectorKeeps, Go.Vc.ks_nil⟩ mixed Try.func4 rfl rfl (by kernel_rfl) hsh (Nat.le_of_ble_eq_true rfl) (Go.Vc.rvs_cons k0 (Go.Vc.rvs_cons k1 (Go.Vc.rvs_cons k2 (Go.Vc.rvs_cons k3 Go.Vc.rvs_nil)))) (c_law6_SectorKeeps a b f c q0 q1)).mono fun e W' ⟨he, bel⟩ => ?_
  subst he
  exact ⟨_, rfl, Go.Vc.post_true (tb := 4) laidOut (by kernel_rfl) rfl Try.underlying4 rfl hW' rfl bel⟩
theorem over : Rows.sectorKeepsRow.holds Try.pinned (OpenSpec.ofChange Rows.sectorKeepsSpec) :=
  OpenClaim.holds_of_wide 4 Try.f4 rfl rfl rfl rfl rfl rfl rfl ⟨rfl, rfl, rfl, rfl, rfl⟩ rfl rfl rfl rfl rfl (by kernel_rfl) Try.func4 (Go.Vc.joined_of p_laidOut p_maps p_stops p_knobs p_heard p_mayEnter p_lifts p_make rfl rfl (by kernel_rfl) (by kernel_rfl) (by kernel_rfl) (by kernel_rfl) (by kernel_rfl) (by kernel_rfl) (by kernel_rfl) (by kernel_rfl) (by kernel_rfl) (by kernel_rfl) (by kernel_rfl) (by kernel_rfl) (by kernel_rfl) (by kernel_rfl) (by kernel_rfl) (by kernel_rfl) (by kernel_rfl) (by kernel_rfl) (by kernel_rfl) (by kernel_rfl) (by kernel_rfl) (by kernel_rfl) (by kernel_rfl) (by kernel_rfl) )
    (of_decide_eq_true (by kernel_rfl)) (by unfold Func.isWrapper; first | (rw [if_pos (by decide +kernel)]; kernel_rfl) | (rw [if_neg (by decide +kernel)]; exact ⟨rfl, rfl⟩))
    (fun os started H enc _ => lifted os started H enc)
theorem proved : Rows.SectorKeepsSaid := over
#print axioms proved
end Go.Proofs.Ythhgmjclmdggjaa.sectorKeeps

