/- The given statement is proved: for every input the law's function answers true. No condition. -/
import Derived.Test.YtmldccfchnlpgaaRows
import Derived.Test.YtmldccfchnlpgaaPart6
import Derived.WalkKit
import Derived.ProofKit
import Derived.OpenShut
import Derived.ShutString
set_option linter.unusedVariables false
set_option linter.unusedSimpArgs false
set_option maxRecDepth 100000
set_option maxHeartbeats 1000000
namespace Go.Proofs.Ytmldccfchnlpgaa
open Go Go.Vc
def pL (k v : Nat) : Nat → List D
  | 0 => []
  | i + 1 => pL k v i ++ [.t [.s (UInt8.ofNat i :: 1 :: List.replicate (k - 2) 0), .s (List.replicate v 0)]]
theorem pL_len (k v : Nat) : ∀ i, (pL k v i).length = i
  | 0 => rfl
  | i + 1 => by rw [pL, List.length_append, pL_len k v i]; rfl
def pAt (k v i : Nat) : D := .t [.s (UInt8.ofNat i :: 1 :: List.replicate (k - 2) 0), .s (List.replicate v 0)]
theorem pL_get (k v : Nat) (j : Nat) : ∀ i, j < i → (pL k v i).getD j D.no = pAt k v j
  | 0, h => absurd h (Nat.not_lt_zero j)
  | i + 1, h => by
    rw [pL, List.getD_eq_getElem?_getD]
    by_cases e : j = i
    · subst e
      rw [List.getElem?_append_right (by rw [pL_len]; omega), pL_len, Nat.sub_self]
      rfl
    · rw [List.getElem?_append_left (by rw [pL_len]; omega)]
      have := pL_get k v j i (by omega)
      rw [List.getD_eq_getElem?_getD] at this
      exact this
theorem pk_at {k v j i : Nat} (h : j < i) : pk (pL k v i) j = UInt8.ofNat j :: 1 :: List.replicate (k - 2) 0 := by unfold pk; rw [pL_get k v j i h]; rfl
theorem pv_at {k v j i : Nat} (h : j < i) : pv (pL k v i) j = List.replicate v 0 := by unfold pv; rw [pL_get k v j i h]; rfl
theorem first_lt (r s : List UInt8) (i : Nat) (h : i + 1 < 256) : Op.bytesLess (UInt8.ofNat i :: r) (UInt8.ofNat (i + 1) :: s) = true := by
  show (decide (UInt8.ofNat i < UInt8.ofNat (i + 1)) || _) = true
  have e : UInt8.ofNat i < UInt8.ofNat (i + 1) := by
    rw [UInt8.lt_iff_toNat_lt, UInt8.toNat_ofNat', UInt8.toNat_ofNat']
    omega
  rw [decide_eq_true e]; rfl
theorem pL_ok {k v m : Nat} (hk1 : 2 ≤ k) (hk2 : k ≤ 60) (hv : v ≤ 150) (hm : m ≤ 120) : ∀ i, i ≤ m → u_okN (pL k v m) i = true
  | 0, _ => rfl
  | i + 1, h => by
    have ih := pL_ok hk1 hk2 hv hm i (by omega)
    rw [u_okN, ih, Bool.true_and]
    unfold u_okP u_isKey
    have hl : (UInt8.ofNat i :: 1 :: List.replicate (k - 2) (0 : UInt8)).length = k := by
      rw [List.length_cons, List.length_cons, List.length_replicate]; omega
    rw [pk_at (k := k) (v := v) (show i < m by omega), pv_at (k := k) (v := v) (show i < m by omega), hl, List.length_replicate, decide_eq_true (show 1 ≤ k by omega), decide_eq_true hk2, decide_eq_true hv]
    cases i with
    | zero => rfl
    | succ j =>
      have e : real.ltS (pk (pL k v m) (j + 1 - 1)) (UInt8.ofNat (j + 1) :: 1 :: List.replicate (k - 2) 0) = true := by
        rw [Nat.add_sub_cancel, pk_at (k := k) (v := v) (show j < m by omega)]
        exact first_lt _ _ j (by omega)
      rw [e]
      simp
theorem pL_sz {k v m : Nat} (hk1 : 2 ≤ k) (hk2 : k ≤ 60) (hv : v ≤ 150) (hm : m ≤ 120) : ∀ i, i ≤ m → u_nsz (pL k v m) i = 3 + (i : Int) * (4 + (k : Int) + (v : Int))
  | 0, _ => by simp [u_nsz]
  | i + 1, h => by
    have ih := pL_sz hk1 hk2 hv hm i (by omega)
    have hl : (UInt8.ofNat i :: 1 :: List.replicate (k - 2) (0 : UInt8)).length = k := by
      rw [List.length_cons, List.length_cons, List.length_replicate]; omega
    rw [u_nsz, ih, pk_at (k := k) (v := v) (show i < m by omega), pv_at (k := k) (v := v) (show i < m by omega), hl, List.length_replicate]
    have hx : (i : Int) * (4 + (k : Int) + (v : Int)) ≤ 120 * 214 := Int.mul_le_mul (by omega) (by omega) (by omega) (by omega)
    rw [show ((i + 1 : Nat) : Int) * (4 + (k : Int) + (v : Int)) = (i : Int) * (4 + (k : Int) + (v : Int)) + (4 + (k : Int) + (v : Int)) by rw [show ((i + 1 : Nat) : Int) = (i : Int) + 1 by omega, Int.add_mul, Int.one_mul]]
    omega
theorem pL_E {k v m : Nat} (hk1 : 2 ≤ k) (hk2 : k ≤ 60) (hv : v ≤ 150) (hm : m ≤ 120) : u_leafE (pL k v m) = if 480 < 3 + (m : Int) * (4 + (k : Int) + (v : Int)) then 11 else 0 := by
  unfold u_leafE
  rw [pL_len, pL_ok hk1 hk2 hv hm m (Nat.le_refl _), if_neg (by decide), pL_sz hk1 hk2 hv hm m (Nat.le_refl _)]
abbrev kN (k : UInt8) : Nat := k.toNat % 58 + 2
abbrev vN (v : UInt8) : Nat := v.toNat % 151
theorem kN_le (k : UInt8) : 2 ≤ kN k ∧ kN k ≤ 60 := by
  have := Nat.mod_lt k.toNat (show 0 < 58 by decide)
  unfold kN; omega
theorem vN_le (v : UInt8) : vN v ≤ 150 := by
  have := Nat.mod_lt v.toNat (show 0 < 151 by decide)
  unfold vN; omega
theorem b_wrap (k : UInt8) : real.wrapi (real.toI8 k) = (k.toNat : Int) := by
  have h := k.toNat_lt
  show IntKind.i64.wrap ((k.toNat : Nat) : Int) = _
  rw [wrap_sm (by omega) (by omega)]
theorem kM_eq (k : UInt8) : (real.addi (real.remi (real.wrapi (real.toI8 k)) (real.int 58)) (real.int 2)) = (kN k : Int) := by
  have h := kN_le k
  rw [b_wrap]
  have e : real.remi (k.toNat : Int) (real.int 58) = ((k.toNat % 58 : Nat) : Int) := rfl
  rw [e]
  show IntKind.i64.wrap (((k.toNat % 58 : Nat) : Int) + 2) = _
  unfold kN at h
  rw [wrap_sm (by omega) (by omega)]
  rfl
theorem vM_eq (v : UInt8) : (real.remi (real.wrapi (real.toI8 v)) (real.int 151)) = (vN v : Int) := by
  rw [b_wrap]; rfl
theorem rep_eq (n : Nat) : real.repB (real.nat (n : Int)) = List.replicate n 0 := rfl
theorem rep2 (n : Nat) (h : 2 ≤ n) (x : UInt8) : ((List.replicate n (0 : UInt8)).set 0 x).set 1 1 = x :: 1 :: List.replicate (n - 2) 0 := by
  match n, h with
  | n + 2, _ => rfl
theorem item_eq (k v : UInt8) (i : Nat) : ((.t [.s (real.setB (real.setB (real.repB (real.nat (real.addi (real.remi (real.wrapi (real.toI8 k)) (real.int 58)) (real.int 2)))) (real.nat (real.int 0)) (real.ofI8 (real.int i))) (real.nat (real.int 1)) (real.ofI8 (real.int 1))), .s (real.repB (real.nat (real.remi (real.wrapi (real.toI8 v)) (real.int 151))))]) : D) = pAt (kN k) (vN v) i := by
  rw [kM_eq, vM_eq, rep_eq, rep_eq]
  have e1 : real.ofI8 (real.int i) = UInt8.ofNat i := by
    show UInt8.ofNat ((i : Int) % 2 ^ 8).toNat = _
    apply UInt8.toNat_inj.1
    rw [UInt8.toNat_ofNat', UInt8.toNat_ofNat']
    omega
  rw [e1]
  have e2 : real.setB (real.setB (List.replicate (kN k) 0) (real.nat (real.int 0)) (UInt8.ofNat i)) (real.nat (real.int 1)) (real.ofI8 (real.int 1)) = UInt8.ofNat i :: 1 :: List.replicate (kN k - 2) 0 := rep2 (kN k) (kN_le k).1 (UInt8.ofNat i)
  rw [e2]
  rfl
theorem next_eq {k v : UInt8} {i : Nat} {l : List D} (hl : l = pL (kN k) (vN v) i) : (real.appD l [(.t [.s (real.setB (real.setB (real.repB (real.nat (real.addi (real.remi (real.wrapi (real.toI8 k)) (real.int 58)) (real.int 2)))) (real.nat (real.int 0)) (real.ofI8 (real.int i))) (real.nat (real.int 1)) (real.ofI8 (real.int 1))), .s (real.repB (real.nat (real.remi (real.wrapi (real.toI8 v)) (real.int 151))))])]) = pL (kN k) (vN v) (i + 1) := by
  rw [item_eq, hl]; rfl
theorem sz_eq {k v : UInt8} {i : Nat} {l : List D} (hl : l = pL (kN k) (vN v) i) (hi : i < 120) : (real.addi (real.int 3) (real.muli (real.int (real.lenD (real.appD l [(.t [.s (real.setB (real.setB (real.repB (real.nat (real.addi (real.remi (real.wrapi (real.toI8 k)) (real.int 58)) (real.int 2)))) (real.nat (real.int 0)) (real.ofI8 (real.int i))) (real.nat (real.int 1)) (real.ofI8 (real.int 1))), .s (real.repB (real.nat (real.remi (real.wrapi (real.toI8 v)) (real.int 151))))])]))) (real.addi (real.addi (real.int 4) (real.addi (real.remi (real.wrapi (real.toI8 k)) (real.int 58)) (real.int 2))) (real.remi (real.wrapi (real.toI8 v)) (real.int 151))))) = 3 + ((i + 1 : Nat) : Int) * (4 + (kN k : Int) + (vN v : Int)) := by
  have hk := kN_le k
  have hv := vN_le v
  rw [next_eq hl, kM_eq, vM_eq]
  have e0 : real.lenD (pL (kN k) (vN v) (i + 1)) = i + 1 := pL_len _ _ _
  rw [e0]
  obtain ⟨a, ha⟩ : ∃ a, a = kN k := ⟨_, rfl⟩
  obtain ⟨b, hb⟩ : ∃ b, b = vN v := ⟨_, rfl⟩
  rw [← ha] at hk ⊢
  rw [← hb] at hv ⊢
  have e1 : real.addi (real.addi (real.int 4) (a : Int)) (b : Int) = 4 + (a : Int) + (b : Int) := by
    have : real.addi (real.int 4) (a : Int) = 4 + (a : Int) := by
      show IntKind.i64.wrap (4 + (a : Int)) = _
      rw [wrap_sm (by omega) (by omega)]
    rw [this]
    show IntKind.i64.wrap (4 + (a : Int) + (b : Int)) = _
    rw [wrap_sm (by omega) (by omega)]
  rw [e1]
  have hx : ((i + 1 : Nat) : Int) * (4 + (a : Int) + (b : Int)) ≤ 120 * 214 := Int.mul_le_mul (by omega) (by omega) (by omega) (by omega)
  have hy : 0 ≤ ((i + 1 : Nat) : Int) * (4 + (a : Int) + (b : Int)) := Int.mul_nonneg (by omega) (by omega)
  have e2 : real.muli (real.int (i + 1)) (4 + (a : Int) + (b : Int)) = ((i + 1 : Nat) : Int) * (4 + (a : Int) + (b : Int)) := by
    show IntKind.i64.wrap (((i + 1 : Nat) : Int) * (4 + (a : Int) + (b : Int))) = _
    rw [wrap_sm (by omega) (by omega)]
  rw [e2]
  show IntKind.i64.wrap (3 + ((i + 1 : Nat) : Int) * (4 + (a : Int) + (b : Int))) = _
  rw [wrap_sm (by omega) (by omega)]
section
variable (k v : UInt8)
theorem t1 : real.p0 (real.addi (real.remi (real.wrapi (real.toI8 k)) (real.int 58)) (real.int 2)) := by rw [kM_eq]; show (0 : Int) ≤ _; omega
theorem t2 : real.pMk (real.addi (real.remi (real.wrapi (real.toI8 k)) (real.int 58)) (real.int 2)) 1 := by
  have hk := kN_le k
  rw [kM_eq]
  show 0 ≤ (kN k : Int) ∧ (kN k : Int) * ((1 : Nat) : Int) ≤ 281474976710656 ∧ (kN k : Int) ≤ 4611686018427387904
  omega
theorem lenR : (real.repB (real.nat (real.addi (real.remi (real.wrapi (real.toI8 k)) (real.int 58)) (real.int 2)))).length = kN k := by rw [kM_eq, rep_eq, List.length_replicate]
theorem t3 : real.pIn (real.int 0) (real.lenB (real.repB (real.nat (real.addi (real.remi (real.wrapi (real.toI8 k)) (real.int 58)) (real.int 2))))) := by
  have hk := kN_le k
  have e : real.lenB (real.repB (real.nat (real.addi (real.remi (real.wrapi (real.toI8 k)) (real.int 58)) (real.int 2)))) = kN k := lenR k
  rw [e]
  show (0 : Int) ≤ 0 ∧ (0 : Int) < (kN k : Int)
  omega
theorem t4 : real.pLt (real.nat (real.int 0)) (real.lenB (real.repB (real.nat (real.addi (real.remi (real.wrapi (real.toI8 k)) (real.int 58)) (real.int 2))))) := by
  have hk := kN_le k
  have e : real.lenB (real.repB (real.nat (real.addi (real.remi (real.wrapi (real.toI8 k)) (real.int 58)) (real.int 2)))) = kN k := lenR k
  rw [e]
  show 0 < kN k
  omega
theorem t5 (x : UInt8) : real.pIn (real.int 1) (real.lenB (real.setB (real.repB (real.nat (real.addi (real.remi (real.wrapi (real.toI8 k)) (real.int 58)) (real.int 2)))) (real.nat (real.int 0)) x)) := by
  have hk := kN_le k
  have e : real.lenB (real.setB (real.repB (real.nat (real.addi (real.remi (real.wrapi (real.toI8 k)) (real.int 58)) (real.int 2)))) (real.nat (real.int 0)) x) = kN k := (List.length_set ..).trans (lenR k)
  rw [e]
  show (0 : Int) ≤ 1 ∧ (1 : Int) < (kN k : Int)
  omega
theorem t6 (x : UInt8) : real.pLt (real.nat (real.int 1)) (real.lenB (real.setB (real.repB (real.nat (real.addi (real.remi (real.wrapi (real.toI8 k)) (real.int 58)) (real.int 2)))) (real.nat (real.int 0)) x)) := by
  have hk := kN_le k
  have e : real.lenB (real.setB (real.repB (real.nat (real.addi (real.remi (real.wrapi (real.toI8 k)) (real.int 58)) (real.int 2)))) (real.nat (real.int 0)) x) = kN k := (List.length_set ..).trans (lenR k)
  rw [e]
  show 1 < kN k
  omega
theorem t7 : real.p0 (real.remi (real.wrapi (real.toI8 v)) (real.int 151)) := by rw [vM_eq]; show (0 : Int) ≤ _; omega
theorem t8 : real.pMk (real.remi (real.wrapi (real.toI8 v)) (real.int 151)) 1 := by
  have hv := vN_le v
  rw [vM_eq]
  show 0 ≤ (vN v : Int) ∧ (vN v : Int) * ((1 : Nat) : Int) ≤ 281474976710656 ∧ (vN v : Int) ≤ 4611686018427387904
  omega
end
section
variable {k v : UInt8} {i : Nat} {l : List D} (hl : l = pL (kN k) (vN v) i) (hi : i < 120)
include hl hi
theorem t9 (x : D) : real.pCap (real.addn (real.lenD l) (real.lenD [x])) 32 := by
  subst hl
  have e : real.lenD (pL (kN k) (vN v) i) = i := pL_len _ _ _
  rw [e]
  show (i + 1) * 32 ≤ 140737488355328 ∧ i + 1 ≤ 4611686018427387904
  omega
theorem t10 : real.pLe (real.lenD (real.appD l [(.t [.s (real.setB (real.setB (real.repB (real.nat (real.addi (real.remi (real.wrapi (real.toI8 k)) (real.int 58)) (real.int 2)))) (real.nat (real.int 0)) (real.ofI8 (real.int i))) (real.nat (real.int 1)) (real.ofI8 (real.int 1))), .s (real.repB (real.nat (real.remi (real.wrapi (real.toI8 v)) (real.int 151))))])])) 1000000000000 := by
  rw [next_eq hl]
  have e : real.lenD (pL (kN k) (vN v) (i + 1)) = i + 1 := pL_len _ _ _
  rw [e]
  show i + 1 ≤ 1000000000000
  omega
theorem ba : real.pB (real.notb (real.eqi (us.nsz (real.appD l [(.t [.s (real.setB (real.setB (real.repB (real.nat (real.addi (real.remi (real.wrapi (real.toI8 k)) (real.int 58)) (real.int 2)))) (real.nat (real.int 0)) (real.ofI8 (real.int i))) (real.nat (real.int 1)) (real.ofI8 (real.int 1))), .s (real.repB (real.nat (real.remi (real.wrapi (real.toI8 v)) (real.int 151))))])]) (real.lenD (real.appD l [(.t [.s (real.setB (real.setB (real.repB (real.nat (real.addi (real.remi (real.wrapi (real.toI8 k)) (real.int 58)) (real.int 2)))) (real.nat (real.int 0)) (real.ofI8 (real.int i))) (real.nat (real.int 1)) (real.ofI8 (real.int 1))), .s (real.repB (real.nat (real.remi (real.wrapi (real.toI8 v)) (real.int 151))))])]))) (real.addi (real.int 3) (real.muli (real.int (real.lenD (real.appD l [(.t [.s (real.setB (real.setB (real.repB (real.nat (real.addi (real.remi (real.wrapi (real.toI8 k)) (real.int 58)) (real.int 2)))) (real.nat (real.int 0)) (real.ofI8 (real.int i))) (real.nat (real.int 1)) (real.ofI8 (real.int 1))), .s (real.repB (real.nat (real.remi (real.wrapi (real.toI8 v)) (real.int 151))))])]))) (real.addi (real.addi (real.int 4) (real.addi (real.remi (real.wrapi (real.toI8 k)) (real.int 58)) (real.int 2))) (real.remi (real.wrapi (real.toI8 v)) (real.int 151))))))) false := by
  have hk := kN_le k
  have hv := vN_le v
  rw [sz_eq hl hi, next_eq hl]
  have e : real.lenD (pL (kN k) (vN v) (i + 1)) = i + 1 := pL_len _ _ _
  rw [e]
  have e2 : us.nsz (pL (kN k) (vN v) (i + 1)) (i + 1) = 3 + ((i + 1 : Nat) : Int) * (4 + (kN k : Int) + (vN v : Int)) := pL_sz hk.1 hk.2 hv (by omega) (i + 1) (Nat.le_refl _)
  rw [e2]
  show (!(_ == _)) = false
  simp
theorem nE : us.leafE (real.appD l [(.t [.s (real.setB (real.setB (real.repB (real.nat (real.addi (real.remi (real.wrapi (real.toI8 k)) (real.int 58)) (real.int 2)))) (real.nat (real.int 0)) (real.ofI8 (real.int i))) (real.nat (real.int 1)) (real.ofI8 (real.int 1))), .s (real.repB (real.nat (real.remi (real.wrapi (real.toI8 v)) (real.int 151))))])]) = if 480 < 3 + ((i + 1 : Nat) : Int) * (4 + (kN k : Int) + (vN v : Int)) then 11 else 0 := by
  have hk := kN_le k
  have hv := vN_le v
  rw [next_eq hl]
  exact pL_E hk.1 hk.2 hv (by omega)
theorem bb : real.pB (real.notb (real.eqb (real.eqi (us.leafE (real.appD l [(.t [.s (real.setB (real.setB (real.repB (real.nat (real.addi (real.remi (real.wrapi (real.toI8 k)) (real.int 58)) (real.int 2)))) (real.nat (real.int 0)) (real.ofI8 (real.int i))) (real.nat (real.int 1)) (real.ofI8 (real.int 1))), .s (real.repB (real.nat (real.remi (real.wrapi (real.toI8 v)) (real.int 151))))])])) (real.int 0)) (real.lei (real.addi (real.int 3) (real.muli (real.int (real.lenD (real.appD l [(.t [.s (real.setB (real.setB (real.repB (real.nat (real.addi (real.remi (real.wrapi (real.toI8 k)) (real.int 58)) (real.int 2)))) (real.nat (real.int 0)) (real.ofI8 (real.int i))) (real.nat (real.int 1)) (real.ofI8 (real.int 1))), .s (real.repB (real.nat (real.remi (real.wrapi (real.toI8 v)) (real.int 151))))])]))) (real.addi (real.addi (real.int 4) (real.addi (real.remi (real.wrapi (real.toI8 k)) (real.int 58)) (real.int 2))) (real.remi (real.wrapi (real.toI8 v)) (real.int 151))))) (real.int 480)))) false := by
  have e1 : us.leafE (real.appD l [(.t [.s (real.setB (real.setB (real.repB (real.nat (real.addi (real.remi (real.wrapi (real.toI8 k)) (real.int 58)) (real.int 2)))) (real.nat (real.int 0)) (real.ofI8 (real.int i))) (real.nat (real.int 1)) (real.ofI8 (real.int 1))), .s (real.repB (real.nat (real.remi (real.wrapi (real.toI8 v)) (real.int 151))))])]) = if 480 < 3 + ((i + 1 : Nat) : Int) * (4 + (kN k : Int) + (vN v : Int)) then 11 else 0 := nE hl hi
  rw [e1, sz_eq hl hi]
  show (!((_ == (0 : Int)) == decide (_ ≤ (480 : Int)))) = false
  by_cases c : 480 < 3 + ((i + 1 : Nat) : Int) * (4 + (kN k : Int) + (vN v : Int))
  · rw [if_pos c, decide_eq_false (by omega)]; rfl
  · rw [if_neg c, decide_eq_true (by omega)]; rfl
theorem bc (h : ¬ real.pB (real.notb (real.eqi (us.leafE (real.appD l [(.t [.s (real.setB (real.setB (real.repB (real.nat (real.addi (real.remi (real.wrapi (real.toI8 k)) (real.int 58)) (real.int 2)))) (real.nat (real.int 0)) (real.ofI8 (real.int i))) (real.nat (real.int 1)) (real.ofI8 (real.int 1))), .s (real.repB (real.nat (real.remi (real.wrapi (real.toI8 v)) (real.int 151))))])])) (real.int 0))) false) : real.pB (real.notb (real.eqi (us.leafE (real.appD l [(.t [.s (real.setB (real.setB (real.repB (real.nat (real.addi (real.remi (real.wrapi (real.toI8 k)) (real.int 58)) (real.int 2)))) (real.nat (real.int 0)) (real.ofI8 (real.int i))) (real.nat (real.int 1)) (real.ofI8 (real.int 1))), .s (real.repB (real.nat (real.remi (real.wrapi (real.toI8 v)) (real.int 151))))])])) (real.int 11))) false := by
  have e1 : us.leafE (real.appD l [(.t [.s (real.setB (real.setB (real.repB (real.nat (real.addi (real.remi (real.wrapi (real.toI8 k)) (real.int 58)) (real.int 2)))) (real.nat (real.int 0)) (real.ofI8 (real.int i))) (real.nat (real.int 1)) (real.ofI8 (real.int 1))), .s (real.repB (real.nat (real.remi (real.wrapi (real.toI8 v)) (real.int 151))))])]) = if 480 < 3 + ((i + 1 : Nat) : Int) * (4 + (kN k : Int) + (vN v : Int)) then 11 else 0 := nE hl hi
  rw [e1] at h ⊢
  by_cases c : 480 < 3 + ((i + 1 : Nat) : Int) * (4 + (kN k : Int) + (vN v : Int))
  · rw [if_pos c]; rfl
  · rw [if_neg c] at h; exact absurd rfl h
theorem bd (h : ¬ real.pB (real.notb (real.eqi (us.leafE (real.appD l [(.t [.s (real.setB (real.setB (real.repB (real.nat (real.addi (real.remi (real.wrapi (real.toI8 k)) (real.int 58)) (real.int 2)))) (real.nat (real.int 0)) (real.ofI8 (real.int i))) (real.nat (real.int 1)) (real.ofI8 (real.int 1))), .s (real.repB (real.nat (real.remi (real.wrapi (real.toI8 v)) (real.int 151))))])])) (real.int 0))) false) : real.lti (real.int 0) (real.int (real.lenD l)) = true := by
  have e1 : us.leafE (real.appD l [(.t [.s (real.setB (real.setB (real.repB (real.nat (real.addi (real.remi (real.wrapi (real.toI8 k)) (real.int 58)) (real.int 2)))) (real.nat (real.int 0)) (real.ofI8 (real.int i))) (real.nat (real.int 1)) (real.ofI8 (real.int 1))), .s (real.repB (real.nat (real.remi (real.wrapi (real.toI8 v)) (real.int 151))))])]) = if 480 < 3 + ((i + 1 : Nat) : Int) * (4 + (kN k : Int) + (vN v : Int)) then 11 else 0 := nE hl hi
  rw [e1] at h
  have hk := kN_le k
  have hv := vN_le v
  have e : real.lenD l = i := by rw [hl]; exact pL_len _ _ _
  rw [e]
  show decide ((0 : Int) < (i : Int)) = true
  apply decide_eq_true
  by_cases c : i = 0
  · subst c
    rw [if_neg (by omega)] at h
    exact absurd rfl h
  · omega
theorem be (h : ¬ real.pB (real.notb (real.eqi (us.leafE (real.appD l [(.t [.s (real.setB (real.setB (real.repB (real.nat (real.addi (real.remi (real.wrapi (real.toI8 k)) (real.int 58)) (real.int 2)))) (real.nat (real.int 0)) (real.ofI8 (real.int i))) (real.nat (real.int 1)) (real.ofI8 (real.int 1))), .s (real.repB (real.nat (real.remi (real.wrapi (real.toI8 v)) (real.int 151))))])])) (real.int 0))) true) : 3 + (i + 1) * (4 + kN k + vN v) ≤ 480 ∧ i + 1 < 120 := by
  have e1 : us.leafE (real.appD l [(.t [.s (real.setB (real.setB (real.repB (real.nat (real.addi (real.remi (real.wrapi (real.toI8 k)) (real.int 58)) (real.int 2)))) (real.nat (real.int 0)) (real.ofI8 (real.int i))) (real.nat (real.int 1)) (real.ofI8 (real.int 1))), .s (real.repB (real.nat (real.remi (real.wrapi (real.toI8 v)) (real.int 151))))])]) = if 480 < 3 + ((i + 1 : Nat) : Int) * (4 + (kN k : Int) + (vN v : Int)) then 11 else 0 := nE hl hi
  rw [e1] at h
  have hk := kN_le k
  by_cases c : 480 < 3 + ((i + 1 : Nat) : Int) * (4 + (kN k : Int) + (vN v : Int))
  · rw [if_pos c] at h; exact absurd rfl h
  · have c2 : 3 + (i + 1) * (4 + kN k + vN v) ≤ 480 := by
      have : ((3 + (i + 1) * (4 + kN k + vN v) : Nat) : Int) ≤ 480 := by
        rw [Int.natCast_add, Int.natCast_mul, Int.natCast_add, Int.natCast_add]
        exact Int.not_lt.1 c
      omega
    refine ⟨c2, ?_⟩
    have h6 : (i + 1) * 6 ≤ (i + 1) * (4 + kN k + vN v) := Nat.mul_le_mul_left _ (by omega)
    omega
end
attribute [local irreducible] u_leafE u_leafB u_nsz
end Go.Proofs.Ytmldccfchnlpgaa
namespace Go.Proofs.Ytmldccfchnlpgaa
open Go Go.Vc
noncomputable def sp_law8_NodeFull (F : Fs) (U : Us) : Specs := [(48, s_law8_known F U), (49, s_node_Leaf F U), (51, s_node_Size F U)]
theorem ok_law8_NodeFull : SpecsOK Try.prog (sp_law8_NodeFull real us) := sp_cons r_law8_known k_law8_known (sp_cons r_node_Leaf k_node_Leaf (sp_cons r_node_Size k_node_Size sp_nil))
noncomputable def an_law8_NodeFull (F : Fs) (U : Us) (k v : UInt8) : Anns := [(6, ⟨Nat × List D, fun s => F.pLt s.1 120 ∧ s.2 = pL (k.toNat % 58 + 2) (v.toNat % 151) s.1 ∧ 3 + s.1 * (4 + (k.toNat % 58 + 2) + v.toNat % 151) ≤ 480, fun s => F.subn 120 s.1, fun s => ⟨[(5, .i (F.addi (F.remi (F.wrapi (F.toI8 k)) (F.int 58)) (F.int 2))), (6, .i (F.remi (F.wrapi (F.toI8 v)) (F.int 151))), (7, .rw 1), (8, .i (F.int s.1))], [(7, 1, .row 55 2 (.ds (.t [.s, .s]) s.2))]⟩⟩)]
noncomputable def x_law8_NodeFull (F : Fs) (U : Us) : Cx := ⟨Try.f10.ntmps, tt F, sp_law8_NodeFull F U, [], [(10, ([(4, [2]), (7, [2, 4, 5]), (9, [2, 4, 5, 7]), (10, [2, 4, 5, 7]), (12, [2, 4, 5])], []))], [], []⟩
theorem c_law8_NodeFull (k v : UInt8)  : vc real (x_law8_NodeFull real us) (an_law8_NodeFull real us k v) [] (Try.f10.body.getD .skip) ⟨zipSl 0 [.w8 k, .w8 v], [], 64⟩ (retOk real (tt real) false Try.f10.results.toList [.val (.b true)]) := by
  generalize hU : us = U
  generalize hF : real = F
  cbv
  repeat' first | apply And.intro | refine Classical.or_iff_not_imp_left.2 (fun _ => ?_) | exact trivial
  all_goals try (subst hF hU; simp only [real, us, Nat.le_eq, Int.cast_ofNat_Int, decide_eq_false_iff_not, decide_eq_true_eq, List.length_take, List.length_drop, List.length_append, List.length_replicate, List.length_set, List.length_cons, List.length_nil, List.length_zipWith] at *; (try simp (disch := omega) only [wrap_sm] at *); omega)
  · refine ⟨((0, []) : Nat × List D), ⟨?_, rfl, ?_⟩, ?_⟩
    · subst hF; show (0 : Nat) < 120; omega
    · omega
    · cbv
  · rintro ⟨(i : Nat), (l : List D)⟩ ⟨hi, hl, hs⟩
    have h1 : i < 120 := by subst hF; exact hi
    have hl : l = pL (kN k) (vN v) i := hl
    clear hi hs
    have a1 : F.p0 (F.addi (F.remi (F.wrapi (F.toI8 k)) (F.int 58)) (F.int 2)) := by subst hF; exact t1 k
    have a2 : F.pMk (F.addi (F.remi (F.wrapi (F.toI8 k)) (F.int 58)) (F.int 2)) 1 := by subst hF; exact t2 k
    have a3 : F.pIn (F.int 0) (F.lenB (F.repB (F.nat (F.addi (F.remi (F.wrapi (F.toI8 k)) (F.int 58)) (F.int 2))))) := by subst hF; exact t3 k
    have a4 : F.pLt (F.nat (F.int 0)) (F.lenB (F.repB (F.nat (F.addi (F.remi (F.wrapi (F.toI8 k)) (F.int 58)) (F.int 2))))) := by subst hF; exact t4 k
    have a5 : ∀ x, F.pIn (F.int 1) (F.lenB (F.setB (F.repB (F.nat (F.addi (F.remi (F.wrapi (F.toI8 k)) (F.int 58)) (F.int 2)))) (F.nat (F.int 0)) x)) := by subst hF; exact t5 k
    have a6 : ∀ x, F.pLt (F.nat (F.int 1)) (F.lenB (F.setB (F.repB (F.nat (F.addi (F.remi (F.wrapi (F.toI8 k)) (F.int 58)) (F.int 2)))) (F.nat (F.int 0)) x)) := by subst hF; exact t6 k
    have a7 : F.p0 (F.remi (F.wrapi (F.toI8 v)) (F.int 151)) := by subst hF; exact t7 v
    have a8 : F.pMk (F.remi (F.wrapi (F.toI8 v)) (F.int 151)) 1 := by subst hF; exact t8 v
    have a9 : ∀ x, F.pCap (F.addn (F.lenD l) (F.lenD [x])) 32 := by subst hF; exact t9 hl h1
    have a0 : F.pLe (F.lenD (F.appD l [(.t [.s (F.setB (F.setB (F.repB (F.nat (F.addi (F.remi (F.wrapi (F.toI8 k)) (F.int 58)) (F.int 2)))) (F.nat (F.int 0)) (F.ofI8 (F.int i))) (F.nat (F.int 1)) (F.ofI8 (F.int 1))), .s (F.repB (F.nat (F.remi (F.wrapi (F.toI8 v)) (F.int 151))))])])) 1000000000000 := by subst hF; exact t10 hl h1
    have ap : ∀ x, F.pPos (F.lenD [x]) := by subst hF; exact fun x => Nat.succ_pos 0
    have b1 : F.pB (F.notb (F.eqi (U.nsz (F.appD l [(.t [.s (F.setB (F.setB (F.repB (F.nat (F.addi (F.remi (F.wrapi (F.toI8 k)) (F.int 58)) (F.int 2)))) (F.nat (F.int 0)) (F.ofI8 (F.int i))) (F.nat (F.int 1)) (F.ofI8 (F.int 1))), .s (F.repB (F.nat (F.remi (F.wrapi (F.toI8 v)) (F.int 151))))])]) (F.lenD (F.appD l [(.t [.s (F.setB (F.setB (F.repB (F.nat (F.addi (F.remi (F.wrapi (F.toI8 k)) (F.int 58)) (F.int 2)))) (F.nat (F.int 0)) (F.ofI8 (F.int i))) (F.nat (F.int 1)) (F.ofI8 (F.int 1))), .s (F.repB (F.nat (F.remi (F.wrapi (F.toI8 v)) (F.int 151))))])]))) (F.addi (F.int 3) (F.muli (F.int (F.lenD (F.appD l [(.t [.s (F.setB (F.setB (F.repB (F.nat (F.addi (F.remi (F.wrapi (F.toI8 k)) (F.int 58)) (F.int 2)))) (F.nat (F.int 0)) (F.ofI8 (F.int i))) (F.nat (F.int 1)) (F.ofI8 (F.int 1))), .s (F.repB (F.nat (F.remi (F.wrapi (F.toI8 v)) (F.int 151))))])]))) (F.addi (F.addi (F.int 4) (F.addi (F.remi (F.wrapi (F.toI8 k)) (F.int 58)) (F.int 2))) (F.remi (F.wrapi (F.toI8 v)) (F.int 151))))))) false := by subst hF hU; exact ba hl h1
    have b2 : F.pB (F.notb (F.eqb (F.eqi (U.leafE (F.appD l [(.t [.s (F.setB (F.setB (F.repB (F.nat (F.addi (F.remi (F.wrapi (F.toI8 k)) (F.int 58)) (F.int 2)))) (F.nat (F.int 0)) (F.ofI8 (F.int i))) (F.nat (F.int 1)) (F.ofI8 (F.int 1))), .s (F.repB (F.nat (F.remi (F.wrapi (F.toI8 v)) (F.int 151))))])])) (F.int 0)) (F.lei (F.addi (F.int 3) (F.muli (F.int (F.lenD (F.appD l [(.t [.s (F.setB (F.setB (F.repB (F.nat (F.addi (F.remi (F.wrapi (F.toI8 k)) (F.int 58)) (F.int 2)))) (F.nat (F.int 0)) (F.ofI8 (F.int i))) (F.nat (F.int 1)) (F.ofI8 (F.int 1))), .s (F.repB (F.nat (F.remi (F.wrapi (F.toI8 v)) (F.int 151))))])]))) (F.addi (F.addi (F.int 4) (F.addi (F.remi (F.wrapi (F.toI8 k)) (F.int 58)) (F.int 2))) (F.remi (F.wrapi (F.toI8 v)) (F.int 151))))) (F.int 480)))) false := by subst hF hU; exact bb hl h1
    have b3 : ¬ F.pB (F.notb (F.eqi (U.leafE (F.appD l [(.t [.s (F.setB (F.setB (F.repB (F.nat (F.addi (F.remi (F.wrapi (F.toI8 k)) (F.int 58)) (F.int 2)))) (F.nat (F.int 0)) (F.ofI8 (F.int i))) (F.nat (F.int 1)) (F.ofI8 (F.int 1))), .s (F.repB (F.nat (F.remi (F.wrapi (F.toI8 v)) (F.int 151))))])])) (F.int 0))) false → F.pB (F.notb (F.eqi (U.leafE (F.appD l [(.t [.s (F.setB (F.setB (F.repB (F.nat (F.addi (F.remi (F.wrapi (F.toI8 k)) (F.int 58)) (F.int 2)))) (F.nat (F.int 0)) (F.ofI8 (F.int i))) (F.nat (F.int 1)) (F.ofI8 (F.int 1))), .s (F.repB (F.nat (F.remi (F.wrapi (F.toI8 v)) (F.int 151))))])])) (F.int 11))) false := by subst hF hU; exact bc hl h1
    have b4 : ¬ F.pB (F.notb (F.eqi (U.leafE (F.appD l [(.t [.s (F.setB (F.setB (F.repB (F.nat (F.addi (F.remi (F.wrapi (F.toI8 k)) (F.int 58)) (F.int 2)))) (F.nat (F.int 0)) (F.ofI8 (F.int i))) (F.nat (F.int 1)) (F.ofI8 (F.int 1))), .s (F.repB (F.nat (F.remi (F.wrapi (F.toI8 v)) (F.int 151))))])])) (F.int 0))) false → F.lti (F.int 0) (F.int (F.lenD l)) = true := by subst hF hU; exact bd hl h1
    have b5 : ¬ F.pB (F.notb (F.eqi (U.leafE (F.appD l [(.t [.s (F.setB (F.setB (F.repB (F.nat (F.addi (F.remi (F.wrapi (F.toI8 k)) (F.int 58)) (F.int 2)))) (F.nat (F.int 0)) (F.ofI8 (F.int i))) (F.nat (F.int 1)) (F.ofI8 (F.int 1))), .s (F.repB (F.nat (F.remi (F.wrapi (F.toI8 v)) (F.int 151))))])])) (F.int 0))) true → 3 + (i + 1) * (4 + kN k + vN v) ≤ 480 ∧ i + 1 < 120 := by subst hF hU; exact be hl h1
    have b6 : (F.appD l [(.t [.s (F.setB (F.setB (F.repB (F.nat (F.addi (F.remi (F.wrapi (F.toI8 k)) (F.int 58)) (F.int 2)))) (F.nat (F.int 0)) (F.ofI8 (F.int i))) (F.nat (F.int 1)) (F.ofI8 (F.int 1))), .s (F.repB (F.nat (F.remi (F.wrapi (F.toI8 v)) (F.int 151))))])]) = pL (kN k) (vN v) (i + 1) := by subst hF; exact next_eq hl
    cbv
    repeat' first | apply And.intro | refine Classical.or_iff_not_imp_left.2 (fun _ => ?_) | exact trivial
    all_goals try (subst hF hU; simp only [real, us, Nat.le_eq, Int.cast_ofNat_Int, decide_eq_false_iff_not, decide_eq_true_eq, List.length_take, List.length_drop, List.length_append, List.length_replicate, List.length_set, List.length_cons, List.length_nil, List.length_zipWith] at *; (try simp (disch := omega) only [wrap_sm] at *); omega)
    all_goals first
      | exact a1
      | exact a2
      | exact a3
      | exact a4
      | exact a5 _
      | exact a6 _
      | exact a7
      | exact a8
      | exact a9 _
      | exact a0
      | exact ap _
      | (rename_i h; exact absurd b1 h)
      | (rename_i h; exact absurd b2 h)
      | (rename_i h; exact absurd (b3 (by assumption)) h)
      | exact b4 (by assumption)
      | skip
    all_goals
      obtain ⟨c1, c2⟩ := b5 (by assumption)
      have c0 : F.pLt (i + 1) 120 := by subst hF; exact c2
      clear a1 a2 a3 a4 a5 a6 a7 a8 a9 a0 ap b1 b2 b3 b4 b5
      refine ⟨((i + 1, (F.appD l [(.t [.s (F.setB (F.setB (F.repB (F.nat (F.addi (F.remi (F.wrapi (F.toI8 k)) (F.int 58)) (F.int 2)))) (F.nat (F.int 0)) (F.ofI8 (F.int i))) (F.nat (F.int 1)) (F.ofI8 (F.int 1))), .s (F.repB (F.nat (F.remi (F.wrapi (F.toI8 v)) (F.int 151))))])])) : Nat × List D), ⟨c0, b6, c1⟩, ?_⟩
      clear b6 c0 c1
      cbv; subst hF hU
      exact ⟨sub_stepN (n := 120) h1, ⟨addi1 (by omega), trivial⟩, trivial⟩
end Go.Proofs.Ytmldccfchnlpgaa
namespace Go.Proofs.Ytmldccfchnlpgaa.nodeFull
open Go.ChangeShapes Go.WideShapes Go.ChangeAt Go.RowKit
set_option linter.unusedVariables false
theorem own : ownKnob Try.prog.godebug = none := by kernel_rfl
theorem laidOut : laidOutB Try.prog = true := p_laidOut
set_option maxRecDepth 100000 in
theorem lifted (os : Os) (started : os.Started) (H : Type) (enc : TypeId × Value → H) :
    ReturnsInHanded {} Try.checked os 10 .any (Rows.nodeFullSpec.pre6 enc Try.prog Try.f10 Rows.nodeFullRow.domain false) (Rows.nodeFullSpec.post enc Try.prog Try.f10 false true false false) := by
  refine returnsInHanded_of_change (C := Try.checked) own started (by kernel_rfl) Try.func10
    (ChangeSpec.witness6 (enc := enc) (C := Try.checked) false ⟨#[], #[.int .u8 0, .int .u8 0], []⟩ 8 (by kernel_rfl) (by kernel_rfl) (by kernel_rfl) (by kernel_rfl)) ?_
  intro W base args ds gs before hval0 hW hcnd _
  have hval : ∀ (j : Nat) t v, Try.f10.params[j]? = some t → args[j]? = some v → Value.okWide Try.prog W .any base t v := hval0
  have hW' := hW
  obtain ⟨p, q, hA0, hV, rfl, hfz, hnd⟩ := hW
  have hA : DataW.TrodAll enc Try.prog W 0 (fun _ => true) true Try.f10.params.toList args.toList ds p := hA0
  rw [Try.params10] at hA hval
  obtain ⟨v0, vs0, d0, ds0, p0, q0, hargs, rfl, rfl, h0, r0⟩ := trodAll_cons hA
  obtain ⟨v1, vs1, d1, ds1, p1, q1, rfl, rfl, rfl, h1, r1⟩ := trodAll_cons r0
  obtain ⟨rfl, rfl, rfl⟩ := trodAll_nil r1
  obtain rfl : args = #[v0, v1] := by cases args; simp_all
  obtain ⟨rfl, rfl⟩ := trodVars_none hV
  obtain ⟨k, k0⟩ := Go.Vc.open8 Try.underlying5 (hval 0 5 v0 rfl rfl) h0
  obtain ⟨v, k1⟩ := Go.Vc.open8 Try.underlying5 (hval 1 5 v1 rfl rfl) h1
  clear hA0 hval0
  refine (Go.Vc.law_walk2 (x := x_law8_NodeFull Go.Vc.real us) (an := (an_law8_NodeFull Go.Vc.real us k v)) (cu := []) (l := [.w8 k, .w8 v]) (vals := [v0, v1]) ⟨tt_ok, ok_law8_NodeFull, Go.Vc.ks_nil⟩ mixed Try.func10 rfl rfl (by kernel_rfl) (Nat.le_of_ble_eq_true rfl) (Go.Vc.rvs_cons k0 (Go.Vc.rvs_cons k1 Go.Vc.rvs_nil)) (c_law8_NodeFull k v )).mono fun e W' ⟨he, bel⟩ => ?_
  subst he
  exact ⟨_, rfl, Go.Vc.post_true (tb := 4) laidOut (by kernel_rfl) rfl Try.underlying4 rfl hW' rfl bel⟩
theorem over : Rows.nodeFullRow.holds Try.pinned (OpenSpec.ofChange Rows.nodeFullSpec) :=
  OpenClaim.holds_of_wide 10 Try.f10 rfl rfl rfl rfl rfl rfl rfl ⟨rfl, rfl, rfl, rfl, rfl⟩ rfl rfl rfl rfl rfl (by kernel_rfl) Try.func10 (Go.Vc.joined_of p_laidOut p_maps p_stops p_knobs p_heard p_mayEnter p_lifts p_make rfl rfl (by kernel_rfl) (by kernel_rfl) (by kernel_rfl) (by kernel_rfl) (by kernel_rfl) (by kernel_rfl) (by kernel_rfl) (by kernel_rfl) (by kernel_rfl) (by kernel_rfl) (by kernel_rfl) (by kernel_rfl) (by kernel_rfl) (by kernel_rfl) (by kernel_rfl) (by kernel_rfl) (by kernel_rfl) (by kernel_rfl) (by kernel_rfl) (by kernel_rfl) (by kernel_rfl) (by kernel_rfl) (by kernel_rfl) (by kernel_rfl) )
    (of_decide_eq_true (by kernel_rfl)) (by unfold Func.isWrapper; first | (rw [if_pos (by decide +kernel)]; kernel_rfl) | (rw [if_neg (by decide +kernel)]; exact ⟨rfl, rfl⟩))
    (fun os started H enc _ => lifted os started H enc)
theorem proved : Rows.NodeFullSaid := over
#print axioms proved
end Go.Proofs.Ytmldccfchnlpgaa.nodeFull

