/- The given statement is proved: for every input the law's function answers true. No condition. -/
import Derived.Test.YthjlhookepchgaaRows
import Derived.Test.YthjlhookepchgaaPart5
import Derived.Test.YthjlhookepchgaaPart4
import Derived.WalkKit
import Derived.HandedShaped
import Derived.ProofKit
import Derived.OpenShut
import Derived.ShutString
set_option linter.unusedVariables false
set_option linter.unusedSimpArgs false
set_option maxRecDepth 100000
set_option maxHeartbeats 1000000
namespace Go.Proofs.Ythjlhookepchgaa
open Go Go.Vc
/-! ## The tree -/
theorem ti_boolR {P : Program} {T : Nat} (hu : P.underlying T = some .bool) (hf : facts P T = some (1, 1, some (.bool false))) : TIok P T ⟨.bool, 1, 1, .one (.b false), some (.kD .b)⟩ :=
  .one hu rfl hu hf rfl rfl (fun m w => by simp [CR]) (fun q hq => by
    cases hq
    refine ⟨rfl, fun m w n => ?_⟩
    have h := kD_RC (m := m) (w := w) .b n
    have e : (List.replicate n Sh.b.zc).flatten = List.replicate n (.bool false) := by
      have : Sh.b.zc = [.bool false] := rfl
      rw [this]
      simp
    rw [e] at h
    exact h)
def tt3 (F : Fs) : TT := (4, ⟨.bool, 1, 1, .one (.b false), some (.kD .b)⟩) :: tt F
theorem tt3_ok : TTok Try.prog (tt3 real) := ttok_cons (ti_boolR (by kernel_rfl) (by kernel_rfl)) tt_ok
theorem trP_r (ps : List UInt8) (i : Nat) : 0 ≤ u_trP ps i ∧ u_trP ps i ≤ (i : Int) := by
  unfold u_trP
  have h1 : (ps.getD i 0).toNat % (i + 1) < i + 1 := Nat.mod_lt _ (Nat.succ_pos i)
  omega
theorem tr_ok (ps : List UInt8) {n : Nat} (h : n ≤ 12) : u_okT (u_bk (u_trG ps) n) := bk_okT (by omega) (fun j _ => by show ([] : List (List UInt8)).length ≤ 1000; decide)
theorem tr_par (ps : List UInt8) (i : Nat) : u_trP ps i = 0 ∨ ∃ k, k < i ∧ u_trP ps i = (k : Int) + 1 := by
  have h := trP_r ps i
  by_cases e : u_trP ps i = 0
  · exact .inl e
  · exact .inr ⟨(u_trP ps i).toNat - 1, by omega, by omega⟩
theorem tr_mk (ps : List UInt8) {i : Nat} (hi : i < 12) : u_mkE (u_bk (u_trG ps) i) (u_trP ps i) 100 0 = 0 ∧ u_mkX (u_bk (u_trG ps) i) (u_nx i) (u_trP ps i) 100 0 = (i : Int) + 1 ∧ u_mkN (u_bk (u_trG ps) i) (u_nx i) (u_trP ps i) 100 0 = u_nx (i + 1) ∧ u_mkM (u_bk (u_trG ps) i) (u_nx i) (u_trP ps i) 100 0 [] [] = u_bk (u_trG ps) (i + 1) := by
  have hm : (100 : Int) ≤ u_most (u_trP ps i) := by unfold u_most; split <;> omega
  have hT : u_mkT (u_bk (u_trG ps) i) (u_trP ps i) 100 0 = 100 := by
    unfold u_mkT
    split
    · omega
    · rename_i h0
      rcases tr_par ps i with h | ⟨k, hk, e⟩
      · exact absurd h h0
      · rw [e, bk_get hk]
        show min (min (0 + 100) 1000000) (100 : Int) = 100
        omega
  have q := bk_mk (g := u_trG ps) (n := i) (parent := u_trP ps i) (ttl := 100) (now := 0) (fun j _ => by show (0 : Int) < 100; decide) hi ⟨by decide, by decide, by decide, hm⟩ (tr_par ps i) (by rw [hT]; rfl)
  obtain ⟨q1, q2, q3, q4⟩ := q
  exact ⟨q1, q2, q3.trans (by unfold u_nx; omega), q4⟩
/-- the one whose number is the parent's, less one -/
def trI (ps : List UInt8) (j : Nat) : Nat := (ps.getD j 0).toNat % (j + 1) - 1
theorem trB_s (ps : List UInt8) (k f j : Nat) : u_trB ps k (f + 1) j = (decide (j = k) || (decide (0 < (ps.getD j 0).toNat % (j + 1)) && u_trB ps k f (trI ps j))) := rfl
theorem trB_fuel (ps : List UInt8) (k : Nat) : ∀ j f, j < f → u_trB ps k f j = u_trB ps k (j + 1) j := by
  intro j
  induction j using Nat.strongRecOn with
  | ind j ih =>
    intro f hf
    obtain ⟨f', rfl⟩ : ∃ f', f = f' + 1 := ⟨f - 1, by omega⟩
    rw [trB_s, trB_s]
    by_cases h : 0 < (ps.getD j 0).toNat % (j + 1)
    · have h1 : (ps.getD j 0).toNat % (j + 1) < j + 1 := Nat.mod_lt _ (Nat.succ_pos j)
      have h2 : trI ps j < j := by unfold trI; omega
      rw [ih _ h2 f' (by omega), ih _ h2 j h2]
    · rw [decide_eq_false h]; rfl
/-- is it hit -/
def trHit (ps : List UInt8) (k j : Nat) : Bool := u_trB ps k (j + 1) j
theorem trHit_s (ps : List UInt8) (k j : Nat) : trHit ps k j = (decide (j = k) || (decide (0 < (ps.getD j 0).toNat % (j + 1)) && trHit ps k (trI ps j))) := by
  unfold trHit
  rw [trB_s]
  by_cases h : 0 < (ps.getD j 0).toNat % (j + 1)
  · have h1 : (ps.getD j 0).toNat % (j + 1) < j + 1 := Nat.mod_lt _ (Nat.succ_pos j)
    rw [trB_fuel ps k (trI ps j) j (by unfold trI; omega)]
  · rw [decide_eq_false h]; rfl
theorem tr_of (ps : List UInt8) {n k : Nat} (hk : k < n) : Of (u_trG ps) n k (trHit ps k) := by
  refine ⟨fun j hj => tr_par ps j, hk, fun j hj => ?_⟩
  rw [trHit_s, Bool.or_eq_true, Bool.and_eq_true, decide_eq_true_eq, decide_eq_true_eq]
  have hp : (u_trG ps j).p = (((ps.getD j 0).toNat % (j + 1) : Nat) : Int) := rfl
  rw [hp]
  have h1 : (ps.getD j 0).toNat % (j + 1) < j + 1 := Nat.mod_lt _ (Nat.succ_pos j)
  constructor
  · rintro (h | ⟨h2, h3⟩)
    · exact .inl h
    · exact .inr ⟨trI ps j, by unfold trI; omega, by unfold trI; omega, h3⟩
  · rintro (h | ⟨i, h2, h3, h4⟩)
    · exact .inl h
    · refine .inr ⟨by omega, ?_⟩
      have : trI ps j = i := by unfold trI; omega
      rw [this]; exact h4
/-- what is told of the one at place m behind i steps -/
def trW (ps : List UInt8) (k i : Nat) : Nat → Bool
  | 0 => false
  | m + 1 => decide (m = k) || (decide (m < i) && trHit ps k m)
theorem trH_eq (ps : List UInt8) (k i : Nat) : u_trH ps k i = (List.range (ps.length + 1)).map fun j => D.b (trW ps k i j) := by
  unfold u_trH
  refine List.map_congr_left fun j _ => ?_
  cases j <;> rfl
theorem trH_len (ps : List UInt8) (k i : Nat) : (u_trH ps k i).length = ps.length + 1 := by rw [trH_eq, List.length_map, List.length_range]
theorem trH_get (ps : List UInt8) (k i : Nat) {j : Nat} (hj : j ≤ ps.length) : (u_trH ps k i).getD j D.no = .b (trW ps k i j) := by
  rw [trH_eq, List.getD_eq_getElem?_getD, List.getElem?_map, List.getElem?_range (by omega)]; rfl
theorem trW_end (ps : List UInt8) {k i m : Nat} (hm : m < i) : trW ps k i (m + 1) = trHit ps k m := by
  show (decide (m = k) || (decide (m < i) && trHit ps k m)) = _
  rw [decide_eq_true hm, Bool.true_and]
  by_cases e : m = k
  · subst e
    rw [trHit_s]; simp
  · rw [decide_eq_false e]; rfl
/-- the parent's place -/
theorem trW_up (ps : List UInt8) (k i : Nat) : trHit ps k i = (trW ps k i (i + 1) || trW ps k i ((ps.getD i 0).toNat % (i + 1))) := by
  have h1 : (ps.getD i 0).toNat % (i + 1) < i + 1 := Nat.mod_lt _ (Nat.succ_pos i)
  have e1 : trW ps k i (i + 1) = decide (i = k) := by
    show (decide (i = k) || (decide (i < i) && _)) = _
    simp
  rw [e1, trHit_s]
  congr 1
  by_cases h : 0 < (ps.getD i 0).toNat % (i + 1)
  · rw [decide_eq_true h, Bool.true_and]
    obtain ⟨m, hm⟩ : ∃ m, (ps.getD i 0).toNat % (i + 1) = m + 1 := ⟨(ps.getD i 0).toNat % (i + 1) - 1, by omega⟩
    have : trI ps i = m := by unfold trI; omega
    rw [hm, this, trW_end ps (by omega)]
  · have : (ps.getD i 0).toNat % (i + 1) = 0 := by omega
    rw [this, decide_eq_false (by decide)]; rfl
theorem trH_set (ps : List UInt8) (k : Nat) {i : Nat} (hi : i < ps.length) : (u_trH ps k i).set (i + 1) (.b (trHit ps k i)) = u_trH ps k (i + 1) := by
  refine List.ext_getElem? fun j => ?_
  rw [trH_eq, trH_eq, List.getElem?_set, List.getElem?_map, List.getElem?_map, List.length_map, List.length_range]
  by_cases e : i + 1 = j
  · subst e
    rw [if_pos rfl, if_pos (by omega), List.getElem?_range (by omega)]
    show some (D.b (trHit ps k i)) = some (D.b (trW ps k (i + 1) (i + 1)))
    rw [trW_end ps (by omega)]
  · rw [if_neg e]
    by_cases hj : j < ps.length + 1
    · rw [List.getElem?_range hj]
      show some (D.b (trW ps k i j)) = some (D.b (trW ps k (i + 1) j))
      congr 2
      cases j with
      | zero => rfl
      | succ m =>
        show (decide (m = k) || (decide (m < i) && trHit ps k m)) = (decide (m = k) || (decide (m < i + 1) && trHit ps k m))
        have : decide (m < i) = decide (m < i + 1) := by simp only [decide_eq_decide]; omega
        rw [this]
    · rw [List.getElem?_eq_none (by rw [List.length_range]; omega)]
      rfl
theorem trH_0 (ps : List UInt8) {k : Nat} (hk : k < ps.length) : (List.replicate (ps.length + 1) (D.b false)).set (k + 1) (.b true) = u_trH ps k 0 := by
  refine List.ext_getElem? fun j => ?_
  rw [trH_eq, List.getElem?_set, List.getElem?_map, List.length_replicate, List.getElem?_replicate]
  by_cases e : k + 1 = j
  · subst e
    rw [if_pos rfl, if_pos (by omega), List.getElem?_range (by omega)]
    show some (D.b true) = some (D.b (decide (k = k) || _))
    simp
  · rw [if_neg e]
    by_cases hj : j < ps.length + 1
    · rw [if_pos hj, List.getElem?_range hj]
      show some (D.b false) = some (D.b (trW ps k 0 j))
      cases j with
      | zero => rfl
      | succ m =>
        show some (D.b false) = some (D.b (decide (m = k) || (decide (m < 0) && trHit ps k m)))
        rw [decide_eq_false (by omega), decide_eq_false (by omega)]; rfl
    · rw [if_neg hj, List.getElem?_eq_none (by rw [List.length_range]; omega)]
      rfl
theorem trN_s (ps : List UInt8) (k i : Nat) : u_trN ps k (i + 1) = if trHit ps k i = true then u_trN ps k i + 1 else u_trN ps k i := by
  unfold u_trN
  rw [List.range_succ, List.filter_append]
  by_cases h : trHit ps k i = true
  · rw [if_pos h]
    have h' : u_trB ps k (i + 1) i = true := h
    simp [h']
  · rw [if_neg h]
    have h' : ¬ u_trB ps k (i + 1) i = true := h
    simp [h']
theorem trN_le (ps : List UInt8) (k i : Nat) : u_trN ps k i ≤ i := by
  unfold u_trN
  exact Nat.le_trans (List.length_filter_le ..) (by rw [List.length_range]; exact Nat.le_refl _)
theorem tr_vk (ps : List UInt8) {n k : Nat} (hk : k < n) : u_val (u_bk (u_trG ps) n) ((k : Int) + 1) 5 = true := by
  rw [bk_val hk]; rfl
theorem tr_rv (ps : List UInt8) {n k : Nat} (hk : k < n) : u_rvE (u_bk (u_trG ps) n) ((k : Int) + 1) 5 = 0 ∧ u_rvN (u_bk (u_trG ps) n) ((k : Int) + 1) 5 = (u_trN ps k n : Int) := by
  refine ⟨rvE_yes (tr_vk ps hk), ?_⟩
  rw [rv_cnt (tr_of ps hk) (tr_vk ps hk)]
  rfl
theorem tr_vl (ps : List UInt8) {n k : Nat} (hk : k < n) {m : Nat} (hm : m < n) : u_val (u_rvM (u_bk (u_trG ps) n) ((k : Int) + 1) 5) ((m : Int) + 1) 5 = !trHit ps k m := by
  rw [rv_val (tr_of ps hk) (tr_vk ps hk) hm]
  show (decide ((5 : Int) < 100) && _) = _
  rw [decide_eq_true (by decide)]; rfl
theorem tr_b0 (ps : List UInt8) : (⟨[], 0⟩ : MD) = us.bk (us.trG ps) 0 := rfl
theorem tr_in {i : Nat} (h : i ≤ 12) : real.pIn (us.nx i) 1000000 := by
  show (0 : Int) ≤ (i : Int) + 1 ∧ (i : Int) + 1 < ((1000000 : Nat) : Int)
  omega
theorem trUp_s (ps : List UInt8) (i : Nat) : u_trUp ps i ++ [u_trP ps i] = u_trUp ps (i + 1) := by
  unfold u_trUp
  rw [List.range_succ, List.map_append]; rfl
theorem trUp_len (ps : List UInt8) (i : Nat) : (u_trUp ps i).length = i := by unfold u_trUp; simp
theorem trUp_get (ps : List UInt8) {n i : Nat} (h : i < n) : (u_trUp ps n).getD i 0 = u_trP ps i := by
  unfold u_trUp
  rw [List.getD_eq_getElem?_getD, List.getElem?_map, List.getElem?_range h]; rfl
theorem trK_lt (a : UInt8) {ps : List UInt8} (h : 0 < ps.length) : u_trK a ps < ps.length := Nat.mod_lt _ h
theorem eq_g {n : Nat} (h : ¬ real.pB (real.eqi (real.int n) (real.int 0)) true) : ¬ n = 0 := by
  intro e; subst e; exact h rfl
theorem tr_ne (i : Nat) (h : i ≤ 12) : real.pNe (real.addi (real.int i) (real.int 1)) := by
  rw [addi1 (by omega)]
  show ((i + 1 : Nat) : Int) ≠ 0
  omega
theorem tr_p (ps : List UInt8) {i : Nat} (h : i < 12) : (IntKind.i64.wrap (((ps.getD i 0).toNat : Nat) : Int)).tmod (IntKind.i64.wrap ((i : Int) + 1)) = u_trP ps i := by
  have := (ps.getD i 0).toNat_lt
  rw [wrap_sm (a := ((((ps.getD i 0).toNat : Nat)) : Int)) (by omega) (by omega), wrap_sm (by omega) (by omega), Int.tmod_eq_emod_of_nonneg (by omega)]
  unfold u_trP
  rw [Int.natCast_emod]; rfl
theorem tr_N (ps : List UInt8) {i : Nat} (hi : i < 12) {a : Int} (ha : a = u_trP ps i) : u_mkN (u_bk (u_trG ps) i) (u_nx i) a 100 0 = u_nx (i + 1) := by
  subst ha; exact (tr_mk ps hi).2.2.1
theorem tr_M (ps : List UInt8) {i : Nat} (hi : i < 12) {a : Int} (ha : a = u_trP ps i) : u_mkM (u_bk (u_trG ps) i) (u_nx i) a 100 0 [] [] = u_bk (u_trG ps) (i + 1) := by
  subst ha; exact (tr_mk ps hi).2.2.2
theorem tr_U (ps : List UInt8) (i : Nat) {a : Int} (ha : a = u_trP ps i) : u_trUp ps i ++ [a] = u_trUp ps (i + 1) := by
  subst ha; exact trUp_s ps i
theorem tr_c {n : Nat} (h : n ≤ 12) : real.p0 (real.addi (real.int n) (real.int 1)) ∧ real.pMk (real.addi (real.int n) (real.int 1)) 1 := by
  rw [addi1 (by omega)]
  refine ⟨by show (0 : Int) ≤ ((n + 1 : Nat) : Int); omega, ?_⟩
  show (0 : Int) ≤ ((n + 1 : Nat) : Int) ∧ ((n + 1 : Nat) : Int) * ((1 : Nat) : Int) ≤ 281474976710656 ∧ ((n + 1 : Nat) : Int) ≤ 4611686018427387904
  omega
theorem tr_kk (a : UInt8) {ps : List UInt8} (h0 : ¬ ps.length = 0) (h : ps.length ≤ 12) : real.addi (real.remi (real.wrapi (real.toI8 a)) (real.int (real.lenB ps))) (real.int 1) = ((u_trK a ps + 1 : Nat) : Int) := by
  have h1 := a.toNat_lt
  have h2 := Nat.mod_lt a.toNat (Nat.pos_of_ne_zero h0)
  have h3 : (IntKind.i64.wrap ((a.toNat : Nat) : Int)).tmod ((ps.length : Nat) : Int) = ((u_trK a ps : Nat) : Int) := by
    rw [wrap_sm (by omega) (by omega), Int.tmod_eq_emod_of_nonneg (by omega)]
    exact (Int.natCast_emod _ _).symm
  have h4 : IntKind.i64.wrap ((IntKind.i64.wrap ((a.toNat : Nat) : Int)).tmod ((ps.length : Nat) : Int) + 1) = ((u_trK a ps + 1 : Nat) : Int) := by
    rw [h3]
    unfold u_trK
    rw [wrap_sm (by omega) (by omega)]; omega
  exact h4
theorem tr_len {n : Nat} (h : n ≤ 12) : real.lenD (real.repD (real.nat (real.addi (real.int n) (real.int 1))) (real.dz .b)) = n + 1 := by
  rw [addi1 (by omega)]
  show (List.replicate (((n + 1 : Nat) : Int)).toNat _).length = n + 1
  rw [List.length_replicate]; omega
theorem tr_k1 (a : UInt8) {ps : List UInt8} (h0 : ¬ ps.length = 0) (h : ps.length ≤ 12) : real.pIn (real.addi (real.remi (real.wrapi (real.toI8 a)) (real.int (real.lenB ps))) (real.int 1)) (real.lenD (real.repD (real.nat (real.addi (real.int (real.lenB ps)) (real.int 1))) (real.dz .b))) := by
  rw [tr_kk a h0 h]
  have e := tr_len h
  rw [show real.lenB ps = ps.length from rfl, e]
  have := trK_lt a (Nat.pos_of_ne_zero h0)
  show (0 : Int) ≤ ((u_trK a ps + 1 : Nat) : Int) ∧ ((u_trK a ps + 1 : Nat) : Int) < ((ps.length + 1 : Nat) : Int)
  omega
theorem tr_k2 (a : UInt8) {ps : List UInt8} (h0 : ¬ ps.length = 0) (h : ps.length ≤ 12) : real.pLt (real.nat (real.addi (real.remi (real.wrapi (real.toI8 a)) (real.int (real.lenB ps))) (real.int 1))) (real.lenD (real.repD (real.nat (real.addi (real.int (real.lenB ps)) (real.int 1))) (real.dz .b))) := by
  rw [tr_kk a h0 h]
  have e := tr_len h
  rw [show real.lenB ps = ps.length from rfl, e]
  have := trK_lt a (Nat.pos_of_ne_zero h0)
  show (((u_trK a ps + 1 : Nat) : Int)).toNat < ps.length + 1
  omega
theorem tr_h0 (a : UInt8) {ps : List UInt8} (h0 : ¬ ps.length = 0) (h : ps.length ≤ 12) : real.setD (real.repD (real.nat (real.addi (real.int (real.lenB ps)) (real.int 1))) (real.dz .b)) (real.nat (real.addi (real.remi (real.wrapi (real.toI8 a)) (real.int (real.lenB ps))) (real.int 1))) (.b true) = us.trH ps (us.trK a ps) 0 := by
  rw [tr_kk a h0 h, addi1 (i := real.lenB ps) (by show ps.length ≤ _; omega)]
  exact trH_0 ps (trK_lt a (Nat.pos_of_ne_zero h0))
section
variable {ps : List UInt8} {k j : Nat}
theorem tr_r1 (h : j < ps.length) {i : Nat} : real.pIn (real.int (real.addn j 1)) (real.lenD (us.trH ps k i)) := by
  show (0 : Int) ≤ ((j + 1 : Nat) : Int) ∧ ((j + 1 : Nat) : Int) < (((u_trH ps k i).length : Nat) : Int)
  rw [trH_len]; omega
theorem tr_r2 (h : j < ps.length) {i : Nat} : real.pLt (real.nat (real.int (real.addn j 1))) (real.lenD (us.trH ps k i)) := by
  show (((j + 1 : Nat) : Int)).toNat < (u_trH ps k i).length
  rw [trH_len]; omega
theorem tr_m1 (h : j < ps.length) (h2 : ps.length ≤ 12) : real.subi (real.int (real.addn j 1)) (real.int 1) = ((j : Nat) : Int) := by
  show IntKind.i64.wrap (((j + 1 : Nat) : Int) - 1) = ((j : Nat) : Int)
  rw [wrap_sm (by omega) (by omega)]; omega
theorem tr_r3 (h : j < ps.length) (h2 : ps.length ≤ 12) : real.pIn (real.subi (real.int (real.addn j 1)) (real.int 1)) (real.lenI (us.trUp ps (real.lenB ps))) := by
  rw [tr_m1 h h2]
  show (0 : Int) ≤ ((j : Nat) : Int) ∧ ((j : Nat) : Int) < (((u_trUp ps ps.length).length : Nat) : Int)
  rw [trUp_len]; omega
theorem tr_r4 (h : j < ps.length) (h2 : ps.length ≤ 12) : real.pLt (real.nat (real.subi (real.int (real.addn j 1)) (real.int 1))) (real.lenI (us.trUp ps (real.lenB ps))) := by
  rw [tr_m1 h h2]
  show (((j : Nat) : Int)).toNat < (u_trUp ps ps.length).length
  rw [trUp_len]; omega
theorem tr_up (h : j < ps.length) (h2 : ps.length ≤ 12) : real.getI (us.trUp ps (real.lenB ps)) (real.nat (real.subi (real.int (real.addn j 1)) (real.int 1))) = u_trP ps j := by
  rw [tr_m1 h h2]
  exact trUp_get ps h
theorem tr_r5 (h : j < ps.length) (h2 : ps.length ≤ 12) {i : Nat} : real.pIn (real.getI (us.trUp ps (real.lenB ps)) (real.nat (real.subi (real.int (real.addn j 1)) (real.int 1)))) (real.lenD (us.trH ps k i)) := by
  rw [tr_up h h2]
  have := trP_r ps j
  show (0 : Int) ≤ u_trP ps j ∧ u_trP ps j < (((u_trH ps k i).length : Nat) : Int)
  rw [trH_len]; omega
theorem tr_r6 (h : j < ps.length) (h2 : ps.length ≤ 12) {i : Nat} : real.pLt (real.nat (real.getI (us.trUp ps (real.lenB ps)) (real.nat (real.subi (real.int (real.addn j 1)) (real.int 1))))) (real.lenD (us.trH ps k i)) := by
  rw [tr_up h h2]
  have := trP_r ps j
  show (u_trP ps j).toNat < (u_trH ps k i).length
  rw [trH_len]; omega
theorem tr_r7 (h : j < ps.length) {i a : Nat} {d : D} : real.pIn (real.int (real.addn j 1)) (real.lenD (real.setD (us.trH ps k i) a d)) := by
  show (0 : Int) ≤ ((j + 1 : Nat) : Int) ∧ ((j + 1 : Nat) : Int) < ((((u_trH ps k i).set a d).length : Nat) : Int)
  rw [List.length_set, trH_len]; omega
theorem tr_r8 (h : j < ps.length) {i a : Nat} {d : D} : real.pLt (real.nat (real.int (real.addn j 1))) (real.lenD (real.setD (us.trH ps k i) a d)) := by
  show (((j + 1 : Nat) : Int)).toNat < ((u_trH ps k i).set a d).length
  rw [List.length_set, trH_len]; omega
theorem tr_gj (h : j < ps.length) (i : Nat) : real.dB (real.getD (us.trH ps k i) (real.nat (real.int (real.addn j 1)))) = trW ps k i (j + 1) := by
  show ((u_trH ps k i).getD (j + 1) D.no).gb = _
  rw [trH_get ps k i (by omega)]; rfl
theorem tr_gu (h : j < ps.length) (h2 : ps.length ≤ 12) (i : Nat) : real.dB (real.getD (us.trH ps k i) (real.nat (real.getI (us.trUp ps (real.lenB ps)) (real.nat (real.subi (real.int (real.addn j 1)) (real.int 1)))))) = trW ps k i ((ps.getD j 0).toNat % (j + 1)) := by
  rw [tr_up h h2]
  have h3 : (ps.getD j 0).toNat % (j + 1) < j + 1 := Nat.mod_lt _ (Nat.succ_pos j)
  show ((u_trH ps k i).getD ((ps.getD j 0).toNat % (j + 1)) D.no).gb = _
  rw [trH_get ps k i (by omega)]; rfl
/-- the step where it was hit already -/
theorem tr_s1 (h : j < ps.length) (h2 : real.dB (real.getD (us.trH ps k j) (real.nat (real.int (real.addn j 1)))) = true) : real.setD (us.trH ps k j) (real.nat (real.int (real.addn j 1))) (.b true) = us.trH ps k (j + 1) ∧ trHit ps k j = true := by
  rw [tr_gj h] at h2
  have e : trHit ps k j = true := by rw [trW_up, h2]; rfl
  have q := trH_set ps k h
  rw [e] at q
  exact ⟨q, e⟩
/-- the step where it wasn't -/
theorem tr_s2 (h : j < ps.length) (hn : ps.length ≤ 12) (h2 : real.dB (real.getD (us.trH ps k j) (real.nat (real.int (real.addn j 1)))) = false) : real.setD (us.trH ps k j) (real.nat (real.int (real.addn j 1))) (.b (real.dB (real.getD (us.trH ps k j) (real.nat (real.getI (us.trUp ps (real.lenB ps)) (real.nat (real.subi (real.int (real.addn j 1)) (real.int 1)))))))) = us.trH ps k (j + 1) := by
  rw [tr_gj h] at h2
  rw [tr_gu h hn]
  have e : trHit ps k j = trW ps k j ((ps.getD j 0).toNat % (j + 1)) := by rw [trW_up, h2]; rfl
  have q := trH_set ps k h
  rw [e] at q
  exact q
theorem tr_hv (h : j < ps.length) {l : List D} (hl : l = us.trH ps k (j + 1)) : real.dB (real.getD l (real.nat (real.int (real.addn j 1)))) = trHit ps k j := by
  subst hl
  rw [tr_gj h, trW_end ps (by omega)]
theorem tr_cT (h : j < ps.length) (hn : ps.length ≤ 12) {l : List D} (hl : l = us.trH ps k (j + 1)) (hv : real.dB (real.getD l (real.nat (real.int (real.addn j 1)))) = true) : real.addi (real.int (us.trN ps k j)) (real.int 1) = real.int (us.trN ps k (j + 1)) := by
  rw [tr_hv h hl] at hv
  have h3 := trN_le ps k j
  have h4 := trN_s ps k j
  rw [if_pos hv] at h4
  show IntKind.i64.wrap (((u_trN ps k j : Nat) : Int) + 1) = ((u_trN ps k (j + 1) : Nat) : Int)
  rw [h4, wrap_sm (by omega) (by omega)]; omega
theorem tr_cF (h : j < ps.length) {l : List D} (hl : l = us.trH ps k (j + 1)) (hv : real.dB (real.getD l (real.nat (real.int (real.addn j 1)))) = false) : real.int (us.trN ps k j) = real.int (us.trN ps k (j + 1)) := by
  rw [tr_hv h hl] at hv
  have h4 := trN_s ps k j
  rw [if_neg (by rw [hv]; decide)] at h4
  show ((u_trN ps k j : Nat) : Int) = ((u_trN ps k (j + 1) : Nat) : Int)
  rw [h4]
end
theorem tr_x (a : UInt8) {ps : List UInt8} {i : Nat} (h0 : ¬ ps.length = 0) (hi : i < ps.length) (h : real.eqb (us.val (us.rvM (us.bk (us.trG ps) (real.lenB ps)) (real.int (real.addn (us.trK a ps) 1)) (real.int 5)) (real.int (real.addn i 1)) (real.int 5)) (real.dB (real.getD (us.trH ps (us.trK a ps) (real.lenB ps)) (real.nat (real.int (real.addn i 1))))) = true) : False := by
  rw [tr_gj hi, trW_end ps (show i < real.lenB ps from hi)] at h
  have e := tr_vl ps (trK_lt a (Nat.pos_of_ne_zero h0)) hi
  have h : (u_val (u_rvM (u_bk (u_trG ps) ps.length) (((u_trK a ps + 1 : Nat) : Int)) 5) (((i + 1 : Nat) : Int)) 5 == trHit ps (u_trK a ps) i) = true := h
  rw [show (((u_trK a ps + 1 : Nat) : Int)) = ((u_trK a ps : Nat) : Int) + 1 by omega, show (((i + 1 : Nat) : Int)) = (i : Int) + 1 by omega, e] at h
  cases hq : trHit ps (u_trK a ps) i <;> rw [hq] at h <;> cases h
theorem tr_eN (a : UInt8) {ps : List UInt8} (h0 : ¬ ps.length = 0) : real.eqi (us.rvN (us.bk (us.trG ps) (real.lenB ps)) (real.int (real.addn (us.trK a ps) 1)) (real.int 5)) (real.int (us.trN ps (us.trK a ps) (real.lenB ps))) = true := by
  have e := (tr_rv ps (trK_lt a (Nat.pos_of_ne_zero h0))).2
  show (u_rvN (u_bk (u_trG ps) ps.length) (((u_trK a ps + 1 : Nat) : Int)) 5 == ((u_trN ps (u_trK a ps) ps.length : Nat) : Int)) = true
  rw [show (((u_trK a ps + 1 : Nat) : Int)) = ((u_trK a ps : Nat) : Int) + 1 by omega, e]
  simp
theorem tr_eE (a : UInt8) {ps : List UInt8} (h0 : ¬ ps.length = 0) (h : real.eqi (us.rvE (us.bk (us.trG ps) (real.lenB ps)) (real.int (real.addn (us.trK a ps) 1)) (real.int 5)) (real.int 0) = false) : False := by
  have e := (tr_rv ps (trK_lt a (Nat.pos_of_ne_zero h0))).1
  have h : (u_rvE (u_bk (u_trG ps) ps.length) (((u_trK a ps + 1 : Nat) : Int)) 5 == (0 : Int)) = false := h
  rw [show (((u_trK a ps + 1 : Nat) : Int)) = ((u_trK a ps : Nat) : Int) + 1 by omega, e] at h
  cases h
noncomputable def s_token_Book_Valid_ro (F : Fs) (U : Us) : Vc.Spec := roSpec (s_token_Book_Valid F U)
theorem r_token_Book_Valid_ro : Ready Try.prog 20 := r_token_Book_Valid
theorem k_token_Book_Valid_ro : SpecOK Try.prog 20 (s_token_Book_Valid_ro real us) := ro_ok k_token_Book_Valid
attribute [local irreducible] u_val u_okT u_live u_mkE u_mkX u_mkN u_mkM u_rvE u_rvN u_rvM u_bk u_get u_has
end Go.Proofs.Ythjlhookepchgaa
namespace Go.Proofs.Ythjlhookepchgaa
open Go Go.Vc
noncomputable def sp_law20_TokenTrees (F : Fs) (U : Us) : Specs := [(15, s_law20_known F U), (16, s_token_New F U), (17, s_token_Book_Make F U), (20, s_token_Book_Valid_ro F U), (21, s_token_Book_Revoke F U)]
theorem ok_law20_TokenTrees : SpecsOK Try.prog (sp_law20_TokenTrees real us) := sp_cons r_law20_known k_law20_known (sp_cons r_token_New k_token_New (sp_cons r_token_Book_Make k_token_Book_Make (sp_cons r_token_Book_Valid_ro k_token_Book_Valid_ro (sp_cons r_token_Book_Revoke k_token_Book_Revoke sp_nil))))
noncomputable def an_law20_TokenTrees (F : Fs) (U : Us) (ps : List UInt8) (at_ : UInt8) : Anns := [(8, ⟨Nat, fun i => i ≤ F.lenB ps ∧ F.lenB ps ≤ 12, fun i => F.addn (F.subn (F.lenB ps) i) 40, fun i => ⟨[(0, .rb 1 (.bt ps)), (1, .w8 at_), (5, .p 5 0 0), (6, .rw 7), (7, .i (F.int i))], [(5, 5, .bk 103 [(1, .vs [.mh 6]), (1, .vs [.i (U.nx i)])]), (999, 6, .mp 101 .i (.t [.i, .i, .i, .ss, .s]) (U.bk (U.trG ps) i)), (6, 7, .row 3 1 (.is (U.trUp ps i)))]⟩⟩), (20, ⟨Nat, fun i => i ≤ F.lenB ps ∧ F.lenB ps ≤ 12, fun i => F.addn (F.subn (F.lenB ps) i) 20, fun i => ⟨[(0, .rb 1 (.bt ps)), (5, .p 5 0 0), (6, .rw 7), (11, .i (F.int (F.addn (U.trK at_ ps) 1))), (12, .rw 8), (13, .i (F.int (U.trN ps (U.trK at_ ps) i))), (14, .i (F.int (F.addn i 1)))], [(5, 5, .bk 103 [(1, .vs [.mh 6]), (1, .vs [.i (U.nx (F.lenB ps))])]), (999, 6, .mp 101 .i (.t [.i, .i, .i, .ss, .s]) (U.bk (U.trG ps) (F.lenB ps))), (6, 7, .row 3 1 (.is (U.trUp ps (F.lenB ps)))), (12, 8, .row 4 1 (.ds .b (U.trH ps (U.trK at_ ps) i)))]⟩⟩), (27, ⟨Nat, fun i => i ≤ F.lenB ps ∧ F.lenB ps ≤ 12, fun i => F.subn (F.lenB ps) i, fun i => ⟨[(0, .rb 1 (.bt ps)), (5, .p 5 0 0), (12, .rw 8), (13, .i (F.int (U.trN ps (U.trK at_ ps) (F.lenB ps)))), (15, .i (U.rvN (U.bk (U.trG ps) (F.lenB ps)) (F.int (F.addn (U.trK at_ ps) 1)) (F.int 5))), (16, .i (U.rvE (U.bk (U.trG ps) (F.lenB ps)) (F.int (F.addn (U.trK at_ ps) 1)) (F.int 5))), (17, .i (F.int (F.addn i 1)))], [(5, 5, .bk 103 [(1, .vs [.mh 6]), (1, .vs [.i (U.nx (F.lenB ps))])]), (999, 6, .mp 101 .i (.t [.i, .i, .i, .ss, .s]) (U.rvM (U.bk (U.trG ps) (F.lenB ps)) (F.int (F.addn (U.trK at_ ps) 1)) (F.int 5))), (12, 8, .row 4 1 (.ds .b (U.trH ps (U.trK at_ ps) (F.lenB ps))))]⟩⟩)]
noncomputable def x_law20_TokenTrees (F : Fs) (U : Us) : Cx := ⟨Try.f5.ntmps, tt3 F, sp_law20_TokenTrees F U, [], [(29, ([(5, [2]), (6, [2])], []))], [], []⟩
theorem c_law20_TokenTrees (ps : List UInt8) (at_ : UInt8) (q0 : ps.length ≤ 9223372036854775807) : vc real (x_law20_TokenTrees real us) (an_law20_TokenTrees real us ps at_) [] (Try.f5.body.getD .skip) ⟨zipSl 0 [.rb 1 (.bt ps), .w8 at_], [], 64⟩ (retOk real (tt3 real) false Try.f5.results.toList [.val (.b true)]) := by
  generalize hU : us = U
  generalize hF : real = F
  cbv
  repeat' first | apply And.intro | refine Classical.or_iff_not_imp_left.2 (fun _ => ?_) | exact trivial
  · rename_i h; subst hF hU; exact absurd rfl h
  · refine ⟨(0 : Nat), ?_⟩
    cbv
    subst hF hU
    have h10 : ps.length ≤ 12 := ge_g (j := 12) (by assumption)
    exact ⟨⟨Nat.zero_le _, h10⟩, ⟨⟨rfl, trivial⟩, trivial⟩, tr_b0 ps, rfl, trivial⟩
  · intro (i : Nat) hi
    replace hi : i ≤ F.lenB ps ∧ F.lenB ps ≤ 12 := hi
    have h0 : ¬ F.lenB ps = 0 := by subst hF hU; exact eq_g (by assumption)
    cbv
    repeat' first | apply And.intro | refine Classical.or_iff_not_imp_left.2 (fun _ => ?_) | exact trivial
    · subst hF hU; exact inF rfl (lt_g (by assumption))
    · subst hF hU; exact tr_ne i (Nat.le_trans hi.1 hi.2)
    · subst hF hU; exact tr_ok ps (Nat.le_trans hi.1 hi.2)
    · subst hF hU; exact tr_in (Nat.le_trans hi.1 hi.2)
    · exfalso
      subst hF hU
      have hlt : i < ps.length := lt_g (by assumption)
      have hi2 : ps.length ≤ 12 := hi.2
      obtain ⟨q1, q2, q3, q4⟩ := tr_mk ps (i := i) (by omega)
      have wp := tr_p ps (i := i) (by omega)
      have w1 : IntKind.i64.wrap ((i : Int) + 1) = (i : Int) + 1 := wrap_sm (by omega) (by omega)
      rw [w1] at wp
      simp only [real, us, Int.cast_ofNat_Int, w1, Int.toNat_natCast, wp, q1, q2] at *
      simp_all
    · subst hF hU
      have hlt : i < ps.length := lt_g (by assumption)
      have hi2 : ps.length ≤ 12 := hi.2
      have := trUp_len ps i
      show ((u_trUp ps i).length + 1) * 8 ≤ 140737488355328 ∧ (u_trUp ps i).length + 1 ≤ 4611686018427387904
      omega
    · refine ⟨(i + 1 : Nat), ?_⟩
      cbv
      subst hF hU
      have hlt : i < ps.length := lt_g (by assumption)
      have hi2 : ps.length ≤ 12 := hi.2
      have wp := tr_p ps (i := i) (by omega)
      exact ⟨⟨hlt, hi2⟩, mu_step hlt, ⟨addi1 (by omega), trivial⟩, ⟨⟨tr_N ps (by omega) wp, trivial⟩, trivial⟩, tr_M ps (by omega) wp, tr_U ps i wp, trivial⟩
    · exfalso
      subst hF hU
      have hlt : i < ps.length := lt_g (by assumption)
      have hi2 : ps.length ≤ 12 := hi.2
      obtain ⟨q1, q2, q3, q4⟩ := tr_mk ps (i := i) (by omega)
      have wp := tr_p ps (i := i) (by omega)
      have w1 : IntKind.i64.wrap ((i : Int) + 1) = (i : Int) + 1 := wrap_sm (by omega) (by omega)
      rw [w1] at wp
      simp only [real, us, Int.cast_ofNat_Int, w1, Int.toNat_natCast, wp, q1, q2] at *
      simp_all
    · subst hF hU; exact fun e => h0 (Int.ofNat_inj.1 e)
    · subst hF hU; exact (tr_c hi.2).1
    · subst hF hU; exact Int.le_refl _
    · subst hF hU; exact (tr_c hi.2).2
    · subst hF hU; exact tr_k1 at_ h0 hi.2
    · subst hF hU; exact tr_k2 at_ h0 hi.2
    all_goals (
      have hge : F.lenB ps ≤ i := by subst hF hU; exact ge_g (by assumption)
      have e : i = F.lenB ps := by subst hF hU; exact Nat.le_antisymm hi.1 hge
      subst e)
    · refine ⟨(0 : Nat), ?_⟩
      cbv
      subst hF hU
      exact ⟨⟨Nat.zero_le _, hi.2⟩, ⟨tr_kk at_ h0 hi.2, rfl, rfl, trivial⟩, tr_h0 at_ h0 hi.2, trivial⟩
    · intro (j : Nat) hj
      replace hj : j ≤ F.lenB ps ∧ F.lenB ps ≤ 12 := hj
      cbv
      repeat' first | apply And.intro | refine Classical.or_iff_not_imp_left.2 (fun _ => ?_) | exact trivial
      all_goals first
        | (have hlt : j < F.lenB ps := by subst hF hU; exact le_g (a := j + 1) (by assumption)
           first
             | (subst hF hU; exact tr_r1 hlt)
             | (subst hF hU; exact tr_r2 hlt)
             | (subst hF hU; exact tr_r3 hlt hi.2)
             | (subst hF hU; exact tr_r4 hlt hi.2)
             | (subst hF hU; exact tr_r5 hlt hi.2)
             | (subst hF hU; exact tr_r6 hlt hi.2)
             | (subst hF hU; exact tr_r7 hlt)
             | (subst hF hU; exact tr_r8 hlt)
             | (refine ⟨(j + 1 : Nat), ?_⟩
                cbv
                subst hF hU
                have w := addi1 (i := j + 1) (by have h5 : ps.length ≤ 12 := hi.2; have h6 : j < ps.length := hlt; omega)
                first
                  | (have hs := (tr_s1 (k := u_trK at_ ps) hlt (p_t (by assumption))).1
                     first
                       | exact ⟨⟨hlt, hi.2⟩, mu_step hlt, ⟨tr_cT hlt hi.2 hs (p_t (by assumption)), w, trivial⟩, hs, trivial⟩
                       | exact ⟨⟨hlt, hi.2⟩, mu_step hlt, ⟨tr_cF hlt hs (p_f (by assumption)), w, trivial⟩, hs, trivial⟩)
                  | (have hs := tr_s2 (k := u_trK at_ ps) hlt hi.2 (p_f (by assumption))
                     first
                       | exact ⟨⟨hlt, hi.2⟩, mu_step hlt, ⟨tr_cT hlt hi.2 hs (p_t (by assumption)), w, trivial⟩, hs, trivial⟩
                       | exact ⟨⟨hlt, hi.2⟩, mu_step hlt, ⟨tr_cF hlt hs (p_f (by assumption)), w, trivial⟩, hs, trivial⟩)))
        | (subst hF hU; exact tr_ok ps hi.2)
        | skip
      all_goals (
        have hge : F.lenB ps ≤ j := by subst hF hU; exact Nat.le_of_lt_succ (gt_g (a := j + 1) (by assumption))
        have e : j = F.lenB ps := by subst hF hU; exact Nat.le_antisymm hj.1 hge
        subst e)
      · refine ⟨(0 : Nat), ?_⟩
        cbv
        subst hF hU
        exact ⟨⟨Nat.zero_le _, hi.2⟩, ⟨rfl, trivial⟩, trivial⟩
      · intro (i : Nat) hi3
        replace hi3 : i ≤ F.lenB ps ∧ F.lenB ps ≤ 12 := hi3
        cbv
        repeat' first | apply And.intro | refine Classical.or_iff_not_imp_left.2 (fun _ => ?_) | exact trivial
        · have hlt : i < F.lenB ps := by subst hF hU; exact le_g (a := i + 1) (by assumption)
          subst hF hU; exact tr_r1 hlt
        · have hlt : i < F.lenB ps := by subst hF hU; exact le_g (a := i + 1) (by assumption)
          subst hF hU; exact tr_r2 hlt
        · exfalso
          have hlt : i < F.lenB ps := by subst hF hU; exact le_g (a := i + 1) (by assumption)
          subst hF hU
          exact tr_x at_ h0 hlt (p_t (by assumption))
        · have hlt : i < F.lenB ps := by subst hF hU; exact le_g (a := i + 1) (by assumption)
          refine ⟨(i + 1 : Nat), ?_⟩
          cbv
          subst hF hU
          have w := addi1 (i := i + 1) (by have h5 : ps.length ≤ 12 := hi.2; have h6 : i < ps.length := hlt; omega)
          exact ⟨⟨hlt, hi.2⟩, sub_stepN hlt, ⟨w, trivial⟩, trivial⟩
        · subst hF hU
          exact tr_eN at_ h0
        · exfalso
          subst hF hU
          exact tr_eE at_ h0 (p_f (by assumption))
end Go.Proofs.Ythjlhookepchgaa
namespace Go.Proofs.Ythjlhookepchgaa.tokenTrees
open Go.ChangeShapes Go.WideShapes Go.ChangeAt Go.RowKit
set_option linter.unusedVariables false
theorem own : ownKnob Try.prog.godebug = none := by kernel_rfl
theorem laidOut : laidOutB Try.prog = true := p_laidOut
set_option maxRecDepth 100000 in
theorem lifted (os : Os) (started : os.Started) (H : Type) (enc : TypeId × Value → H) :
    ReturnsInHanded {} Try.checked os 5 .any (Rows.tokenTreesSpec.pre6 enc Try.prog Try.f5 Rows.tokenTreesRow.domain false) (Rows.tokenTreesSpec.post enc Try.prog Try.f5 false true false false) := by
  refine returnsInHanded_of_change_shaped (C := Try.checked) own started (by kernel_rfl) Try.func5
    (ChangeSpec.witness6 (enc := enc) (C := Try.checked) false ⟨#[], #[.slice none 0 0, .int .u8 0], []⟩ 8 (by kernel_rfl) (by kernel_rfl) (by kernel_rfl) (by kernel_rfl)) ?_
  intro W base args ds gs before hval0 hW hcnd hrch hsh _
  have hval : ∀ (j : Nat) t v, Try.f5.params[j]? = some t → args[j]? = some v → Value.okWide Try.prog W .any base t v := hval0
  have hW' := hW
  obtain ⟨p, q, hA0, hV, rfl, hfz, hnd⟩ := hW
  have hA : DataW.TrodAll enc Try.prog W 0 (fun _ => true) true Try.f5.params.toList args.toList ds p := hA0
  rw [Try.params5] at hA hval
  obtain ⟨v0, vs0, d0, ds0, p0, q0, hargs, rfl, rfl, h0, r0⟩ := trodAll_cons hA
  obtain ⟨v1, vs1, d1, ds1, p1, q1, rfl, rfl, rfl, h1, r1⟩ := trodAll_cons r0
  obtain ⟨rfl, rfl, rfl⟩ := trodAll_nil r1
  obtain rfl : args = #[v0, v1] := by cases args; simp_all
  obtain ⟨rfl, rfl⟩ := trodVars_none hV
  obtain ⟨ps, k0, q0⟩ := Go.Vc.openL8 Try.underlying41 Try.underlying5 (by kernel_rfl) (hval 0 41 v0 rfl rfl) h0
  obtain ⟨at_, k1⟩ := Go.Vc.open8 Try.underlying5 (hval 1 5 v1 rfl rfl) h1
  clear hA0 hval0
  refine (Go.Vc.law_walk2 (x := x_law20_TokenTrees Go.Vc.real us) (an := (an_law20_TokenTrees Go.Vc.real us ps at_)) (cu := []) (l := [.rb 1 (.bt ps), .w8 at_]) (vals := [v0, v1]) ⟨tt3_ok, ok_law20_TokenTrees, Go.Vc.ks_nil⟩ mixed Try.func5 rfl rfl (by kernel_rfl) hsh (Nat.le_of_ble_eq_true rfl) (Go.Vc.rvs_cons k0 (Go.Vc.rvs_cons k1 Go.Vc.rvs_nil)) (c_law20_TokenTrees ps at_ q0)).mono fun e W' ⟨he, bel⟩ => ?_
  subst he
  exact ⟨_, rfl, Go.Vc.post_true (tb := 4) laidOut (by kernel_rfl) rfl Try.underlying4 rfl hW' rfl bel⟩
theorem over : Rows.tokenTreesRow.holds Try.pinned (OpenSpec.ofChange Rows.tokenTreesSpec) :=
  OpenClaim.holds_of_wide 5 Try.f5 rfl rfl rfl rfl rfl rfl rfl ⟨rfl, rfl, rfl, rfl, rfl⟩ rfl rfl rfl rfl rfl (by kernel_rfl) Try.func5 (Go.Vc.joined_of p_laidOut p_maps p_stops p_knobs p_heard p_mayEnter p_lifts p_make rfl rfl (by kernel_rfl) (by kernel_rfl) (by kernel_rfl) (by kernel_rfl) (by kernel_rfl) (by kernel_rfl) (by kernel_rfl) (by kernel_rfl) (by kernel_rfl) (by kernel_rfl) (by kernel_rfl) (by kernel_rfl) (by kernel_rfl) (by kernel_rfl) (by kernel_rfl) (by kernel_rfl) (by kernel_rfl) (by kernel_rfl) (by kernel_rfl) (by kernel_rfl) (by kernel_rfl) (by kernel_rfl) (by kernel_rfl) (by kernel_rfl) )
    (of_decide_eq_true (by kernel_rfl)) (by unfold Func.isWrapper; first | (rw [if_pos (by decide +kernel)]; kernel_rfl) | (rw [if_neg (by decide +kernel)]; exact ⟨rfl, rfl⟩))
    (fun os started H enc _ => lifted os started H enc)
theorem proved : Rows.TokenTreesSaid := over
#print axioms proved
end Go.Proofs.Ythjlhookepchgaa.tokenTrees

