/- The given statement is proved: for every input the law's function answers true. No condition. -/
import Derived.Test.YthhgmjclmdggjaaRows
import Derived.Test.YthhgmjclmdggjaaPart5
import Derived.WalkKit
import Derived.HandedShaped
import Derived.ProofKit
import Derived.OpenShut
import Derived.ShutString
set_option linter.unusedVariables false
set_option linter.unusedSimpArgs false
set_option maxRecDepth 100000
set_option maxHeartbeats 1000000
namespace Go.Proofs.Ythhgmjclmdggjaa
open Go Go.Vc
theorem x6_ok : u_ok x6 ⟨[], 0⟩ := ok_new (by decide) 0
theorem ch_ok1 (l : List Bool) : ∀ i, u_ok x6 (u_chM1 l i)
  | 0 => x6_ok
  | i + 1 => by
    rw [u_chM1]
    split
    · exact ok_wM (ch_ok1 l i)
    · exact ch_ok1 l i
theorem chS_le (l : List Bool) : ∀ i, u_chS l i ≤ i
  | 0 => Nat.le_refl _
  | i + 1 => by
    have := chS_le l i
    rw [u_chS]
    split <;> omega
theorem chX_len (l : List Bool) : (u_chX l).length = 6 := fX_len _ _ _ _
theorem ch_ok2 (l w : List Bool) : ∀ i, u_ok (u_chX l) (u_chM2 l w i)
  | 0 => ok_fl (ch_ok1 l 6)
  | i + 1 => by
    rw [u_chM2]
    split
    · exact ok_wM (ch_ok2 l w i)
    · exact ch_ok2 l w i
theorem bd_get (l : List Bool) (i : Nat) : real.dB (real.getD (us.bD l) (real.nat (real.int i))) = l.getD i false := by
  show ((l.map D.b).getD i D.no).gb = _
  rw [List.getD_eq_getElem?_getD, List.getElem?_map, List.getD_eq_getElem?_getD]
  cases l[i]? <;> rfl
theorem bd_t {l : List Bool} {i : Nat} (h : ¬ real.pB (real.dB (real.getD (us.bD l) (real.nat (real.int i)))) false) : l.getD i false = true := by
  rw [bd_get] at h; exact p_t h
theorem bd_f {l : List Bool} {i : Nat} (h : ¬ real.pB (real.dB (real.getD (us.bD l) (real.nat (real.int i)))) true) : ¬ l.getD i false = true := by
  rw [bd_get] at h; exact h
theorem bn_t {l : List Bool} {i : Nat} (h : ¬ real.pB (real.notb (real.dB (real.getD (us.bD l) (real.nat (real.int i))))) false) : ¬ l.getD i false = true := by
  rw [bd_get] at h; rw [n_t h]; decide
theorem bn_f {l : List Bool} {i : Nat} (h : ¬ real.pB (real.notb (real.dB (real.getD (us.bD l) (real.nat (real.int i))))) true) : l.getD i false = true := by
  rw [bd_get] at h; exact n_f h
theorem chS_t {l : List Bool} {i : Nat} (h : l.getD i false = true) : u_chS l (i + 1) = u_chS l i + 1 := by rw [u_chS, if_pos h]
theorem chS_f {l : List Bool} {i : Nat} (h : ¬ l.getD i false = true) : u_chS l (i + 1) = u_chS l i := by rw [u_chS, if_neg h]
theorem ch_st {l : List Bool} {i : Nat} (hi : i < 6) (h : l.getD i false = true) : real.addi (real.int (us.chS1 l i)) (real.int 1) = real.int (us.chS1 l (i + 1)) := by
  have := chS_le l i
  refine (addi1 (i := u_chS l i) (by omega)).trans ?_
  exact congrArg real.int (chS_t h).symm
theorem ch_st2 {l w : List Bool} {i : Nat} (hi : i < 6) (h : w.getD i false = true) : real.addi (real.int (us.chS2 l w i)) (real.int 1) = real.int (us.chS2 l w (i + 1)) := by
  have h1 := chS_le l 6
  have h2 := chS_le w i
  refine (addi1 (i := u_chS2 l w i) (by unfold u_chS2; omega)).trans ?_
  show real.int _ = real.int (u_chS2 l w (i + 1))
  unfold u_chS2
  rw [chS_t h]; rfl
theorem ch_st2f {l w : List Bool} {i : Nat} (h : ¬ w.getD i false = true) : us.chS2 l w i = us.chS2 l w (i + 1) := by
  show u_chS2 l w i = u_chS2 l w (i + 1)
  unfold u_chS2
  rw [chS_f h]
theorem ch_m1t {l : List Bool} {i : Nat} (h : l.getD i false = true) : us.wM (real.int (us.chS1 l i)) 0 (real.repD (us.nlen (real.int 6)) (real.dz (.l8 64))) (us.chM1 l i) (real.int i) [real.ofI8 (real.int 1)] = us.chM1 l (i + 1) := by
  show _ = u_chM1 l (i + 1)
  rw [u_chM1, if_pos h]; rfl
theorem ch_m1f {l : List Bool} {i : Nat} (h : ¬ l.getD i false = true) : us.chM1 l i = us.chM1 l (i + 1) := by
  show _ = u_chM1 l (i + 1)
  rw [u_chM1, if_neg h]; rfl
theorem ch_m2t {l w : List Bool} {i : Nat} (h : w.getD i false = true) : us.wM (real.int (us.chS2 l w i)) 0 (us.chX l) (us.chM2 l w i) (real.int i) [real.ofI8 (real.int 2)] = us.chM2 l w (i + 1) := by
  show _ = u_chM2 l w (i + 1)
  rw [u_chM2, if_pos h]; rfl
theorem ch_m2f {l w : List Bool} {i : Nat} (h : ¬ w.getD i false = true) : us.chM2 l w i = us.chM2 l w (i + 1) := by
  show _ = u_chM2 l w (i + 1)
  rw [u_chM2, if_neg h]; rfl
theorem ch_ct {w c : List Bool} {i : Nat} (h : w.getD i false = true) (g : c.getD i false = true) : real.appB (us.chC w c i) [real.ofI8 (real.int 255)] = us.chC w c (i + 1) := by
  show _ = u_chC w c (i + 1)
  rw [u_chC, if_pos h, if_pos g]; rfl
theorem ch_cf {w c : List Bool} {i : Nat} (h : w.getD i false = true) (g : ¬ c.getD i false = true) : real.appB (us.chC w c i) [real.ofI8 (real.int 0)] = us.chC w c (i + 1) := by
  show _ = u_chC w c (i + 1)
  rw [u_chC, if_pos h, if_neg g]; rfl
theorem ch_cn {w c : List Bool} {i : Nat} (h : ¬ w.getD i false = true) : us.chC w c i = us.chC w c (i + 1) := by
  show _ = u_chC w c (i + 1)
  rw [u_chC, if_neg h]; rfl
theorem ch_wa {l w c : List Bool} {i : Nat} (hl : l.getD i false = true) (h : w.getD i false = true) (g : c.getD i false = true) : real.setB (real.setB (us.chW l w c i) (real.nat (real.int i)) (real.ofI8 (real.int 1))) (real.nat (real.int i)) (real.ofI8 (real.int 2)) = us.chW l w c (i + 1) := by
  show _ = u_chW l w c (i + 1)
  rw [u_chW, if_pos ⟨h, g⟩, if_pos hl]; rfl
theorem ch_wb {l w c : List Bool} {i : Nat} (hl : l.getD i false = true) (h : ¬ (w.getD i false = true ∧ c.getD i false = true)) : real.setB (us.chW l w c i) (real.nat (real.int i)) (real.ofI8 (real.int 1)) = us.chW l w c (i + 1) := by
  show _ = u_chW l w c (i + 1)
  rw [u_chW, if_neg h, if_pos hl]; rfl
theorem ch_wc {l w c : List Bool} {i : Nat} (hl : ¬ l.getD i false = true) (h : w.getD i false = true) (g : c.getD i false = true) : real.setB (us.chW l w c i) (real.nat (real.int i)) (real.ofI8 (real.int 2)) = us.chW l w c (i + 1) := by
  show _ = u_chW l w c (i + 1)
  rw [u_chW, if_pos ⟨h, g⟩, if_neg hl]; rfl
theorem ch_wd {l w c : List Bool} {i : Nat} (hl : ¬ l.getD i false = true) (h : ¬ (w.getD i false = true ∧ c.getD i false = true)) : us.chW l w c i = us.chW l w c (i + 1) := by
  show _ = u_chW l w c (i + 1)
  rw [u_chW, if_neg h, if_neg hl]; rfl
theorem ch_clen (w c : List Bool) : ∀ i, (u_chC w c i).length ≤ i
  | 0 => Nat.le_refl _
  | i + 1 => by
    have := ch_clen w c i
    rw [u_chC]
    split
    · rw [List.length_append]; simp; omega
    · omega
theorem ch_cap (w c : List Bool) {i : Nat} (hi : i < 6) (x : UInt8) : real.pCap (real.addn (real.lenB (us.chC w c i)) (real.lenB [x])) 1 := by
  have := ch_clen w c i
  show ((u_chC w c i).length + 1) * 1 ≤ 140737488355328 ∧ (u_chC w c i).length + 1 ≤ 4611686018427387904
  omega
theorem ch_wlen (l w c : List Bool) : ∀ i, (u_chW l w c i).length = 6
  | 0 => by simp [u_chW]
  | i + 1 => by
    have := ch_wlen l w c i
    rw [u_chW]
    split <;> split <;> simp [this]
def z63 : List UInt8 := List.replicate 63 0
theorem ch_f1 (l : List Bool) : ∀ n, n ≤ 6 → ∀ k : Nat, MD.find (u_chM1 l n).es (.i (k : Int)) = if k < n ∧ l.getD k false = true then some (.l8 (1 :: z63)) else none
  | 0, _, k => by rw [if_neg (by omega)]; rfl
  | n + 1, hn, k => by
    have ih := ch_f1 l n (by omega)
    rw [u_chM1]
    by_cases h : l.getD n false = true
    · rw [if_pos h, find_wM (by show n < 6; omega) (by decide)]
      have hnow : u_now x6 (u_chM1 l n) ((n : Nat) : Int) = List.replicate 64 0 := by
        rw [now_eq, ih n, if_neg (by omega)]
        show (x6.getD n D.no).gl8 = _
        unfold x6
        rw [List.getD_eq_getElem?_getD, List.getElem?_replicate, if_pos (by omega)]
        rfl
      by_cases e : k = n
      · subst e
        rw [if_pos rfl, if_pos ⟨by omega, h⟩, hnow]; rfl
      · rw [if_neg e, ih k]
        by_cases g : k < n ∧ l.getD k false = true
        · rw [if_pos g, if_pos ⟨by omega, g.2⟩]
        · rw [if_neg g, if_neg (by intro q; exact g ⟨by omega, q.2⟩)]
    · rw [if_neg h, ih k]
      by_cases g : k < n ∧ l.getD k false = true
      · rw [if_pos g, if_pos ⟨by omega, g.2⟩]
      · rw [if_neg g, if_neg (by
          intro q
          by_cases e : k = n
          · subst e; exact h q.2
          · exact g ⟨by omega, q.2⟩)]
theorem ch_x (l : List Bool) {k : Nat} (hk : k < 6) : (u_chX l).getD k D.no = if l.getD k false = true then .l8 (1 :: z63) else z64 := by
  unfold u_chX
  rw [fX_0, flush_get (by show k < 6; exact hk), ch_f1 l 6 (Nat.le_refl _) k]
  by_cases h : l.getD k false = true
  · rw [if_pos ⟨hk, h⟩, if_pos h]; rfl
  · rw [if_neg (fun q => h q.2), if_neg h]
    show x6.getD k D.no = _
    unfold x6
    rw [List.getD_eq_getElem?_getD, List.getElem?_replicate, if_pos (by omega)]
    rfl
theorem ch_f2 (l w : List Bool) : ∀ n, n ≤ 6 → ∀ k : Nat, MD.find (u_chM2 l w n).es (.i (k : Int)) = if k < n ∧ w.getD k false = true then some (.l8 (2 :: z63)) else none
  | 0, _, k => by
    rw [if_neg (by omega)]
    show MD.find (u_fM _ 0 _).es _ = none
    rw [fM_0]; rfl
  | n + 1, hn, k => by
    have ih := ch_f2 l w n (by omega)
    rw [u_chM2]
    by_cases h : w.getD n false = true
    · rw [if_pos h, find_wM (by rw [chX_len]; omega) (by decide)]
      have hnow : (u_now (u_chX l) (u_chM2 l w n) ((n : Nat) : Int)).drop 1 = z63 := by
        rw [now_eq, ih n, if_neg (by omega)]
        show ((u_chX l).getD n D.no).gl8.drop 1 = _
        rw [ch_x l (by omega)]
        split <;> rfl
      by_cases e : k = n
      · subst e
        rw [if_pos rfl, if_pos ⟨by omega, h⟩]
        show some (D.l8 ([2] ++ (u_now (u_chX l) (u_chM2 l w k) ((k : Nat) : Int)).drop 1)) = _
        rw [hnow]; rfl
      · rw [if_neg e, ih k]
        by_cases g : k < n ∧ w.getD k false = true
        · rw [if_pos g, if_pos ⟨by omega, g.2⟩]
        · rw [if_neg g, if_neg (by intro q; exact g ⟨by omega, q.2⟩)]
    · rw [if_neg h, ih k]
      by_cases g : k < n ∧ w.getD k false = true
      · rw [if_pos g, if_pos ⟨by omega, g.2⟩]
      · rw [if_neg g, if_neg (by
          intro q
          by_cases e : k = n
          · subst e; exact h q.2
          · exact g ⟨by omega, q.2⟩)]
def wl (w : List Bool) : Nat → List Int
  | 0 => []
  | n + 1 => if w.getD n false = true then wl w n ++ [(n : Int)] else wl w n
theorem wl_lt (w : List Bool) : ∀ n, ∀ x ∈ wl w n, 0 ≤ x ∧ x < (n : Int)
  | 0, x, h => by simp [wl] at h
  | n + 1, x, h => by
    rw [wl] at h
    split at h
    · simp only [List.mem_append, List.mem_singleton] at h
      rcases h with h | rfl
      · have := wl_lt w n x h; omega
      · omega
    · have := wl_lt w n x h; omega
theorem wl_sorted (w : List Bool) : ∀ n, (wl w n).Pairwise (fun x y => decide (x ≤ y) = true)
  | 0 => List.Pairwise.nil
  | n + 1 => by
    rw [wl]
    split
    · rw [List.pairwise_append]
      refine ⟨wl_sorted w n, by simp, fun a ha b hb => ?_⟩
      simp only [List.mem_singleton] at hb
      subst hb
      have := wl_lt w n a ha
      exact decide_eq_true (by omega)
    · exact wl_sorted w n
theorem ch_es (l w : List Bool) : ∀ n, n ≤ 6 → (u_chM2 l w n).es.map (fun e => e.2.1.gi) = wl w n
  | 0, _ => by
    show (u_fM _ 0 _).es.map _ = _
    rw [fM_0]; rfl
  | n + 1, hn => by
    rw [u_chM2, wl]
    by_cases h : w.getD n false = true
    · rw [if_pos h, if_pos h, wM_ok (wE_0 (by rw [chX_len]; omega) (by decide))]
      have hf := ch_f2 l w n (by omega) n
      rw [if_neg (by omega)] at hf
      unfold MD.set MD.has
      rw [hf]
      simp only [Option.isSome_none, Bool.false_eq_true, if_false]
      rw [List.map_append, ch_es l w n (by omega)]
      rfl
    · rw [if_neg h, if_neg h]; exact ch_es l w n (by omega)
theorem ch_keys (l w : List Bool) : (u_chM2 l w 6).keysI = wl w 6 := by
  unfold MD.keysI
  rw [ch_es l w 6 (Nat.le_refl _)]
  exact List.mergeSort_of_pairwise (wl_sorted w 6)
theorem ch_c (w c : List Bool) : ∀ n, u_chC w c n = (wl w n).map fun i => if c.getD i.toNat false = true then 255 else 0
  | 0 => rfl
  | n + 1 => by
    rw [u_chC, wl]
    split
    · rw [ch_c w c n, List.map_append]; rfl
    · exact ch_c w c n
theorem ch_w (l w c : List Bool) {k : Nat} (hk : k < 6) : ∀ n, (u_chW l w c n).getD k 0 = if k < n then (if w.getD k false = true ∧ c.getD k false = true then 2 else if l.getD k false = true then 1 else 0) else 0
  | 0 => by
    rw [if_neg (by omega), u_chW, List.getD_eq_getElem?_getD, List.getElem?_replicate, if_pos hk]; rfl
  | n + 1 => by
    have ih := ch_w l w c hk n
    have hlen := ch_wlen l w c n
    have hset : ∀ (x : UInt8) (L : List UInt8), L.length = 6 → (L.set n x).getD k 0 = if n = k then x else L.getD k 0 := by
      intro x L hL
      rw [List.getD_eq_getElem?_getD, List.getElem?_set]
      by_cases e : n = k
      · subst e; rw [if_pos rfl, if_pos rfl, if_pos (by omega)]; rfl
      · rw [if_neg e, if_neg e, List.getD_eq_getElem?_getD]
    rw [u_chW]
    by_cases e : n = k
    · subst e
      rw [if_neg (by omega)] at ih
      rw [if_pos (show n < n + 1 by omega)]
      by_cases h1 : w.getD n false = true ∧ c.getD n false = true
      · rw [if_pos h1, if_pos h1, hset _ _ (by split <;> simp [hlen]), if_pos rfl]
      · rw [if_neg h1, if_neg h1]
        by_cases h2 : l.getD n false = true
        · rw [if_pos h2, if_pos h2, hset _ _ hlen, if_pos rfl]
        · rw [if_neg h2, if_neg h2]; exact ih
    · have hlt : (k < n + 1) = (k < n) := by apply propext; omega
      have hw1 : (if l.getD n false = true then (u_chW l w c n).set n 1 else u_chW l w c n).getD k 0 = (u_chW l w c n).getD k 0 := by
        split
        · rw [hset _ _ hlen, if_neg e]
        · rfl
      simp only [hlt]
      by_cases h1 : w.getD n false = true ∧ c.getD n false = true
      · rw [if_pos h1, hset _ _ (by split <;> simp [hlen]), if_neg e, hw1]; exact ih
      · rw [if_neg h1, hw1]; exact ih
theorem ch_fin (l w c : List Bool) {i : Nat} (hi : i < 6) : (u_now (u_cX (u_chX l) (u_chM2 l w 6) (u_chC w c 6)) ⟨[], (u_chM2 l w 6).clock⟩ (i : Int)).getD 0 0 = (u_chW l w c 6).getD i 0 := by
  rw [ch_w l w c hi 6, if_pos hi, now_eq]
  show ((u_cX (u_chX l) (u_chM2 l w 6) (u_chC w c 6)).getD i D.no).gl8.getD 0 0 = _
  have hf := ch_f2 l w 6 (Nat.le_refl _) i
  by_cases h : w.getD i false = true
  · rw [if_pos ⟨hi, h⟩] at hf
    obtain ⟨k, k1, k2, k3⟩ := cX_yes (ch_ok2 l w 6) (u_chC w c 6) i hf
    rw [k3]
    rw [ch_keys] at k1 k2
    have hc : (u_chC w c 6).getD k 0 = if c.getD i false = true then 255 else 0 := by
      rw [List.getD_eq_getElem?_getD, List.getElem?_eq_getElem k1] at k2
      have k2 : (wl w 6)[k] = (i : Int) := k2
      rw [ch_c, List.getD_eq_getElem?_getD, List.getElem?_map, List.getElem?_eq_getElem k1]
      show (if c.getD ((wl w 6)[k]).toNat false = true then (255 : UInt8) else 0) = _
      rw [k2]; rfl
    rw [hc, ch_x l hi]
    by_cases g : c.getD i false = true
    · have hp : w.getD i false = true ∧ c.getD i false = true := ⟨h, g⟩
      rw [if_pos hp, if_pos g]
      show (u_torn _ _ 255).getD 0 0 = _
      rw [torn_255 (by split <;> rfl) (by rfl)]
      rfl
    · have hp : ¬ (w.getD i false = true ∧ c.getD i false = true) := fun q => g q.2
      rw [if_neg hp, if_neg g]
      show (u_torn _ _ 0).getD 0 0 = _
      rw [torn_0]
      by_cases q : l.getD i false = true
      · rw [if_pos q, if_pos q]; rfl
      · rw [if_neg q, if_neg q]; rfl
  · rw [if_neg (fun q => h q.2)] at hf
    have hp : ¬ (w.getD i false = true ∧ c.getD i false = true) := fun q => h q.1
    rw [cX_no (ch_ok2 l w 6) _ i hf, ch_x l hi, if_neg hp]
    by_cases q : l.getD i false = true
    · rw [if_pos q, if_pos q]; rfl
    · rw [if_neg q, if_neg q]; rfl
theorem ch_okc (l w c : List Bool) : us.ok (us.cX (us.chX l) (us.chM2 l w 6) (us.chC w c 6)) (real.mclr (us.chM2 l w 6)) := ok_crash (ch_ok2 l w 6) _ _
theorem ch_rd (l w c : List Bool) {i : Nat} (hi : i < 6) : real.pB (real.eqi (us.rE (real.int (us.chS2 l w 6)) 0 (us.cX (us.chX l) (us.chM2 l w 6) (us.chC w c 6)) (real.int i)) 0) true := pb_eq0 (rE_0 (st := ((u_chS2 l w 6 : Nat) : Int)) (xs := u_cX (u_chX l) (u_chM2 l w 6) (u_chC w c 6)) (i := i) (by rw [cX_len (ch_ok2 l w 6), chX_len]; exact hi))
theorem ch_eq (l w c : List Bool) {i : Nat} (hi : i < 6) : real.eq8 (real.getB (us.now (us.cX (us.chX l) (us.chM2 l w 6) (us.chC w c 6)) (real.mclr (us.chM2 l w 6)) (real.int i)) (real.addn 0 (real.nat (real.int 0)))) (real.getB (us.chW l w c 6) (real.nat (real.int i))) = true := by
  have h := ch_fin l w c hi
  show (_ == _) = true
  rw [beq_iff_eq]
  exact h
end Go.Proofs.Ythhgmjclmdggjaa
namespace Go.Proofs.Ythhgmjclmdggjaa
open Go Go.Vc
noncomputable def sp_law6_SectorChoices (F : Fs) (U : Us) : Specs := [(9, s_law6_known F U), (10, s_sector_New F U), (11, s_sector_Disk_Write F U), (13, s_sector_Disk_Flush F U), (14, s_sector_Disk_Crash F U), (12, s_sector_Disk_Read_o F U)]
theorem ok_law6_SectorChoices : SpecsOK Try.prog (sp_law6_SectorChoices real us) := sp_cons r_law6_known k_law6_known (sp_cons r_sector_New k_sector_New (sp_cons r_sector_Disk_Write k_sector_Disk_Write (sp_cons r_sector_Disk_Flush k_sector_Disk_Flush (sp_cons r_sector_Disk_Crash k_sector_Disk_Crash (sp_cons r_sector_Disk_Read_o k_sector_Disk_Read_o sp_nil)))))
noncomputable def an_law6_SectorChoices (F : Fs) (U : Us) (w l c : List Bool) : Anns := [(5, ⟨Nat, fun i => i ≤ 6, fun i => F.subn 6 i, fun i => ⟨[(3, .p 1 0 0), (4, .p 2 0 0), (5, .p 3 0 0), (7, .p 5 0 0), (8, .i (F.int i))], [(3, 1, .bk 36 [(6, .ds .b (U.bD w))]), (4, 2, .bk 36 [(6, .ds .b (U.bD l))]), (5, 3, .bk 36 [(6, .ds .b (U.bD c))]), (7, 5, .bk 47 [(1, .vs [.i (F.int (U.chS1 l i))]), (1, .vs [.i 0]), (1, .vs [.rw 6]), (1, .vs [.mh 7])]), (999, 6, .row 60 64 (.ds (.l8 64) (F.repD (U.nlen (F.int 6)) (F.dz (.l8 64))))), (999, 7, .mp 45 .i (.l8 64) (U.chM1 l i))]⟩⟩),
 (14, ⟨Nat, fun i => i ≤ 6, fun i => F.subn 6 i, fun i => ⟨[(3, .p 1 0 0), (4, .p 2 0 0), (5, .p 3 0 0), (7, .p 5 0 0), (9, .rw 8), (10, .p 9 0 0), (11, .i (F.int i))], [(3, 1, .bk 36 [(6, .ds .b (U.bD w))]), (4, 2, .bk 36 [(6, .ds .b (U.bD l))]), (5, 3, .bk 36 [(6, .ds .b (U.bD c))]), (7, 5, .bk 47 [(1, .vs [.i (F.int (U.chS2 l w i))]), (1, .vs [.i 0]), (1, .vs [.rw 6]), (1, .vs [.mh 7])]), (999, 6, .row 60 64 (.ds (.l8 64) (U.chX l))), (999, 7, .mp 45 .i (.l8 64) (U.chM2 l w i)), (9, 8, .row 5 1 (.bt (U.chC w c i))), (10, 9, .bk 37 [(6, .bt (U.chW l w c i))])]⟩⟩),
 (27, ⟨Nat, fun i => i ≤ 6, fun i => F.subn 6 i, fun i => ⟨[(7, .p 5 0 0), (10, .p 9 0 0), (13, .i (F.int i))], [(7, 5, .bk 47 [(1, .vs [.i (F.int (U.chS2 l w 6))]), (1, .vs [.i 0]), (1, .vs [.rw 6]), (1, .vs [.mh 7])]), (999, 6, .row 60 64 (.ds (.l8 64) (U.cX (U.chX l) (U.chM2 l w 6) (U.chC w c 6)))), (999, 7, .mp 45 .i (.l8 64) (F.mclr (U.chM2 l w 6))), (10, 9, .bk 37 [(6, .bt (U.chW l w c 6))])]⟩⟩)]
noncomputable def x_law6_SectorChoices (F : Fs) (U : Us) : Cx := ⟨Try.f5.ntmps, tt F, sp_law6_SectorChoices F U, [], [(30, ([(8, [4, 5])], []))], [], []⟩
theorem c_law6_SectorChoices (w l c : List Bool) (q0 : w.length = 6) (q1 : l.length = 6) (q2 : c.length = 6) : vc real (x_law6_SectorChoices real us) (an_law6_SectorChoices real us w l c) [] (Try.f5.body.getD .skip) ⟨zipSl 0 [.ag 6 (.ds .b (w.map Go.Vc.D.b)), .ag 6 (.ds .b (l.map Go.Vc.D.b)), .ag 6 (.ds .b (c.map Go.Vc.D.b))], [], 64⟩ (retOk real (tt real) false Try.f5.results.toList [.val (.b true)]) := by
  generalize hU : us = U
  generalize hF : real = F
  cbv
  repeat' first | apply And.intro | refine Classical.or_iff_not_imp_left.2 (fun _ => ?_) | exact trivial
  · rename_i h; subst hF hU; exact absurd rfl h
  · refine ⟨(0 : Nat), ?_⟩
    cbv
    subst hF hU
    refine ⟨⟨by cases w <;> rfl, trivial⟩, ⟨by cases l <;> rfl, trivial⟩, ⟨by cases c <;> rfl, trivial⟩, ⟨⟨rfl, trivial⟩, trivial⟩, rfl, trivial⟩
  · intro (i : Nat) hi
    replace hi : i ≤ 6 := hi
    cbv
    repeat' first | apply And.intro | refine Classical.or_iff_not_imp_left.2 (fun _ => ?_) | exact trivial
    · subst hF hU; exact inF rfl (lt_g (n := 6) (by assumption))
    · subst hF hU; exact lt_g (n := 6) (by assumption)
    · subst hF hU; exact ch_ok1 l i
    · subst hF hU; exact Nat.le_of_ble_eq_true rfl
    · rename_i h; subst hF hU; exact (nz_g h (wE_0 (st := ((u_chS l i : Nat) : Int)) (xs := x6) (i := i) (lt_g (n := 6) (by assumption)) (by decide))).elim
    · refine ⟨(i + 1 : Nat), ?_⟩
      cbv
      subst hF hU
      have hlt : i < 6 := lt_g (n := 6) (by assumption)
      exact ⟨hlt, sub_stepN hlt, ⟨addi1 (by omega), trivial⟩, ⟨⟨ch_st hlt (bd_t (by assumption)), trivial⟩, trivial⟩, ch_m1t (bd_t (by assumption)), trivial⟩
    · refine ⟨(i + 1 : Nat), ?_⟩
      cbv
      subst hF hU
      have hlt : i < 6 := lt_g (n := 6) (by assumption)
      exact ⟨hlt, sub_stepN hlt, ⟨addi1 (by omega), trivial⟩, ⟨⟨congrArg real.int (chS_f (bd_f (by assumption))).symm, trivial⟩, trivial⟩, ch_m1f (bd_f (by assumption)), trivial⟩
    · subst hF hU; exact ch_ok1 l i
    · rename_i h; subst hF hU; exact (nz_g h (fE_0 ((u_chS l i : Nat) : Int))).elim
    · refine ⟨(0 : Nat), ?_⟩
      cbv
      subst hF hU
      have hge : 6 ≤ i := ge_g (n := 6) (by assumption)
      have e : i = 6 := Nat.le_antisymm hi hge
      subst e
      exact ⟨⟨⟨(addi1 (i := u_chS l 6) (by have := chS_le l 6; omega)), trivial⟩, trivial⟩, rfl, rfl, rfl, ⟨rfl, trivial⟩, trivial⟩
    · have e : i = 6 := by
        subst hF hU
        have hge : 6 ≤ i := ge_g (n := 6) (by assumption)
        exact Nat.le_antisymm hi hge
      subst e
      intro (i : Nat) hi
      replace hi : i ≤ 6 := hi
      cbv
      repeat' first | apply And.intro | refine Classical.or_iff_not_imp_left.2 (fun _ => ?_) | exact trivial
      · subst hF hU; exact inF rfl (lt_g (n := 6) (by assumption))
      · subst hF hU; exact lt_g (n := 6) (by assumption)
      · subst hF hU; exact inF rfl (lt_g (n := 6) (by assumption))
      · subst hF hU; exact lt_g (n := 6) (by assumption)
      · subst hF hU; exact inF rfl (lt_g (n := 6) (by assumption))
      · subst hF hU; exact lt_g (n := 6) (by assumption)
      · refine ⟨(i + 1 : Nat), ?_⟩
        cbv
        subst hF hU
        have hlt : i < 6 := lt_g (n := 6) (by assumption)
        exact ⟨hlt, sub_stepN hlt, ⟨addi1 (by omega), trivial⟩, ⟨⟨congrArg real.int (ch_st2f (bn_t (by assumption))), trivial⟩, trivial⟩, ch_m2f (bn_t (by assumption)), ch_cn (bn_t (by assumption)), ⟨ch_wb (bd_t (by assumption)) (fun q => bn_t (by assumption) q.1), trivial⟩, trivial⟩
      · subst hF hU; exact ch_ok2 l w i
      · subst hF hU; exact Nat.le_of_ble_eq_true rfl
      · rename_i h; subst hF hU; exact (nz_g h (wE_0 (st := ((u_chS2 l w i : Nat) : Int)) (xs := u_chX l) (i := i) (by rw [chX_len]; exact lt_g (n := 6) (by assumption)) (by decide))).elim
      · subst hF hU; exact inF rfl (lt_g (n := 6) (by assumption))
      · subst hF hU; exact lt_g (n := 6) (by assumption)
      · subst hF hU; exact inF rfl (lt_g (n := 6) (by assumption))
      · subst hF hU; exact lt_g (n := 6) (by assumption)
      · subst hF hU; exact ch_cap w c (lt_g (n := 6) (by assumption)) 0
      · refine ⟨(i + 1 : Nat), ?_⟩
        cbv
        subst hF hU
        have hlt : i < 6 := lt_g (n := 6) (by assumption)
        exact ⟨hlt, sub_stepN hlt, ⟨addi1 (by omega), trivial⟩, ⟨⟨ch_st2 hlt (bn_f (by assumption)), trivial⟩, trivial⟩, ch_m2t (bn_f (by assumption)), ch_ct (bn_f (by assumption)) (bd_t (by assumption)), ⟨ch_wa (bd_t (by assumption)) (bn_f (by assumption)) (bd_t (by assumption)), trivial⟩, trivial⟩
      · subst hF hU; exact ch_cap w c (lt_g (n := 6) (by assumption)) 0
      · refine ⟨(i + 1 : Nat), ?_⟩
        cbv
        subst hF hU
        have hlt : i < 6 := lt_g (n := 6) (by assumption)
        exact ⟨hlt, sub_stepN hlt, ⟨addi1 (by omega), trivial⟩, ⟨⟨ch_st2 hlt (bn_f (by assumption)), trivial⟩, trivial⟩, ch_m2t (bn_f (by assumption)), ch_cf (bn_f (by assumption)) (bd_f (by assumption)), ⟨ch_wb (bd_t (by assumption)) (fun q => bd_f (by assumption) q.2), trivial⟩, trivial⟩
      · subst hF hU; exact inF rfl (lt_g (n := 6) (by assumption))
      · subst hF hU; exact lt_g (n := 6) (by assumption)
      · refine ⟨(i + 1 : Nat), ?_⟩
        cbv
        subst hF hU
        have hlt : i < 6 := lt_g (n := 6) (by assumption)
        exact ⟨hlt, sub_stepN hlt, ⟨addi1 (by omega), trivial⟩, ⟨⟨congrArg real.int (ch_st2f (bn_t (by assumption))), trivial⟩, trivial⟩, ch_m2f (bn_t (by assumption)), ch_cn (bn_t (by assumption)), ⟨ch_wd (bd_f (by assumption)) (fun q => bn_t (by assumption) q.1), trivial⟩, trivial⟩
      · subst hF hU; exact ch_ok2 l w i
      · subst hF hU; exact Nat.le_of_ble_eq_true rfl
      · rename_i h; subst hF hU; exact (nz_g h (wE_0 (st := ((u_chS2 l w i : Nat) : Int)) (xs := u_chX l) (i := i) (by rw [chX_len]; exact lt_g (n := 6) (by assumption)) (by decide))).elim
      · subst hF hU; exact inF rfl (lt_g (n := 6) (by assumption))
      · subst hF hU; exact lt_g (n := 6) (by assumption)
      · subst hF hU; exact inF rfl (lt_g (n := 6) (by assumption))
      · subst hF hU; exact lt_g (n := 6) (by assumption)
      · subst hF hU; exact ch_cap w c (lt_g (n := 6) (by assumption)) 0
      · refine ⟨(i + 1 : Nat), ?_⟩
        cbv
        subst hF hU
        have hlt : i < 6 := lt_g (n := 6) (by assumption)
        exact ⟨hlt, sub_stepN hlt, ⟨addi1 (by omega), trivial⟩, ⟨⟨ch_st2 hlt (bn_f (by assumption)), trivial⟩, trivial⟩, ch_m2t (bn_f (by assumption)), ch_ct (bn_f (by assumption)) (bd_t (by assumption)), ⟨ch_wc (bd_f (by assumption)) (bn_f (by assumption)) (bd_t (by assumption)), trivial⟩, trivial⟩
      · subst hF hU; exact ch_cap w c (lt_g (n := 6) (by assumption)) 0
      · refine ⟨(i + 1 : Nat), ?_⟩
        cbv
        subst hF hU
        have hlt : i < 6 := lt_g (n := 6) (by assumption)
        exact ⟨hlt, sub_stepN hlt, ⟨addi1 (by omega), trivial⟩, ⟨⟨ch_st2 hlt (bn_f (by assumption)), trivial⟩, trivial⟩, ch_m2t (bn_f (by assumption)), ch_cf (bn_f (by assumption)) (bd_f (by assumption)), ⟨ch_wd (bd_f (by assumption)) (fun q => bd_f (by assumption) q.2), trivial⟩, trivial⟩
      · subst hF hU; exact ch_ok2 l w i
      · refine ⟨(0 : Nat), ?_⟩
        cbv
        subst hF hU
        have hge : 6 ≤ i := ge_g (n := 6) (by assumption)
        have e : i = 6 := Nat.le_antisymm hi hge
        subst e
        exact ⟨⟨⟨rfl, trivial⟩, trivial⟩, rfl, rfl, ⟨rfl, trivial⟩, trivial⟩
      · intro (i : Nat) hi
        replace hi : i ≤ 6 := hi
        cbv
        repeat' first | apply And.intro | refine Classical.or_iff_not_imp_left.2 (fun _ => ?_) | exact trivial
        · subst hF hU; exact ch_okc l w c
        · subst hF hU; exact ch_rd l w c (lt_g (n := 6) (by assumption))
        · subst hF hU; exact ⟨by decide, by decide⟩
        · subst hF hU; exact Nat.le_of_ble_eq_true rfl
        · subst hF hU; exact inF rfl (lt_g (n := 6) (by assumption))
        · subst hF hU; exact lt_g (n := 6) (by assumption)
        · rename_i h; subst hF hU; exact (ap_ne (ch_eq l w c (lt_g (n := 6) (by assumption))) h).elim
        · refine ⟨(i + 1 : Nat), ?_⟩
          cbv
          subst hF hU
          have hlt : i < 6 := lt_g (n := 6) (by assumption)
          exact ⟨hlt, sub_stepN hlt, ⟨addi1 (by omega), trivial⟩, trivial⟩
        · rename_i h; subst hF hU; exact absurd rfl h
end Go.Proofs.Ythhgmjclmdggjaa
namespace Go.Proofs.Ythhgmjclmdggjaa.sectorChoices
open Go.ChangeShapes Go.WideShapes Go.ChangeAt Go.RowKit
set_option linter.unusedVariables false
theorem own : ownKnob Try.prog.godebug = none := by kernel_rfl
theorem laidOut : laidOutB Try.prog = true := p_laidOut
set_option maxRecDepth 100000 in
theorem lifted (os : Os) (started : os.Started) (H : Type) (enc : TypeId × Value → H) :
    ReturnsInHanded {} Try.checked os 5 .any (Rows.sectorChoicesSpec.pre6 enc Try.prog Try.f5 Rows.sectorChoicesRow.domain false) (Rows.sectorChoicesSpec.post enc Try.prog Try.f5 false true false false) := by
  refine returnsInHanded_of_change_shaped (C := Try.checked) own started (by kernel_rfl) Try.func5
    (ChangeSpec.witness6 (enc := enc) (C := Try.checked) false ⟨#[], #[.agg #[.bool false, .bool false, .bool false, .bool false, .bool false, .bool false], .agg #[.bool false, .bool false, .bool false, .bool false, .bool false, .bool false], .agg #[.bool false, .bool false, .bool false, .bool false, .bool false, .bool false]], []⟩ 8 (by kernel_rfl) (by kernel_rfl) (by kernel_rfl) (by kernel_rfl)) ?_
  intro W base args ds gs before hval0 hW hcnd hrch hsh _
  have hval : ∀ (j : Nat) t v, Try.f5.params[j]? = some t → args[j]? = some v → Value.okWide Try.prog W .any base t v := hval0
  have hW' := hW
  obtain ⟨p, q, hA0, hV, rfl, hfz, hnd⟩ := hW
  have hA : DataW.TrodAll enc Try.prog W 0 (fun _ => true) true Try.f5.params.toList args.toList ds p := hA0
  rw [Try.params5] at hA hval
  obtain ⟨v0, vs0, d0, ds0, p0, q0, hargs, rfl, rfl, h0, r0⟩ := trodAll_cons hA
  obtain ⟨v1, vs1, d1, ds1, p1, q1, rfl, rfl, rfl, h1, r1⟩ := trodAll_cons r0
  obtain ⟨v2, vs2, d2, ds2, p2, q2, rfl, rfl, rfl, h2, r2⟩ := trodAll_cons r1
  obtain ⟨rfl, rfl, rfl⟩ := trodAll_nil r2
  obtain rfl : args = #[v0, v1, v2] := by cases args; simp_all
  obtain ⟨rfl, rfl⟩ := trodVars_none hV
  obtain ⟨w, k0, q0⟩ := Go.Vc.openAB Try.underlying36 Try.underlying4 (by kernel_rfl) (by kernel_rfl) (hval 0 36 v0 rfl rfl) h0
  obtain ⟨l, k1, q1⟩ := Go.Vc.openAB Try.underlying36 Try.underlying4 (by kernel_rfl) (by kernel_rfl) (hval 1 36 v1 rfl rfl) h1
  obtain ⟨c, k2, q2⟩ := Go.Vc.openAB Try.underlying36 Try.underlying4 (by kernel_rfl) (by kernel_rfl) (hval 2 36 v2 rfl rfl) h2
  clear hA0 hval0
  refine (Go.Vc.law_walk2 (x := x_law6_SectorChoices Go.Vc.real us) (an := (an_law6_SectorChoices Go.Vc.real us w l c)) (cu := []) (l := [.ag 6 (.ds .b (w.map Go.Vc.D.b)), .ag 6 (.ds .b (l.map Go.Vc.D.b)), .ag 6 (.ds .b (c.map Go.Vc.D.b))]) (vals := [v0, v1, v2]) ⟨tt_ok, ok_law6_SectorChoices, Go.Vc.ks_nil⟩ mixed Try.func5 rfl rfl (by kernel_rfl) hsh (Nat.le_of_ble_eq_true rfl) (Go.Vc.rvs_cons k0 (Go.Vc.rvs_cons k1 (Go.Vc.rvs_cons k2 Go.Vc.rvs_nil))) (c_law6_SectorChoices w l c q0 q1 q2)).mono fun e W' ⟨he, bel⟩ => ?_
  subst he
  exact ⟨_, rfl, Go.Vc.post_true (tb := 4) laidOut (by kernel_rfl) rfl Try.underlying4 rfl hW' rfl bel⟩
theorem over : Rows.sectorChoicesRow.holds Try.pinned (OpenSpec.ofChange Rows.sectorChoicesSpec) :=
  OpenClaim.holds_of_wide 5 Try.f5 rfl rfl rfl rfl rfl rfl rfl ⟨rfl, rfl, rfl, rfl, rfl⟩ rfl rfl rfl rfl rfl (by kernel_rfl) Try.func5 (Go.Vc.joined_of p_laidOut p_maps p_stops p_knobs p_heard p_mayEnter p_lifts p_make rfl rfl (by kernel_rfl) (by kernel_rfl) (by kernel_rfl) (by kernel_rfl) (by kernel_rfl) (by kernel_rfl) (by kernel_rfl) (by kernel_rfl) (by kernel_rfl) (by kernel_rfl) (by kernel_rfl) (by kernel_rfl) (by kernel_rfl) (by kernel_rfl) (by kernel_rfl) (by kernel_rfl) (by kernel_rfl) (by kernel_rfl) (by kernel_rfl) (by kernel_rfl) (by kernel_rfl) (by kernel_rfl) (by kernel_rfl) (by kernel_rfl) )
    (of_decide_eq_true (by kernel_rfl)) (by unfold Func.isWrapper; first | (rw [if_pos (by decide +kernel)]; kernel_rfl) | (rw [if_neg (by decide +kernel)]; exact ⟨rfl, rfl⟩))
    (fun os started H enc _ => lifted os started H enc)
theorem proved : Rows.SectorChoicesSaid := over
#print axioms proved
end Go.Proofs.Ythhgmjclmdggjaa.sectorChoices

