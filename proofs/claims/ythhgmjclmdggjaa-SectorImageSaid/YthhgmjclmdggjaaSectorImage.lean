/- The given statement is proved: for every input the law's function answers true. No condition. -/
import Derived.Test.YthhgmjclmdggjaaRows
import Derived.Test.YthhgmjclmdggjaaPart5
import Derived.WalkKit
import Derived.HandedShaped
import Derived.ProofKit
import Derived.OpenShut
import Derived.ShutString
set_option linter.unusedVariables false
set_option linter.unusedSimpArgs false
set_option maxRecDepth 100000
set_option maxHeartbeats 1000000
namespace Go.Proofs.Ythhgmjclmdggjaa
open Go Go.Vc
def imN (l b : List UInt8) (i : Nat) : Nat := b.length * i / (max l.length 1) / 2
theorem imN_le {l b : List UInt8} {i : Nat} (hb : b.length ≤ 64) (hi : i < l.length) : imN l b i ≤ b.length ∧ imN l b i ≤ 32 := by
  unfold imN
  have h1 : b.length * i / (max l.length 1) ≤ b.length := by
    refine Nat.div_le_of_le_mul ?_
    rw [Nat.mul_comm]
    exact Nat.mul_le_mul_right _ (by omega)
  generalize b.length * i / (max l.length 1) = x at h1
  omega
theorem im_ne (l : List UInt8) : real.pNe (real.maxi (real.int (real.lenB l)) (real.int 1)) := by
  show (if (1 : Int) > (l.length : Int) then (1 : Int) else (l.length : Int)) ≠ 0
  split <;> omega
theorem im_q {l b : List UInt8} {i : Nat} (hl : l.length ≤ 20) (hb : b.length ≤ 64) (hi : i < l.length) : real.quoi (real.quoi (real.muli (real.int (real.lenB b)) (real.int i)) (real.maxi (real.int (real.lenB l)) (real.int 1))) (real.int 2) = ((imN l b i : Nat) : Int) := by
  have hm : b.length * i ≤ 64 * 20 := Nat.mul_le_mul hb (by omega)
  have e1 : real.muli (real.int (real.lenB b)) (real.int i) = ((b.length * i : Nat) : Int) := by
    show IntKind.i64.wrap ((b.length : Int) * (i : Int)) = _
    rw [← Int.natCast_mul]
    generalize b.length * i = x at hm
    rw [wrap_sm (by omega) (by omega)]
  have e2 : real.maxi (real.int (real.lenB l)) (real.int 1) = ((max l.length 1 : Nat) : Int) := by
    show (if (1 : Int) > (l.length : Int) then (1 : Int) else (l.length : Int)) = _
    split <;> omega
  have hd : ∀ x y : Nat, x ≤ 2000 → real.quoi ((x : Nat) : Int) ((y : Nat) : Int) = ((x / y : Nat) : Int) := by
    intro x y hx
    have h2 : x / y ≤ x := Nat.div_le_self _ _
    show IntKind.i64.wrap ((x : Int).tdiv (y : Int)) = _
    rw [show (x : Int).tdiv (y : Int) = ((x / y : Nat) : Int) from rfl]
    generalize x / y = z at h2
    rw [wrap_sm (by omega) (by omega)]
  rw [e1, e2, hd _ _ (by omega)]
  have h3 : b.length * i / max l.length 1 ≤ b.length * i := Nat.div_le_self _ _
  exact hd _ 2 (by omega)
theorem im_ok (l b : List UInt8) : ∀ i, u_ok x8 (u_imM l b i)
  | 0 => x8_ok
  | i + 1 => ok_wM (im_ok l b i)
theorem im_rem (x : UInt8) : real.wrapi (real.toI8 (real.rem8 x (real.ofI8 (real.int 8)))) = ((x.toNat % 8 : Nat) : Int) := rem8_eq x
theorem im_k (x : UInt8) : real.pIn (real.wrapi (real.toI8 (real.rem8 x (real.ofI8 (real.int 8))))) 8 ∧ real.pLt (real.addn (real.muln (real.nat (real.wrapi (real.toI8 (real.rem8 x (real.ofI8 (real.int 8)))))) 64) (real.nat (real.int 0))) 512 ∧ real.pLe (real.addn (real.addn (real.muln (real.nat (real.wrapi (real.toI8 (real.rem8 x (real.ofI8 (real.int 8)))))) 64) (real.nat (real.int 1))) (real.subn 64 (real.nat (real.int 1)))) 512 := by
  have h2 : x.toNat % 8 < 8 := Nat.mod_lt _ (by decide)
  rw [im_rem]
  refine ⟨⟨Int.natCast_nonneg _, Int.ofNat_lt.2 h2⟩, ?_, ?_⟩
  · show x.toNat % 8 * 64 + 0 < 512
    generalize x.toNat % 8 = n at h2
    omega
  · show x.toNat % 8 * 64 + 1 + 63 ≤ 512
    generalize x.toNat % 8 = n at h2
    omega
theorem im_B (l b : List UInt8) (i : Nat) : (u_imB l b i) = l.getD i 0 :: b.take (imN l b i) := rfl
theorem im_Bl {l b : List UInt8} {i : Nat} (hb : b.length ≤ 64) (hi : i < l.length) : (u_imB l b i).length ≤ 33 := by
  obtain ⟨h1, h2⟩ := imN_le hb hi
  rw [im_B, List.length_cons, List.length_take]; omega
theorem im_cut {l b : List UInt8} {i : Nat} (hl : l.length ≤ 20) (hb : b.length ≤ 64) (hi : i < l.length) : real.cutB b 0 (real.nat (real.quoi (real.quoi (real.muli (real.int (real.lenB b)) (real.int i)) (real.maxi (real.int (real.lenB l)) (real.int 1))) (real.int 2))) = b.take (imN l b i) := by
  rw [im_q hl hb hi]; rfl
theorem im_n (l b : List UInt8) {i : Nat} (hl : l.length ≤ 20) (hb : b.length ≤ 64) (hi : i < l.length) :
    real.quoi (real.quoi (real.muli (real.int (real.lenB b)) (real.int i)) (real.maxi (real.int (real.lenB l)) (real.int 1))) (real.int 2) = ((imN l b i : Nat) : Int) ∧
    real.p0 (real.quoi (real.quoi (real.muli (real.int (real.lenB b)) (real.int i)) (real.maxi (real.int (real.lenB l)) (real.int 1))) (real.int 2)) ∧
    real.pLe (real.nat (real.quoi (real.quoi (real.muli (real.int (real.lenB b)) (real.int i)) (real.maxi (real.int (real.lenB l)) (real.int 1))) (real.int 2))) (real.lenB b) ∧
    (∀ z : Nat, real.pCap (real.addn (real.lenB [real.getB l (real.nat (real.int i))]) (real.lenB (real.cutB b 0 (real.nat (real.quoi (real.quoi (real.muli (real.int (real.lenB b)) (real.int i)) (real.maxi (real.int (real.lenB l)) (real.int 1))) (real.int 2)))))) 1) ∧
    (∀ z : Nat, real.pLe (real.lenB (real.appB [real.getB l (real.nat (real.int i))] (real.cutB b 0 (real.nat (real.quoi (real.quoi (real.muli (real.int (real.lenB b)) (real.int i)) (real.maxi (real.int (real.lenB l)) (real.int 1))) (real.int 2)))))) 1000000000) ∧
    us.wE (real.int i) 0 (real.repD (us.nlen (real.int 8)) (real.dz (.l8 64))) (real.wrapi (real.toI8 (real.rem8 (real.getB l (real.nat (real.int i))) (real.ofI8 (real.int 8))))) (real.appB [real.getB l (real.nat (real.int i))] (real.cutB b 0 (real.nat (real.quoi (real.quoi (real.muli (real.int (real.lenB b)) (real.int i)) (real.maxi (real.int (real.lenB l)) (real.int 1))) (real.int 2))))) = 0 := by
  have hq := im_q hl hb hi
  have hc := im_cut hl hb hi
  obtain ⟨h1, h2⟩ := imN_le hb hi
  have hB := im_Bl hb hi
  have ht : (b.take (imN l b i)).length ≤ 32 := by rw [List.length_take]; omega
  refine ⟨hq, ?_, ?_, fun _ => ?_, fun _ => ?_, ?_⟩
  · rw [hq]; exact Int.natCast_nonneg _
  · rw [hq]; exact h1
  · rw [hc]
    show (1 + (b.take (imN l b i)).length) * 1 ≤ 140737488355328 ∧ 1 + (b.take (imN l b i)).length ≤ 4611686018427387904
    omega
  · rw [hc]
    show (u_imB l b i).length ≤ 1000000000
    omega
  · rw [hc, im_rem]
    exact wE_0 (st := ((i : Nat) : Int)) (xs := x8) (i := (l.getD i 0).toNat % 8) (b := u_imB l b i) (Nat.mod_lt _ (by decide)) (by omega)
theorem im_M {l b : List UInt8} {i : Nat} (hl : l.length ≤ 20) (hb : b.length ≤ 64) (hi : i < l.length) : us.wM (real.int i) 0 (real.repD (us.nlen (real.int 8)) (real.dz (.l8 64))) (us.imM l b i) (real.wrapi (real.toI8 (real.rem8 (real.getB l (real.nat (real.int i))) (real.ofI8 (real.int 8))))) (real.appB [real.getB l (real.nat (real.int i))] (real.cutB b 0 (real.nat (real.quoi (real.quoi (real.muli (real.int (real.lenB b)) (real.int i)) (real.maxi (real.int (real.lenB l)) (real.int 1))) (real.int 2))))) = us.imM l b (i + 1) := by
  rw [im_cut hl hb hi, im_rem]; rfl
theorem im_wl {l b : List UInt8} (hb : b.length ≤ 64) : ∀ i, i ≤ l.length → (u_imW l b i).length = 512
  | 0, _ => by simp [u_imW]
  | i + 1, hi => by
    have ih := im_wl (l := l) hb i (by omega)
    have hB := im_Bl hb (show i < l.length by omega)
    have h2 : (l.getD i 0).toNat % 8 < 8 := Nat.mod_lt _ (by decide)
    rw [u_imW, spl_len (by rw [ih]; generalize (l.getD i 0).toNat % 8 = n at h2; omega), ih]
theorem spl_cons (L t : List UInt8) (p : Nat) (x : UInt8) (h : p + 1 + t.length ≤ L.length) : u_spl (L.set p x) (p + 1) t = u_spl L p (x :: t) := by
  apply List.ext_getElem?
  intro j
  rw [spl_get (by rw [List.length_set]; exact h), spl_get (by rw [List.length_cons]; omega), List.length_cons, List.getElem?_set]
  by_cases h1 : j < p
  · rw [if_pos (show j < p + 1 by omega), if_neg (show ¬ p = j by omega), if_pos h1]
  · by_cases h2 : j = p
    · subst h2
      rw [if_pos (show j < j + 1 by omega), if_pos rfl, if_pos (show j < L.length by omega), if_neg h1, if_pos (show j < j + (t.length + 1) by omega), Nat.sub_self]; rfl
    · rw [if_neg (show ¬ j < p + 1 by omega), if_neg h1, if_neg (show ¬ p = j by omega)]
      by_cases h3 : j < p + 1 + t.length
      · rw [if_pos h3, if_pos (show j < p + (t.length + 1) by omega)]
        rw [show j - p = (j - (p + 1)) + 1 by omega, List.getElem?_cons_succ]
      · rw [if_neg h3, if_neg (show ¬ j < p + (t.length + 1) by omega)]
theorem im_W {l b : List UInt8} {i : Nat} (hl : l.length ≤ 20) (hb : b.length ≤ 64) (hi : i < l.length) : real.splB (real.setB (us.imW l b i) (real.addn (real.muln (real.nat (real.wrapi (real.toI8 (real.rem8 (real.getB l (real.nat (real.int i))) (real.ofI8 (real.int 8)))))) 64) (real.nat (real.int 0))) (real.getB l (real.nat (real.int i)))) (real.addn (real.muln (real.nat (real.wrapi (real.toI8 (real.rem8 (real.getB l (real.nat (real.int i))) (real.ofI8 (real.int 8)))))) 64) (real.nat (real.int 1))) (real.cutB (real.cutB b 0 (real.nat (real.quoi (real.quoi (real.muli (real.int (real.lenB b)) (real.int i)) (real.maxi (real.int (real.lenB l)) (real.int 1))) (real.int 2)))) 0 (real.minn (real.lenB (real.cutB b 0 (real.nat (real.quoi (real.quoi (real.muli (real.int (real.lenB b)) (real.int i)) (real.maxi (real.int (real.lenB l)) (real.int 1))) (real.int 2))))) (real.subn 64 (real.nat (real.int 1))))) = us.imW l b (i + 1) := by
  rw [im_cut hl hb hi, im_rem]
  obtain ⟨h1, h2⟩ := imN_le hb hi
  have ht : (b.take (imN l b i)).length ≤ 32 := by rw [List.length_take]; omega
  have e : real.cutB (b.take (imN l b i)) 0 (real.minn (real.lenB (b.take (imN l b i))) (real.subn 64 (real.nat (real.int 1)))) = b.take (imN l b i) := by
    show ((b.take (imN l b i)).drop 0).take (min (b.take (imN l b i)).length 63) = _
    rw [List.drop_zero, List.take_of_length_le (by omega)]
  rw [e]
  have hw := im_wl (l := l) hb i (by omega)
  have h8 : (l.getD i 0).toNat % 8 < 8 := Nat.mod_lt _ (by decide)
  show u_spl ((u_imW l b i).set ((l.getD i 0).toNat % 8 * 64 + 0) (l.getD i 0)) ((l.getD i 0).toNat % 8 * 64 + 1) (b.take (imN l b i)) = u_spl (u_imW l b i) (64 * ((l.getD i 0).toNat % 8)) (l.getD i 0 :: b.take (imN l b i))
  rw [Nat.add_zero, Nat.mul_comm 64]
  exact spl_cons _ _ _ _ (by rw [hw]; generalize (l.getD i 0).toNat % 8 = n at h8; omega)
theorem im_now {l b : List UInt8} (hb : b.length ≤ 64) {k : Nat} (hk : k < 8) : ∀ i, i ≤ l.length → u_now x8 (u_imM l b i) (k : Int) = chunk (u_imW l b i) k
  | 0, _ => by
    show u_now x8 ⟨[], 0⟩ (k : Int) = chunk (List.replicate 512 0) k
    rw [now0 hk, chunk0 hk]
  | i + 1, hi => by
    have hw := im_wl (l := l) hb i (by omega)
    have hB := im_Bl hb (show i < l.length by omega)
    have h8 : (l.getD i 0).toNat % 8 < 8 := Nat.mod_lt _ (by decide)
    have ih := fun k (hk : k < 8) => im_now (l := l) hb hk i (by omega)
    rw [u_imM, u_imW]
    generalize (l.getD i 0).toNat % 8 = n at h8
    rw [now_wM (by rw [x8_len]; exact h8) (by omega), spl_chunk (by omega) (by omega) (by omega), ih n h8, ih k hk]
theorem im_ok2 (l b : List UInt8) : ∀ f, u_ok (u_imX l b f) (u_imM2 l b f)
  | true => ok_fl (im_ok l b l.length)
  | false => im_ok l b l.length
theorem im_len (l b : List UInt8) : ∀ f, (u_imX l b f).length = 8
  | true => fX_len _ _ _ _
  | false => rfl
theorem im_now2 {l b : List UInt8} (hb : b.length ≤ 64) {k : Nat} (hk : k < 8) : ∀ f, u_now (u_imX l b f) (u_imM2 l b f) (k : Int) = chunk (u_imW l b l.length) k
  | false => im_now hb hk l.length (Nat.le_refl _)
  | true => by
    have h := im_now (l := l) hb hk l.length (Nat.le_refl _)
    rw [now_eq] at h
    show u_now (u_fX _ 0 x8 (u_imM l b l.length)) (u_fM _ 0 (u_imM l b l.length)) (k : Int) = _
    rw [now_eq, fX_0, fM_0, flush_get (by rw [x8_len]; exact hk)]
    exact h
theorem im_kept {l b : List UInt8} (hb : b.length ≤ 64) {k : Nat} (hk : k < 8) : ∀ f, ((u_imX l b f).getD k D.no).gl8 = match f with | true => chunk (u_imW l b l.length) k | false => List.replicate 64 0
  | false => by
    show (x8.getD k D.no).gl8 = _
    unfold x8
    rw [List.getD_eq_getElem?_getD, List.getElem?_replicate, if_pos hk]; rfl
  | true => by
    have h := im_now (l := l) hb hk l.length (Nat.le_refl _)
    rw [now_eq] at h
    show ((u_fX _ 0 x8 (u_imM l b l.length)).getD k D.no).gl8 = _
    rw [fX_0, flush_get (by rw [x8_len]; exact hk)]
    exact h
theorem img_take {xs : List D} (h : allL xs) {k : Nat} : ∀ n, n ≤ xs.length → k < n → ((u_imgP xs n).drop (64 * k)).take 64 = (xs.getD k D.no).gl8
  | 0, _, h0 => absurd h0 (Nat.not_lt_zero k)
  | n + 1, hn, hk => by
    have hl := imgP_len h n (by omega)
    rw [imgP_s (by omega)]
    by_cases e : k = n
    · subst e
      obtain ⟨v, g1, g2⟩ := allL_get h (i := k) (by omega)
      rw [List.drop_append_of_le_length (by omega), List.drop_of_length_le (by omega), List.nil_append, g1]
      exact List.take_of_length_le (by show v.length ≤ 64; omega)
    · have ih := img_take h n (by omega) (show k < n by omega)
      rw [List.drop_append_of_le_length (by omega), List.take_append_of_le_length (by rw [List.length_drop]; omega)]
      exact ih
theorem im_mu {k : Nat} (hk : k < 8) : real.muli (real.int 64) (real.int k) = ((64 * k : Nat) : Int) ∧ real.addi (real.muli (real.int 64) (real.int k)) (real.int 64) = ((64 * k + 64 : Nat) : Int) := by
  have e1 : real.muli (real.int 64) (real.int k) = ((64 * k : Nat) : Int) := by
    show IntKind.i64.wrap (((64 : Nat) : Int) * (k : Int)) = _
    rw [wrap_sm (by omega) (by omega)]; omega
  refine ⟨e1, ?_⟩
  rw [e1]
  show IntKind.i64.wrap (((64 * k : Nat) : Int) + ((64 : Nat) : Int)) = _
  rw [wrap_sm (by omega) (by omega)]; omega
theorem im_img (l b : List UInt8) (f : Bool) : (u_img (u_imX l b f)).length = 512 := by
  have h := imgP_len (im_ok2 l b f).2.1 (u_imX l b f).length (Nat.le_refl _)
  show (u_imgP (u_imX l b f) (u_imX l b f).length).length = 512
  rw [h, im_len]
theorem im_r {l b : List UInt8} (f : Bool) (hb : b.length ≤ 64) {k : Nat} (hk : k < 8) :
    real.pB (real.eqi (us.rE (us.imS l f) 0 (us.imX l b f) (real.int k)) 0) true ∧
    real.pLe (real.addn 0 64) (real.lenB (us.now (us.imX l b f) (us.imM2 l b f) (real.int k))) ∧
    real.pLe (real.addn (real.muln (real.nat (real.int k)) 64) 64) (real.lenB (us.imW l b (real.lenB l))) ∧
    real.eqB (real.cutB (us.now (us.imX l b f) (us.imM2 l b f) (real.int k)) 0 64) (real.cutB (us.imW l b (real.lenB l)) (real.muln (real.nat (real.int k)) 64) 64) = true := by
  have hn := im_now2 (l := l) hb hk f
  have hl : (u_now (u_imX l b f) (u_imM2 l b f) (k : Int)).length = 64 := now_len (im_ok2 l b f) (isI_of (by rw [im_len]; exact hk))
  have hw := im_wl (l := l) hb l.length (Nat.le_refl _)
  refine ⟨pb_eq0 (rE_0 (st := u_imS l f) (xs := u_imX l b f) (by rw [im_len]; exact hk)), ?_, ?_, ?_⟩
  · show 0 + 64 ≤ (u_now (u_imX l b f) (u_imM2 l b f) (k : Int)).length
    omega
  · show k * 64 + 64 ≤ (u_imW l b l.length).length
    omega
  · show (((u_now (u_imX l b f) (u_imM2 l b f) (k : Int)).drop 0).take 64 == ((u_imW l b l.length).drop (k * 64)).take 64) = true
    rw [List.drop_zero, List.take_of_length_le (by omega), hn, Nat.mul_comm k 64]
    exact beq_self_eq_true _
theorem im_s (l b : List UInt8) (f : Bool) {k : Nat} (hk : k < 8) :
    real.p0 (real.muli (real.int 64) (real.int k)) ∧ real.pLe (real.nat (real.muli (real.int 64) (real.int k))) (real.nat (real.addi (real.muli (real.int 64) (real.int k)) (real.int 64))) ∧
    real.p0 (real.addi (real.muli (real.int 64) (real.int k)) (real.int 64)) ∧ real.pLe (real.nat (real.addi (real.muli (real.int 64) (real.int k)) (real.int 64))) (real.lenB (us.img (us.imX l b f))) ∧
    real.pLe (real.addn (real.nat (real.muli (real.int 64) (real.int k))) (real.subn (real.nat (real.addi (real.muli (real.int 64) (real.int k)) (real.int 64))) (real.nat (real.muli (real.int 64) (real.int k))))) (real.lenB (us.img (us.imX l b f))) := by
  obtain ⟨e1, e2⟩ := im_mu hk
  have hi := im_img l b f
  rw [e2, e1]
  refine ⟨Int.natCast_nonneg _, ?_, Int.natCast_nonneg _, ?_, ?_⟩
  · show 64 * k ≤ 64 * k + 64
    omega
  · show 64 * k + 64 ≤ (u_img (u_imX l b f)).length
    omega
  · show 64 * k + (64 * k + 64 - 64 * k) ≤ (u_img (u_imX l b f)).length
    omega
theorem im_c (l b : List UInt8) (f : Bool) {k : Nat} (hk : k < 8) : real.cutB (us.img (us.imX l b f)) (real.nat (real.muli (real.int 64) (real.int k))) (real.subn (real.nat (real.addi (real.muli (real.int 64) (real.int k)) (real.int 64))) (real.nat (real.muli (real.int 64) (real.int k)))) = ((u_imX l b f).getD k D.no).gl8 := by
  obtain ⟨e1, e2⟩ := im_mu hk
  rw [e2, e1]
  show ((u_imgP (u_imX l b f) (u_imX l b f).length).drop (64 * k)).take (64 * k + 64 - 64 * k) = _
  rw [Nat.add_sub_cancel_left]
  exact img_take (im_ok2 l b f).2.1 _ (Nat.le_refl _) (by rw [im_len]; exact hk)
theorem chunk_len {L : List UInt8} {k : Nat} (h : 64 * k + 64 ≤ L.length) : (chunk L k).length = 64 := by
  unfold chunk; rw [List.length_take, List.length_drop]; omega
theorem im_t {l b : List UInt8} (hb : b.length ≤ 64) {k : Nat} (hk : k < 8) :
    real.pLe (real.addn 0 64) (real.lenB (real.cutB (us.imW l b (real.lenB l)) (real.muln (real.nat (real.int k)) 64) 64)) ∧
    real.eqB (real.cutB (us.img (us.imX l b true)) (real.nat (real.muli (real.int 64) (real.int k))) (real.subn (real.nat (real.addi (real.muli (real.int 64) (real.int k)) (real.int 64))) (real.nat (real.muli (real.int 64) (real.int k))))) (real.cutB (real.cutB (us.imW l b (real.lenB l)) (real.muln (real.nat (real.int k)) 64) 64) 0 64) = true := by
  have hw := im_wl (l := l) hb l.length (Nat.le_refl _)
  have e : real.cutB (us.imW l b (real.lenB l)) (real.muln (real.nat (real.int k)) 64) 64 = chunk (u_imW l b l.length) k := by
    show ((u_imW l b l.length).drop (k * 64)).take 64 = _
    rw [Nat.mul_comm]; rfl
  have hc := chunk_len (L := u_imW l b l.length) (k := k) (by omega)
  rw [e, im_c l b true hk, im_kept hb hk true]
  refine ⟨?_, ?_⟩
  · show 0 + 64 ≤ (chunk (u_imW l b l.length) k).length
    omega
  · show (chunk (u_imW l b l.length) k == ((chunk (u_imW l b l.length) k).drop 0).take 64) = true
    rw [List.drop_zero, List.take_of_length_le (by omega)]
    exact beq_self_eq_true _
theorem im_f {l b : List UInt8} (hb : b.length ≤ 64) {k : Nat} (hk : k < 8) :
    real.eqB (real.cutB (us.img (us.imX l b false)) (real.nat (real.muli (real.int 64) (real.int k))) (real.subn (real.nat (real.addi (real.muli (real.int 64) (real.int k)) (real.int 64))) (real.nat (real.muli (real.int 64) (real.int k))))) (real.cutB (real.repB 64) 0 64) = true := by
  rw [im_c l b false hk, im_kept hb hk false]
  rfl
theorem im_512 (l b : List UInt8) (f : Bool) : real.eqi (real.int (real.lenB (us.img (us.imX l b f)))) (real.int 512) = true := by
  have h := im_img l b f
  show (((u_img (u_imX l b f)).length : Int) == 512) = true
  rw [h]; rfl
end Go.Proofs.Ythhgmjclmdggjaa
namespace Go.Proofs.Ythhgmjclmdggjaa
open Go Go.Vc
noncomputable def sp_law6_SectorImage (F : Fs) (U : Us) : Specs := [(9, s_law6_known F U), (10, s_sector_New F U), (11, s_sector_Disk_Write F U), (13, s_sector_Disk_Flush F U), (15, s_sector_Disk_Image F U), (12, s_sector_Disk_Read_o F U)]
theorem ok_law6_SectorImage : SpecsOK Try.prog (sp_law6_SectorImage real us) := sp_cons r_law6_known k_law6_known (sp_cons r_sector_New k_sector_New (sp_cons r_sector_Disk_Write k_sector_Disk_Write (sp_cons r_sector_Disk_Flush k_sector_Disk_Flush (sp_cons r_sector_Disk_Image k_sector_Disk_Image (sp_cons r_sector_Disk_Read_o k_sector_Disk_Read_o sp_nil)))))
noncomputable def an_law6_SectorImage (F : Fs) (U : Us) (l b : List UInt8) (f : Bool) : Anns := [(8, ⟨Nat, fun i => i ≤ F.lenB l, fun i => F.subn (F.lenB l) i, fun i => ⟨[(0, .rb 1 (.bt l)), (1, .rb 1 (.bt b)), (2, .b f), (7, .p 5 0 0), (8, .p 8 0 0), (9, .i (F.int i))], [(7, 5, .bk 47 [(1, .vs [.i (F.int i)]), (1, .vs [.i 0]), (1, .vs [.rw 6]), (1, .vs [.mh 7])]), (999, 6, .row 60 64 (.ds (.l8 64) (F.repD (U.nlen (F.int 8)) (F.dz (.l8 64))))), (999, 7, .mp 45 .i (.l8 64) (U.imM l b i)), (8, 8, .bk 29 [(512, .bt (U.imW l b i))])]⟩⟩),
 (19, ⟨Nat, fun k => k ≤ 8, fun k => F.subn 8 k, fun k => ⟨[(2, .b f), (7, .p 5 0 0), (8, .p 8 0 0), (11, .rw 9), (12, .i (F.int k))], [(7, 5, .bk 47 [(1, .vs [.i (U.imS l f)]), (1, .vs [.i 0]), (1, .vs [.rw 6]), (1, .vs [.mh 7])]), (999, 6, .row 60 64 (.ds (.l8 64) (U.imX l b f))), (999, 7, .mp 45 .i (.l8 64) (U.imM2 l b f)), (8, 8, .bk 29 [(512, .bt (U.imW l b (F.lenB l)))]), (11, 9, .row 5 1 (.bt (U.img (U.imX l b f))))]⟩⟩)]
noncomputable def cu_law6_SectorImage (F : Fs) (U : Us) (l b : List UInt8) (f : Bool) : Anns := [(17, ⟨Nat, fun _ => True, fun i => i, fun _ => ⟨[(2, .b f), (7, .p 5 0 0), (8, .p 8 0 0)], [(7, 5, .bk 47 [(1, .vs [.i (U.imS l f)]), (1, .vs [.i 0]), (1, .vs [.rw 6]), (1, .vs [.mh 7])]), (999, 6, .row 60 64 (.ds (.l8 64) (U.imX l b f))), (999, 7, .mp 45 .i (.l8 64) (U.imM2 l b f)), (8, 8, .bk 29 [(512, .bt (U.imW l b (F.lenB l)))])]⟩⟩)]
noncomputable def x_law6_SectorImage (F : Fs) (U : Us) : Cx := ⟨Try.f6.ntmps, tt F, sp_law6_SectorImage F U, [], [(11, ([(9, [4, 5, 6]), (13, [4, 5, 6, 9]), (14, [4, 5, 6, 9]), (17, [4, 5, 6])], [(19, [4001])])), (14, ([(5, [2]), (9, [2, 5]), (10, [2, 5]), (13, [2])], [])), (25, ([(7, [4]), (8, [4]), (20, [18, 19]), (21, [18, 19])], []))], [], []⟩
theorem c_law6_SectorImage (l b : List UInt8) (f : Bool) (q0 : l.length ≤ 9223372036854775807) (q1 : b.length ≤ 9223372036854775807) : vc real (x_law6_SectorImage real us) (an_law6_SectorImage real us l b f) (cu_law6_SectorImage real us l b f) (Try.f6.body.getD .skip) ⟨zipSl 0 [.rb 1 (.bt l), .rb 1 (.bt b), .b f], [], 64⟩ (retOk real (tt real) false Try.f6.results.toList [.val (.b true)]) := by
  generalize hU : us = U
  generalize hF : real = F
  cbv
  repeat' first | apply And.intro | refine Classical.or_iff_not_imp_left.2 (fun _ => ?_) | exact trivial
  · rename_i h; subst hF hU; exact absurd rfl h
  · refine ⟨(0 : Nat), ?_⟩
    cbv
    subst hF hU
    exact ⟨Nat.zero_le _, ⟨⟨rfl, trivial⟩, trivial⟩, rfl, ⟨rfl, trivial⟩, trivial⟩
  · have hl : l.length ≤ 20 := by subst hF hU; exact ge_g (n := l.length) (by assumption)
    have hb : b.length ≤ 64 := by subst hF hU; exact ge_g (n := b.length) (by assumption)
    intro (i : Nat) hi
    replace hi : i ≤ F.lenB l := hi
    cbv
    repeat' first | apply And.intro | refine Classical.or_iff_not_imp_left.2 (fun _ => ?_) | exact trivial
    · subst hF hU; exact inF rfl (lt_g (n := l.length) (by assumption))
    · subst hF hU; show ((8 : UInt8).toNat : Int) ≠ 0; decide
    · subst hF hU; exact inF rfl (lt_g (n := l.length) (by assumption))
    · subst hF hU; exact im_ne l
    · subst hF hU; show (2 : Int) ≠ 0; decide
    · subst hF hU; exact (im_n l b hl hb (lt_g (n := l.length) (by assumption))).2.1
    · subst hF hU; exact (im_n l b hl hb (lt_g (n := l.length) (by assumption))).2.2.1
    · subst hF hU; exact (im_n l b hl hb (lt_g (n := l.length) (by assumption))).2.2.2.1 0
    · subst hF hU; exact im_ok l b i
    · subst hF hU; exact (im_n l b hl hb (lt_g (n := l.length) (by assumption))).2.2.2.2.1 0
    · rename_i h; subst hF hU; exact (nz_g h ((im_n l b hl hb (lt_g (n := l.length) (by assumption))).2.2.2.2.2)).elim
    · subst hF hU; exact inF rfl (lt_g (n := l.length) (by assumption))
    · subst hF hU; exact (im_k _).1
    · subst hF hU; exact ⟨by decide, by decide⟩
    · subst hF hU; exact (im_k _).2.1
    · subst hF hU; exact (im_k _).1
    · subst hF hU; show (0 : Int) ≤ 1; decide
    · subst hF hU; exact Nat.le_of_ble_eq_true rfl
    · subst hF hU; exact im_ne l
    · subst hF hU; show (2 : Int) ≠ 0; decide
    · subst hF hU; exact (im_n l b hl hb (lt_g (n := l.length) (by assumption))).2.1
    · subst hF hU; exact (im_n l b hl hb (lt_g (n := l.length) (by assumption))).2.2.1
    · subst hF hU; exact (im_k _).2.2
    · refine ⟨(i + 1 : Nat), ?_⟩
      cbv
      subst hF hU
      have hlt : i < l.length := lt_g (by assumption)
      exact ⟨hlt, sub_stepN hlt, ⟨addi1 (by omega), trivial⟩, ⟨⟨addi1 (by omega), trivial⟩, trivial⟩, im_M hl hb hlt, ⟨im_W hl hb hlt, trivial⟩, trivial⟩
    · subst hF hU; exact im_ok l b i
    · rename_i h; subst hF hU; exact (nz_g h (fE_0 ((i : Nat) : Int))).elim
    · refine ⟨(0 : Nat), ?_⟩
      cbv
      subst hF hU
      have hge : l.length ≤ i := ge_g (by assumption)
      have e : i = l.length := Nat.le_antisymm hi hge
      subst e
      have hf : f = true := p_t (by assumption)
      subst hf
      exact ⟨⟨⟨addi1 (by omega), trivial⟩, trivial⟩, rfl, rfl, ⟨rfl, trivial⟩, trivial⟩
    · refine ⟨(0 : Nat), ?_⟩
      cbv
      subst hF hU
      have hge : l.length ≤ i := ge_g (by assumption)
      have e : i = l.length := Nat.le_antisymm hi hge
      subst e
      have hf : f = false := p_f (by assumption)
      subst hf
      exact ⟨⟨⟨rfl, trivial⟩, trivial⟩, rfl, rfl, ⟨rfl, trivial⟩, trivial⟩
    · intro (z : Nat) hz
      cbv
      repeat' first | apply And.intro | refine Classical.or_iff_not_imp_left.2 (fun _ => ?_) | exact trivial
      · subst hF hU; exact im_ok2 l b f
      · refine ⟨(0 : Nat), ?_⟩
        cbv
      · clear hz
        intro (k : Nat) hk
        replace hk : k ≤ 8 := hk
        cbv
        repeat' first | apply And.intro | refine Classical.or_iff_not_imp_left.2 (fun _ => ?_) | exact trivial
        · subst hF hU; exact im_ok2 l b f
        · subst hF hU; exact (im_r f hb (lt_g (n := 8) (by assumption))).1
        · subst hF hU; exact inF rfl (lt_g (n := 8) (by assumption))
        · subst hF hU; exact (im_r f hb (lt_g (n := 8) (by assumption))).2.2.1
        · subst hF hU; exact (im_r f hb (lt_g (n := 8) (by assumption))).2.1
        · subst hF hU; exact inF rfl (lt_g (n := 8) (by assumption))
        · subst hF hU; exact (im_r f hb (lt_g (n := 8) (by assumption))).2.2.1
        · subst hF hU; exact (im_s l b f (lt_g (n := 8) (by assumption))).1
        · subst hF hU; exact (im_s l b f (lt_g (n := 8) (by assumption))).2.1
        · subst hF hU; exact (im_s l b f (lt_g (n := 8) (by assumption))).2.2.1
        · subst hF hU; exact (im_s l b f (lt_g (n := 8) (by assumption))).2.2.2.1
        · subst hF hU; exact (im_s l b f (lt_g (n := 8) (by assumption))).2.2.2.2
        · subst hF hU; exact (im_t hb (lt_g (n := 8) (by assumption))).1
        · rename_i h; subst hF hU
          have hf : f = true := p_t (by assumption)
          subst hf
          exact (ap_ne (im_t hb (lt_g (n := 8) (by assumption))).2 h).elim
        · refine ⟨(k + 1 : Nat), ?_⟩
          cbv
          subst hF hU
          have hlt : k < 8 := lt_g (n := 8) (by assumption)
          exact ⟨hlt, sub_stepN hlt, ⟨addi1 (by omega), trivial⟩, trivial⟩
        · rename_i h; subst hF hU; exact (ap_ne (im_r f hb (lt_g (n := 8) (by assumption))).2.2.2 h).elim
        · rename_i h; subst hF hU; exact absurd rfl h
        · subst hF hU; exact (im_r f hb (lt_g (n := 8) (by assumption))).2.1
        · subst hF hU; exact inF rfl (lt_g (n := 8) (by assumption))
        · subst hF hU; exact (im_r f hb (lt_g (n := 8) (by assumption))).2.2.1
        · subst hF hU; exact (im_s l b f (lt_g (n := 8) (by assumption))).1
        · subst hF hU; exact (im_s l b f (lt_g (n := 8) (by assumption))).2.1
        · subst hF hU; exact (im_s l b f (lt_g (n := 8) (by assumption))).2.2.1
        · subst hF hU; exact (im_s l b f (lt_g (n := 8) (by assumption))).2.2.2.1
        · subst hF hU; exact (im_s l b f (lt_g (n := 8) (by assumption))).2.2.2.2
        · subst hF hU; exact Nat.le_of_ble_eq_true rfl
        · rename_i h; subst hF hU
          have hf : f = false := p_f (by assumption)
          subst hf
          exact (ap_ne (im_f (l := l) hb (lt_g (n := 8) (by assumption))) h).elim
        · refine ⟨(k + 1 : Nat), ?_⟩
          cbv
          subst hF hU
          have hlt : k < 8 := lt_g (n := 8) (by assumption)
          exact ⟨hlt, sub_stepN hlt, ⟨addi1 (by omega), trivial⟩, trivial⟩
        · rename_i h; subst hF hU; exact (ap_ne (im_r f hb (lt_g (n := 8) (by assumption))).2.2.2 h).elim
        · rename_i h; subst hF hU; exact absurd rfl h
        · subst hF hU; exact im_512 l b f
end Go.Proofs.Ythhgmjclmdggjaa
namespace Go.Proofs.Ythhgmjclmdggjaa.sectorImage
open Go.ChangeShapes Go.WideShapes Go.ChangeAt Go.RowKit
set_option linter.unusedVariables false
theorem own : ownKnob Try.prog.godebug = none := by kernel_rfl
theorem laidOut : laidOutB Try.prog = true := p_laidOut
set_option maxRecDepth 100000 in
theorem lifted (os : Os) (started : os.Started) (H : Type) (enc : TypeId × Value → H) :
    ReturnsInHanded {} Try.checked os 6 .any (Rows.sectorImageSpec.pre6 enc Try.prog Try.f6 Rows.sectorImageRow.domain false) (Rows.sectorImageSpec.post enc Try.prog Try.f6 false true false false) := by
  refine returnsInHanded_of_change_shaped (C := Try.checked) own started (by kernel_rfl) Try.func6
    (ChangeSpec.witness6 (enc := enc) (C := Try.checked) false ⟨#[], #[.slice none 0 0, .slice none 0 0, .bool false], []⟩ 8 (by kernel_rfl) (by kernel_rfl) (by kernel_rfl) (by kernel_rfl)) ?_
  intro W base args ds gs before hval0 hW hcnd hrch hsh _
  have hval : ∀ (j : Nat) t v, Try.f6.params[j]? = some t → args[j]? = some v → Value.okWide Try.prog W .any base t v := hval0
  have hW' := hW
  obtain ⟨p, q, hA0, hV, rfl, hfz, hnd⟩ := hW
  have hA : DataW.TrodAll enc Try.prog W 0 (fun _ => true) true Try.f6.params.toList args.toList ds p := hA0
  rw [Try.params6] at hA hval
  obtain ⟨v0, vs0, d0, ds0, p0, q0, hargs, rfl, rfl, h0, r0⟩ := trodAll_cons hA
  obtain ⟨v1, vs1, d1, ds1, p1, q1, rfl, rfl, rfl, h1, r1⟩ := trodAll_cons r0
  obtain ⟨v2, vs2, d2, ds2, p2, q2, rfl, rfl, rfl, h2, r2⟩ := trodAll_cons r1
  obtain ⟨rfl, rfl, rfl⟩ := trodAll_nil r2
  obtain rfl : args = #[v0, v1, v2] := by cases args; simp_all
  obtain ⟨rfl, rfl⟩ := trodVars_none hV
  obtain ⟨l, k0, q0⟩ := Go.Vc.openL8 Try.underlying22 Try.underlying5 (by kernel_rfl) (hval 0 22 v0 rfl rfl) h0
  obtain ⟨b, k1, q1⟩ := Go.Vc.openL8 Try.underlying22 Try.underlying5 (by kernel_rfl) (hval 1 22 v1 rfl rfl) h1
  obtain ⟨f, k2⟩ := Go.Vc.openB Try.underlying4 (hval 2 4 v2 rfl rfl) h2
  clear hA0 hval0
  refine (Go.Vc.law_walk2 (x := x_law6_SectorImage Go.Vc.real us) (an := (an_law6_SectorImage Go.Vc.real us l b f)) (cu := (cu_law6_SectorImage Go.Vc.real us l b f)) (l := [.rb 1 (.bt l), .rb 1 (.bt b), .b f]) (vals := [v0, v1, v2]) ⟨tt_ok, ok_law6_SectorImage, Go.Vc.ks_nil⟩ mixed Try.func6 rfl rfl (by kernel_rfl) hsh (Nat.le_of_ble_eq_true rfl) (Go.Vc.rvs_cons k0 (Go.Vc.rvs_cons k1 (Go.Vc.rvs_cons k2 Go.Vc.rvs_nil))) (c_law6_SectorImage l b f q0 q1)).mono fun e W' ⟨he, bel⟩ => ?_
  subst he
  exact ⟨_, rfl, Go.Vc.post_true (tb := 4) laidOut (by kernel_rfl) rfl Try.underlying4 rfl hW' rfl bel⟩
theorem over : Rows.sectorImageRow.holds Try.pinned (OpenSpec.ofChange Rows.sectorImageSpec) :=
  OpenClaim.holds_of_wide 6 Try.f6 rfl rfl rfl rfl rfl rfl rfl ⟨rfl, rfl, rfl, rfl, rfl⟩ rfl rfl rfl rfl rfl (by kernel_rfl) Try.func6 (Go.Vc.joined_of p_laidOut p_maps p_stops p_knobs p_heard p_mayEnter p_lifts p_make rfl rfl (by kernel_rfl) (by kernel_rfl) (by kernel_rfl) (by kernel_rfl) (by kernel_rfl) (by kernel_rfl) (by kernel_rfl) (by kernel_rfl) (by kernel_rfl) (by kernel_rfl) (by kernel_rfl) (by kernel_rfl) (by kernel_rfl) (by kernel_rfl) (by kernel_rfl) (by kernel_rfl) (by kernel_rfl) (by kernel_rfl) (by kernel_rfl) (by kernel_rfl) (by kernel_rfl) (by kernel_rfl) (by kernel_rfl) (by kernel_rfl) )
    (of_decide_eq_true (by kernel_rfl)) (by unfold Func.isWrapper; first | (rw [if_pos (by decide +kernel)]; kernel_rfl) | (rw [if_neg (by decide +kernel)]; exact ⟨rfl, rfl⟩))
    (fun os started H enc _ => lifted os started H enc)
theorem proved : Rows.SectorImageSaid := over
#print axioms proved
end Go.Proofs.Ythhgmjclmdggjaa.sectorImage

