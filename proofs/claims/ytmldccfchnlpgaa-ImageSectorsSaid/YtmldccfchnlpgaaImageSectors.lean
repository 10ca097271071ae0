/- The given statement is proved: for every input the law's function answers true. No condition. -/
import Derived.Test.YtmldccfchnlpgaaPartX
import Derived.Test.YtmldccfchnlpgaaRows
import Derived.Test.YtmldccfchnlpgaaPart6
import Derived.Test.YtmldccfchnlpgaaPart7
import Derived.WalkKit
import Derived.HandedShaped
import Derived.ProofKit
import Derived.OpenShut
import Derived.ShutString
set_option linter.unusedVariables false
set_option linter.unusedSimpArgs false
set_option maxRecDepth 100000
set_option maxHeartbeats 1000000
namespace Go.Proofs.Ytmldccfchnlpgaa
open Go Go.Vc
/-- arrays of bools, which the seat's table of types leaves out -/
theorem ti_arrB {P : Program} {T n e b : Nat} (hu : P.underlying T = some (.array n e)) (hf : facts P T = some (n, b, some (.agg (List.replicate n (.bool false)).toArray))) : TIok P T ⟨.arr n e, n, b, .arr n ((EK.kD .b).rep real n), none⟩ := by
  obtain ⟨i, h1, h2, h3, h4⟩ := facts_info hf
  have hz : (Value.agg (List.replicate n (.bool false)).toArray).cells.toList = List.replicate n (.bool false) := by simp [Value.cells]
  refine ⟨fun fs h => (by cases h), fun fs lays h1 h2 => (by cases h2), hu, by rw [hu]; rfl, rfl, i, _, h1, h2, h3, h4, by rw [← Array.length_toList, hz]; simp, fun m w => ?_, shOK_ek (o := none) trivial hz⟩
  rw [hz]
  simp only [Lay.segs, SegsR]
  have hb : RC m w ((EK.kD .b).rep real n) (List.replicate n (.bool false)) := by
    have h := kD_RC (m := m) (w := w) .b n
    have e : (List.replicate n Sh.b.zc).flatten = List.replicate n (.bool false) := by
      have : Sh.b.zc = [.bool false] := rfl
      rw [this]
      simp
    rw [e] at h
    exact h
  exact ⟨_, [], (List.append_nil _).symm, by simp, hb, rfl⟩
def tt2 (F : Fs) : TT := (120, ⟨.arr 10 4, 10, 10, .arr 10 ((EK.kD .b).rep F 10), none⟩) :: tt F
theorem tt2_ok : TTok Try.prog (tt2 real) := ttok_cons (ti_arrB (by kernel_rfl) (by kernel_rfl)) tt_ok
theorem ib_0 (A : List UInt8) (l : List UInt16) (c : UInt8) : A = us.ib A l c 0 := rfl
theorem ih_0 (A : List UInt8) (l : List UInt16) : real.repD 10 (real.dz Sh.b) = us.ih A l 0 := rfl
theorem ib_len (A : List UInt8) (l : List UInt16) (c : UInt8) : ∀ i, (u_ib A l c i).length = A.length
  | 0 => rfl
  | i + 1 => by rw [u_ib, List.length_set]; exact ib_len A l c i
theorem ih_len (A : List UInt8) (l : List UInt16) : ∀ i, (u_ih A l i).length = 10
  | 0 => rfl
  | i + 1 => by rw [u_ih, List.length_set]; exact ih_len A l i
theorem is_at (A : List UInt8) (l : List UInt16) (i : Nat) : real.remi (real.wrapi (real.toI16 (real.getH l (real.nat (real.int i))))) (real.int (real.lenB A)) = real.int ((l.getD i 0).toNat % A.length) := by
  have hx := (l.getD i 0).toNat_lt
  have e : real.wrapi (real.toI16 (real.getH l (real.nat (real.int i)))) = ((l.getD i 0).toNat : Int) := by
    show IntKind.i64.wrap ((l.getD i 0).toNat : Int) = _
    rw [wrap_sm (by omega) (by omega)]
  rw [e]
  rfl
theorem is_q {j : Nat} (h : j ≤ 100000) : real.quoi (real.int j) (real.int 64) = real.int (j / 64) := by
  show IntKind.i64.wrap ((j : Int).tdiv 64) = ((j / 64 : Nat) : Int)
  have e : (j : Int).tdiv 64 = ((j / 64 : Nat) : Int) := rfl
  rw [e, wrap_sm (by omega) (by omega)]
theorem ib_s (A : List UInt8) (l : List UInt16) (c : UInt8) {i j : Nat} (hj : (l.getD i 0).toNat % A.length = j) : real.setB (us.ib A l c i) (real.nat (real.int j)) (real.xor8 (real.getB A (real.nat (real.int j))) c) = us.ib A l c (i + 1) := by subst hj; rfl
theorem ih_s (A : List UInt8) (l : List UInt16) {i j q : Nat} (hj : (l.getD i 0).toNat % A.length = j) (hq : j / 64 = q) : real.setD (us.ih A l i) (real.nat (real.int q)) (D.b true) = us.ih A l (i + 1) := by subst hq hj; rfl
theorem is_14 (A B : List UInt8) (K : Nat) : real.int 0 = real.int (real.lenI (us.smL A B (real.minn 0 K))) := by
  show (0 : Int) = (((u_smL A B (min 0 K)).length : Nat) : Int)
  rw [Nat.zero_min]
  rfl
theorem se_c {c : UInt8} (h : ¬ real.pB (real.eq8 c (real.ofI8 (real.int 0))) true) : c ≠ 0 := by
  intro e
  exact h (show (c == 0) = true by rw [e]; rfl)
def dif (A B : List UInt8) (j : Nat) : Prop := ¬ (u_sec A j = u_sec B j ∧ u_scn A j = u_scn B j)
theorem smL_ne {A B : List UInt8} {j : Nat} (h : dif A B j) : u_smL A B (j + 1) = u_smL A B j ++ [(j : Int)] := by rw [u_smL, if_neg h]
theorem smL_eq {A B : List UInt8} {j : Nat} (h : ¬ dif A B j) : u_smL A B (j + 1) = u_smL A B j := by rw [u_smL, if_pos (Decidable.not_not.1 h)]
theorem smL_get {A B : List UInt8} {j : Nat} (h : dif A B j) : ∀ n, j < n → (u_smL A B n)[(u_smL A B j).length]? = some (j : Int)
  | 0, hj => absurd hj (Nat.not_lt_zero j)
  | n + 1, hj => by
    by_cases e : j = n
    · subst e
      rw [smL_ne h, List.getElem?_append_right (Nat.le_refl _), Nat.sub_self]
      rfl
    · have ih := smL_get h n (by omega)
      obtain ⟨hl, _⟩ := List.getElem?_eq_some_iff.1 ih
      by_cases e2 : dif A B n
      · rw [smL_ne e2, List.getElem?_append_left hl]
        exact ih
      · rw [smL_eq e2]
        exact ih
theorem it_len2 (a : List UInt8) (i : Nat) : ((a.drop (64 * i)).take 64).length = min 64 (a.length - 64 * i) := by rw [List.length_take, List.length_drop]
theorem it_iff (a b : List UInt8) (i : Nat) : (a.drop (64 * i)).take 64 = (b.drop (64 * i)).take 64 ↔ u_sec a i = u_sec b i ∧ u_scn a i = u_scn b i := by
  constructor
  · intro h
    have hl := congrArg List.length h
    rw [it_len2, it_len2] at hl
    unfold u_sec u_scn
    rw [h, hl]
    have e : 64 - (a.length - 64 * i) = 64 - (b.length - 64 * i) := by omega
    rw [e]
    exact ⟨rfl, rfl⟩
  · rintro ⟨h1, h2⟩
    unfold u_scn at h2
    unfold u_sec at h1
    exact (List.append_inj h1 (by rw [it_len2, it_len2]; omega)).1
theorem dif_iff {A B : List UInt8} {K j : Nat} (hA : A.length = 64 * K) (hB : B.length = A.length) (hj : j < K) : dif A B j ↔ ∃ pos, pos < A.length ∧ pos / 64 = j ∧ B.getD pos 0 ≠ A.getD pos 0 := by
  unfold dif
  rw [← it_iff]
  constructor
  · intro h
    by_cases e : ∃ pos, pos < A.length ∧ pos / 64 = j ∧ B.getD pos 0 ≠ A.getD pos 0
    · exact e
    · refine absurd (List.ext_getElem? fun x => ?_) h
      rw [List.getElem?_take, List.getElem?_take, List.getElem?_drop, List.getElem?_drop]
      split
      · rename_i hx
        have h1 : 64 * j + x < A.length := by omega
        have h2 : B.getD (64 * j + x) 0 = A.getD (64 * j + x) 0 := by
          by_cases g : B.getD (64 * j + x) 0 = A.getD (64 * j + x) 0
          · exact g
          · exact absurd ⟨64 * j + x, h1, by omega, g⟩ e
        rw [List.getD_eq_getElem?_getD, List.getD_eq_getElem?_getD, List.getElem?_eq_getElem h1, List.getElem?_eq_getElem (by omega)] at h2
        rw [List.getElem?_eq_getElem h1, List.getElem?_eq_getElem (by omega)]
        exact congrArg some h2.symm
      · rfl
  · rintro ⟨pos, h1, h2, h3⟩ h
    have h4 := congrArg (fun (z : List UInt8) => z[pos - 64 * j]?) h
    simp only [List.getElem?_take, List.getElem?_drop] at h4
    rw [if_pos (by omega), if_pos (by omega)] at h4
    have e : 64 * j + (pos - 64 * j) = pos := by omega
    rw [e] at h4
    refine h3 ?_
    rw [List.getD_eq_getElem?_getD, List.getD_eq_getElem?_getD, h4]
theorem xor_ne {a c : UInt8} (hc : c ≠ 0) : a ^^^ c ≠ a := by
  intro e
  refine hc ?_
  have h2 : a ^^^ (a ^^^ c) = a ^^^ a := by rw [e]
  rw [← UInt8.xor_assoc, UInt8.xor_self, UInt8.zero_xor] at h2
  exact h2
theorem getD_set (B : List UInt8) (p q : Nat) (x : UInt8) : (B.set p x).getD q 0 = if p = q ∧ p < B.length then x else B.getD q 0 := by
  rw [List.getD_eq_getElem?_getD, List.getD_eq_getElem?_getD, List.getElem?_set]
  by_cases h : p = q
  · subst h
    by_cases h2 : p < B.length
    · simp [h2]
    · simp [h2]
  · simp [h]
theorem ih_iff {A : List UInt8} (l : List UInt16) {c : UInt8} (hc : c ≠ 0) (hA : 0 < A.length) : ∀ (i j : Nat), j < 10 → (((u_ih A l i).getD j D.no).gb = true ↔ ∃ pos, pos < A.length ∧ pos / 64 = j ∧ (u_ib A l c i).getD pos 0 ≠ A.getD pos 0)
  | 0, j, hj => by
    have e : (u_ih A l 0).getD j D.no = D.b false := by
      show (List.replicate 10 (D.b false)).getD j D.no = D.b false
      rw [List.getD_eq_getElem?_getD, List.getElem?_replicate, if_pos hj]
      rfl
    rw [e]
    constructor
    · intro h; cases h
    · rintro ⟨pos, _, _, h⟩
      exact absurd rfl h
  | i + 1, j, hj => by
    have ih := ih_iff l hc hA i j hj
    obtain ⟨p, hp⟩ : ∃ p, (l.getD i 0).toNat % A.length = p := ⟨_, rfl⟩
    have hpl : p < A.length := by rw [← hp]; exact Nat.mod_lt _ hA
    have hH := ih_len A l i
    have hB := ib_len A l c i
    have e1 : u_ih A l (i + 1) = (u_ih A l i).set (p / 64) (.b true) := by rw [← hp]; rfl
    have e2 : u_ib A l c (i + 1) = (u_ib A l c i).set p (A.getD p 0 ^^^ c) := by rw [← hp]; rfl
    rw [e1, e2]
    by_cases e : p / 64 = j
    · have e3 : ((u_ih A l i).set (p / 64) (D.b true)).getD j D.no = D.b true := by
        rw [List.getD_eq_getElem?_getD, List.getElem?_set, if_pos e, if_pos (by omega)]
        rfl
      rw [e3]
      refine ⟨fun _ => ⟨p, hpl, e, ?_⟩, fun _ => rfl⟩
      rw [getD_set, if_pos ⟨rfl, by omega⟩]
      exact xor_ne hc
    · have e3 : ((u_ih A l i).set (p / 64) (D.b true)).getD j D.no = (u_ih A l i).getD j D.no := by
        rw [List.getD_eq_getElem?_getD, List.getElem?_set, if_neg e, List.getD_eq_getElem?_getD]
      rw [e3, ih]
      constructor
      · rintro ⟨pos, h1, h2, h3⟩
        refine ⟨pos, h1, h2, ?_⟩
        rw [getD_set, if_neg (fun h => e (by rw [h.1]; exact h2))]
        exact h3
      · rintro ⟨pos, h1, h2, h3⟩
        refine ⟨pos, h1, h2, ?_⟩
        rw [getD_set, if_neg (fun h => e (by rw [h.1]; exact h2))] at h3
        exact h3
noncomputable abbrev seB (A : List UInt8) (l : List UInt16) (c : UInt8) : List UInt8 := us.ib A l c (real.lenH l)
noncomputable abbrev seH (A : List UInt8) (l : List UInt16) (j : Nat) : Bool := real.dB (real.getD (us.ih A l (real.lenH l)) (real.nat (real.int j)))
theorem hit_iff {A : List UInt8} {l : List UInt16} {c : UInt8} {K j : Nat} (hc : c ≠ 0) (k1 : 1 ≤ K) (k3 : A.length = 64 * K) (hj : j < 10) : seH A l j = true ↔ j < K ∧ dif A (seB A l c) j := by
  have h1 := ih_iff (A := A) l hc (by omega) l.length j hj
  have hB : (seB A l c).length = A.length := ib_len A l c l.length
  have e : seH A l j = ((u_ih A l l.length).getD j D.no).gb := rfl
  rw [e, h1]
  constructor
  · rintro ⟨pos, h2, h3, h4⟩
    have hjK : j < K := by omega
    exact ⟨hjK, (dif_iff k3 hB hjK).2 ⟨pos, h2, h3, h4⟩⟩
  · rintro ⟨hjK, h2⟩
    exact (dif_iff k3 hB hjK).1 h2
theorem seN {A : List UInt8} {l : List UInt16} {c : UInt8} {K : Nat} (k3 : A.length = 64 * K) : us.smN A (seB A l c) = K := by
  have hB : (seB A l c).length = A.length := ib_len A l c l.length
  show (max A.length (seB A l c).length + 63) / 64 = K
  rw [hB, Nat.max_self, k3]
  omega
theorem nb_t {b : Bool} (h : ¬ real.pB (real.notb b) true) : b = true := by
  cases b with
  | true => rfl
  | false => exact absurd rfl h
theorem nb_f {b : Bool} (h : ¬ real.pB (real.notb b) false) : b = false := by
  cases b with
  | false => rfl
  | true => exact absurd rfl h
theorem se_no {A : List UInt8} {l : List UInt16} {c : UInt8} {K j : Nat} (p : c ≠ 0) (k1 : 1 ≤ K) (k3 : A.length = 64 * K) (hj : j < 10) (h : ¬ real.pB (real.notb (seH A l j)) false) : real.int (real.lenI (us.smL A (seB A l c) (real.minn j K))) = real.int (real.lenI (us.smL A (seB A l c) (real.minn (j + 1) K))) := by
  have h1 := nb_f h
  have h2 : ¬ (j < K ∧ dif A (seB A l c) j) := fun e => by
    rw [(hit_iff p k1 k3 hj).2 e] at h1
    cases h1
  show (((u_smL A (seB A l c) (min j K)).length : Nat) : Int) = (((u_smL A (seB A l c) (min (j + 1) K)).length : Nat) : Int)
  by_cases e : j < K
  · have h3 : ¬ dif A (seB A l c) j := fun g => h2 ⟨e, g⟩
    rw [Nat.min_eq_left (by omega), Nat.min_eq_left (by omega), smL_eq h3]
  · rw [Nat.min_eq_right (by omega), Nat.min_eq_right (by omega)]
theorem se_yes {A : List UInt8} {l : List UInt16} {c : UInt8} {K j : Nat} (p : c ≠ 0) (k1 : 1 ≤ K) (k2 : K ≤ 10) (k3 : A.length = 64 * K) (hj : j < 10) (h : ¬ real.pB (real.notb (seH A l j)) true) : real.addi (real.int (real.lenI (us.smL A (seB A l c) (real.minn j K)))) (real.int 1) = real.int (real.lenI (us.smL A (seB A l c) (real.minn (j + 1) K))) := by
  obtain ⟨hjK, hd⟩ := (hit_iff p k1 k3 hj).1 (nb_t h)
  have hl := sm_len A (seB A l c) j
  show IntKind.i64.wrap ((((u_smL A (seB A l c) (min j K)).length : Nat) : Int) + 1) = (((u_smL A (seB A l c) (min (j + 1) K)).length : Nat) : Int)
  rw [Nat.min_eq_left (by omega), Nat.min_eq_left (by omega), smL_ne hd, List.length_append, wrap_sm (by omega) (by omega)]
  show _ = (((u_smL A (seB A l c) j).length + 1 : Nat) : Int)
  omega
theorem se_get {A : List UInt8} {l : List UInt16} {c : UInt8} {K j : Nat} (p : c ≠ 0) (k1 : 1 ≤ K) (k3 : A.length = 64 * K) (hj : j < 10) (h : ¬ real.pB (real.notb (seH A l j)) true) : real.pB (real.notb (real.eqi (real.getI (us.smL A (seB A l c) (us.smN A (seB A l c))) (real.nat (real.int (real.lenI (us.smL A (seB A l c) (real.minn j K)))))) (real.int j))) false := by
  obtain ⟨hjK, hd⟩ := (hit_iff p k1 k3 hj).1 (nb_t h)
  rw [seN k3]
  have hg := smL_get hd K hjK
  have e : real.getI (us.smL A (seB A l c) K) (real.nat (real.int (real.lenI (us.smL A (seB A l c) (real.minn j K))))) = (j : Int) := by
    show (u_smL A (seB A l c) K).getD (u_smL A (seB A l c) (min j K)).length 0 = (j : Int)
    rw [Nat.min_eq_left (by omega), List.getD_eq_getElem?_getD, hg]
    rfl
  rw [e]
  show (!((j : Int) == (j : Int))) = false
  simp
theorem se_lt {A : List UInt8} {l : List UInt16} {c : UInt8} {K j : Nat} (p : c ≠ 0) (k1 : 1 ≤ K) (k3 : A.length = 64 * K) (hj : j < 10) (h : ¬ real.pB (real.notb (seH A l j)) true) : real.pB (real.lei (real.int (real.lenI (us.smL A (seB A l c) (us.smN A (seB A l c))))) (real.int (real.lenI (us.smL A (seB A l c) (real.minn j K))))) false := by
  obtain ⟨hjK, hd⟩ := (hit_iff p k1 k3 hj).1 (nb_t h)
  rw [seN k3]
  obtain ⟨hl, _⟩ := List.getElem?_eq_some_iff.1 (smL_get hd K hjK)
  refine decide_eq_false ?_
  show ¬ (((u_smL A (seB A l c) K).length : Nat) : Int) ≤ (((u_smL A (seB A l c) (min j K)).length : Nat) : Int)
  rw [Nat.min_eq_left (by omega)]
  omega
theorem se_end {A : List UInt8} {l : List UInt16} {c : UInt8} {K : Nat} (k2 : K ≤ 10) (k3 : A.length = 64 * K) : real.eqi (real.int (real.lenI (us.smL A (seB A l c) (real.minn 10 K)))) (real.int (real.lenI (us.smL A (seB A l c) (us.smN A (seB A l c))))) = true := by
  rw [seN k3]
  show ((((u_smL A (seB A l c) (min 10 K)).length : Nat) : Int) == (((u_smL A (seB A l c) K).length : Nat) : Int)) = true
  rw [Nat.min_eq_right k2]
  simp
theorem ip5 : real.pB (real.notb true) false := rfl
theorem is_ne10 : real.pNe (real.toI8 (real.ofI8 (real.int 10))) := by show ¬ (_ = _); decide
theorem is_n (p : UInt8) : real.muli (real.int 64) (real.addi (real.wrapi (real.toI8 (real.rem8 p (real.ofI8 (real.int 10))))) (real.int 1)) = real.int (64 * (p.toNat % 10 + 1)) := by
  have ha := p.toNat_lt
  have e : (real.ofI8 (real.int 10)).toNat = 10 := rfl
  have e2 : (real.rem8 p (real.ofI8 (real.int 10))).toNat = p.toNat % 10 := by
    show (p % real.ofI8 (real.int 10)).toNat = _
    rw [UInt8.toNat_mod, e]
  have e3 : real.wrapi (real.toI8 (real.rem8 p (real.ofI8 (real.int 10)))) = ((p.toNat % 10 : Nat) : Int) := by
    show IntKind.i64.wrap (((real.rem8 p (real.ofI8 (real.int 10))).toNat : Nat) : Int) = _
    rw [e2, wrap_sm (by omega) (by omega)]
  rw [e3]
  have e4 : real.addi ((p.toNat % 10 : Nat) : Int) (real.int 1) = ((p.toNat % 10 + 1 : Nat) : Int) := by
    show IntKind.i64.wrap (((p.toNat % 10 : Nat) : Int) + 1) = _
    rw [wrap_sm (by omega) (by omega)]
    omega
  rw [e4]
  show IntKind.i64.wrap (64 * ((p.toNat % 10 + 1 : Nat) : Int)) = ((64 * (p.toNat % 10 + 1) : Nat) : Int)
  rw [wrap_sm (by omega) (by omega)]
  omega
theorem is_p0 {n : Nat} : real.p0 (real.int n) := by show (0 : Int) ≤ (n : Int); omega
theorem is_pm {n : Nat} (h : n ≤ 640) : real.pMk (real.int n) 1 := by
  show (0 : Int) ≤ (n : Int) ∧ (n : Int) * 1 ≤ 281474976710656 ∧ (n : Int) ≤ 4611686018427387904
  omega
theorem ia_0 (n : Nat) : real.repB (real.nat (real.int n)) = us.ia n 0 := by
  show List.replicate n 0 = u_ia n 0
  unfold u_ia
  rfl
theorem ia_len {n i : Nat} (h : i ≤ n) : (u_ia n i).length = n := by
  unfold u_ia
  rw [List.length_append, List.length_map, List.length_range, List.length_replicate]
  omega
theorem ia_s {n i : Nat} (h : i < n) (hn : n ≤ 640) : real.setB (us.ia n i) (real.nat (real.int i)) (real.ofI8 (real.muli (real.int i) (real.int 7))) = us.ia n (i + 1) := by
  have e : real.ofI8 (real.muli (real.int i) (real.int 7)) = UInt8.ofNat (i * 7) := by
    have e1 : real.muli (real.int i) (real.int 7) = ((i * 7 : Nat) : Int) := by
      show IntKind.i64.wrap ((i : Int) * 7) = _
      rw [wrap_sm (by omega) (by omega)]
      omega
    rw [e1]
    show UInt8.ofNat (((i * 7 : Nat) : Int) % 256).toNat = _
    apply UInt8.toNat_inj.1
    rw [UInt8.toNat_ofNat', UInt8.toNat_ofNat']
    omega
  rw [e]
  show (u_ia n i).set i (UInt8.ofNat (i * 7)) = u_ia n (i + 1)
  unfold u_ia
  have hl : ((List.range i).map fun j => UInt8.ofNat (j * 7)).length = i := by rw [List.length_map, List.length_range]
  rw [List.set_append_right _ _ (by omega), hl, Nat.sub_self, List.range_succ, List.map_append, List.append_assoc]
  congr 1
  have : n - i = (n - (i + 1)) + 1 := by omega
  rw [this, List.replicate_succ]
  rfl
end Go.Proofs.Ytmldccfchnlpgaa
attribute [local irreducible] Go.Proofs.Ytmldccfchnlpgaa.u_uwE Go.Proofs.Ytmldccfchnlpgaa.u_uwK Go.Proofs.Ytmldccfchnlpgaa.u_cut48 Go.Proofs.Ytmldccfchnlpgaa.u_wrI Go.Proofs.Ytmldccfchnlpgaa.u_wrO Go.Proofs.Ytmldccfchnlpgaa.u_wrF Go.Proofs.Ytmldccfchnlpgaa.u_wrp Go.Proofs.Ytmldccfchnlpgaa.u_smL Go.Proofs.Ytmldccfchnlpgaa.u_smN Go.Proofs.Ytmldccfchnlpgaa.u_find Go.Proofs.Ytmldccfchnlpgaa.u_plain Go.Proofs.Ytmldccfchnlpgaa.u_wm Go.Proofs.Ytmldccfchnlpgaa.u_plN Go.Proofs.Ytmldccfchnlpgaa.u_plK Go.Proofs.Ytmldccfchnlpgaa.u_ia Go.Proofs.Ytmldccfchnlpgaa.u_ib Go.Proofs.Ytmldccfchnlpgaa.u_ih
namespace Go.Proofs.Ytmldccfchnlpgaa
open Go Go.Vc
noncomputable def sp_law27_ImageSectors (F : Fs) (U : Us) : Specs := [(81, s_law27_known F U), (83, s_image_Same F U)]
theorem ok_law27_ImageSectors : SpecsOK Try.prog (sp_law27_ImageSectors real us) := sp_cons r_law27_known k_law27_known (sp_cons r_image_Same k_image_Same sp_nil)
noncomputable def an_law27_ImageSectors (F : Fs) (U : Us) (p : UInt8) (l : List UInt16) (c : UInt8) : Anns := [(7, ⟨Nat × Nat, fun t => (F.pLe 1 t.1 ∧ F.pLe t.1 10) ∧ F.pLe t.2 (F.muln 64 t.1), fun t => F.subn (F.muln 64 t.1) t.2, fun t => ⟨[(1, .rb 1 (.wh l)), (2, .w8 c), (7, .rw 0), (8, .i (F.int t.2))], [(7, 0, .row 5 1 (.bt (U.ia (F.muln 64 t.1) t.2)))]⟩⟩),
  (13, ⟨Nat × Nat × List UInt8, fun t => ((F.pLe 1 t.1 ∧ F.pLe t.1 10) ∧ F.pEqN (F.lenB t.2.2) (F.muln 64 t.1)) ∧ F.pLe t.2.1 (F.lenH l), fun t => F.subn (F.lenH l) t.2.1, fun t => ⟨[(1, .rb 1 (.wh l)), (2, .w8 c), (7, .rw 0), (9, .rw 1), (10, .p 2 0 0), (11, .i (F.int t.2.1))], [(7, 0, .row 5 1 (.bt t.2.2)), (9, 1, .row 5 1 (.bt (U.ib t.2.2 l c t.2.1))), (10, 2, .bk 120 [(10, .ds .b (U.ih t.2.2 l t.2.1))])]⟩⟩),
  (21, ⟨Nat × Nat × List UInt8, fun t => ((F.pLe 1 t.1 ∧ F.pLe t.1 10) ∧ F.pEqN (F.lenB t.2.2) (F.muln 64 t.1)) ∧ F.pLe t.2.1 10, fun t => F.subn 10 t.2.1, fun t => ⟨[(10, .p 0 0 0), (13, .rw 1), (14, .i (F.int (F.lenI (U.smL t.2.2 (U.ib t.2.2 l c (F.lenH l)) (F.minn t.2.1 t.1))))), (15, .i (F.int t.2.1))], [(10, 0, .bk 120 [(10, .ds .b (U.ih t.2.2 l (F.lenH l)))]), (13, 1, .row 3 1 (.is (U.smL t.2.2 (U.ib t.2.2 l c (F.lenH l)) (U.smN t.2.2 (U.ib t.2.2 l c (F.lenH l))))))]⟩⟩)]
noncomputable def x_law27_ImageSectors (F : Fs) (U : Us) : Cx := ⟨Try.f29.ntmps, tt2 F, sp_law27_ImageSectors F U, [], [], [], []⟩
theorem c_law27_ImageSectors (p : UInt8) (l : List UInt16) (c : UInt8) (q1 : l.length ≤ 9223372036854775807) : vc real (x_law27_ImageSectors real us) (an_law27_ImageSectors real us p l c) [] (Try.f29.body.getD .skip) ⟨zipSl 0 [.w8 p, .rb 1 (.wh l), .w8 c], [], 64⟩ (retOk real (tt2 real) false Try.f29.results.toList [.val (.b true)]) := by
  generalize hU : us = U
  generalize hF : real = F
  obtain ⟨K, hK⟩ : ∃ K, p.toNat % 10 + 1 = K := ⟨_, rfl⟩
  have hK1 : 1 ≤ K := by omega
  have hK2 : K ≤ 10 := by omega
  have e1 : F.muli (F.int 64) (F.addi (F.wrapi (F.toI8 (F.rem8 p (F.ofI8 (F.int 10))))) (F.int 1)) = F.int (F.muln 64 K) := by rw [← hK]; subst hF; exact is_n p
  have hl : ¬ F.pB (F.lti (F.int 20) (F.int (F.lenH l))) true → l.length ≤ 20 := by subst hF; exact fun h => ge_g h
  have hc0 : ¬ F.pB (F.eq8 c (F.ofI8 (F.int 0))) true → c ≠ 0 := by subst hF; exact se_c
  cbv
  repeat' first | apply And.intro | refine Classical.or_iff_not_imp_left.2 (fun _ => ?_) | exact trivial
  all_goals (try simp only [e1] at *)
  all_goals try (subst hF hU; simp only [real, us, Nat.le_eq, Int.cast_ofNat_Int, decide_eq_false_iff_not, decide_eq_true_eq, List.length_take, List.length_drop, List.length_append, List.length_replicate, List.length_set, List.length_cons, List.length_nil, List.length_zipWith] at *; (try simp (disch := omega) only [wrap_sm] at *); omega)
  · subst hF; exact absurd ip5 (by assumption)
  · subst hF; exact is_ne10
  · rename_i g0 g1 g2
    clear g0 g1 g2
    refine ⟨((K, 0) : Nat × Nat), ?_⟩
    cbv; subst hF hU
    exact ⟨⟨⟨hK1, hK2⟩, Nat.zero_le _⟩, ia_0 _, trivial⟩
  · rename_i g0 g1 g2
    have hl20 := hl g1
    clear g0 hl e1
    intro (t : Nat × Nat) ht
    obtain ⟨K, i⟩ := t
    have k1 : 1 ≤ K := by subst hF; exact ht.1.1
    have k2 : K ≤ 10 := by subst hF; exact ht.1.2
    have k3 : i ≤ 64 * K := by subst hF; exact ht.2
    clear ht
    obtain ⟨N, hN⟩ : ∃ N, F.muln 64 K = N := ⟨_, rfl⟩
    have hN2 : N = 64 * K := by subst hF; exact hN.symm
    have hil := ia_len (n := N) (i := i) (by omega)
    cbv
    repeat' first | apply And.intro | refine Classical.or_iff_not_imp_left.2 (fun _ => ?_) | exact trivial
    all_goals (try simp only [hN] at *)
    all_goals try (subst hF hU; simp only [real, us, Nat.le_eq, Int.cast_ofNat_Int, decide_eq_false_iff_not, decide_eq_true_eq, List.length_take, List.length_drop, List.length_append, List.length_replicate, List.length_set, List.length_cons, List.length_nil, List.length_zipWith] at *; (try simp (disch := omega) only [wrap_sm] at *); omega)
    · rename_i g3
      have hlt : i < N := by
        have := lt_g (n := (u_ia N i).length) (by subst hF hU; exact g3)
        omega
      clear g1 g2 g3
      refine ⟨((K, i + 1) : Nat × Nat), ?_⟩
      cbv; subst hF hU hN2
      exact ⟨⟨⟨k1, k2⟩, hlt⟩, sub_stepN hlt, ⟨addi1 (by omega), trivial⟩, ia_s hlt (by omega), trivial⟩
    · rename_i g3
      have hge : N ≤ i := by
        have := ge_g (n := (u_ia N i).length) (by subst hF hU; exact g3)
        omega
      clear g1 g2 g3
      refine ⟨((K, 0, U.ia N i) : Nat × Nat × List UInt8), ?_⟩
      cbv; subst hF hU hN2
      exact ⟨⟨⟨⟨k1, k2⟩, hil⟩, Nat.zero_le _⟩, ib_0 _ _ _, ⟨ih_0 _ _, trivial⟩, trivial⟩
    · rename_i g3
      clear g1 g3 hil hN2 hN k3 k1 k2
      clear N i K
      intro (t : Nat × Nat × List UInt8) ht
      obtain ⟨K, i, A⟩ := t
      have k1 : 1 ≤ K := by subst hF; exact ht.1.1.1
      have k2 : K ≤ 10 := by subst hF; exact ht.1.1.2
      have k3 : A.length = 64 * K := by subst hF; exact ht.1.2
      have k4 : i ≤ l.length := by subst hF; exact ht.2
      clear ht
      have hB := ib_len A l c i
      have hH := ih_len A l i
      obtain ⟨j, hj⟩ : ∃ j, (l.getD i 0).toNat % A.length = j := ⟨_, rfl⟩
      obtain ⟨q, hq⟩ : ∃ q, j / 64 = q := ⟨_, rfl⟩
      have hj2 : j < A.length := by rw [← hj]; exact Nat.mod_lt _ (by omega)
      have hq2 : q < K := by omega
      have e3 : F.remi (F.wrapi (F.toI16 (F.getH l (F.nat (F.int i))))) (F.int (F.lenB A)) = F.int j := by rw [← hj]; subst hF; exact is_at A l i
      have e4 : F.quoi (F.int j) (F.int 64) = F.int q := by rw [← hq]; subst hF; exact is_q (by omega)
      cbv
      repeat' first | apply And.intro | refine Classical.or_iff_not_imp_left.2 (fun _ => ?_) | exact trivial
      all_goals (try simp only [e3] at *)
      all_goals (try simp only [e4] at *)
      all_goals try (subst hF hU; simp only [real, us, Nat.le_eq, Int.cast_ofNat_Int, decide_eq_false_iff_not, decide_eq_true_eq, List.length_take, List.length_drop, List.length_append, List.length_replicate, List.length_set, List.length_cons, List.length_nil, List.length_zipWith] at *; (try simp (disch := omega) only [wrap_sm] at *); omega)
      · rename_i g3
        have hlt : i < l.length := by subst hF; exact lt_g g3
        clear g2 g3 hB hH hj2 hq2 e3 e4
        refine ⟨((K, i + 1, A) : Nat × Nat × List UInt8), ?_⟩
        cbv; subst hF hU
        exact ⟨⟨⟨⟨k1, k2⟩, k3⟩, hlt⟩, sub_stepN hlt, ⟨addi1 (by omega), trivial⟩, ib_s A l c hj, ⟨ih_s A l hj hq, trivial⟩, trivial⟩
      · rename_i g3
        have hge : i = l.length := Nat.le_antisymm k4 (by subst hF; exact ge_g g3)
        clear g2 g3 hl20 hB hH hj2 hq2 e3 e4 hj hq
        refine ⟨((K, 0, A) : Nat × Nat × List UInt8), ?_⟩
        cbv; subst hF hU hge
        exact ⟨⟨⟨⟨k1, k2⟩, k3⟩, Nat.zero_le _⟩, ⟨is_14 _ _ _, trivial⟩, ⟨rfl, trivial⟩, rfl, trivial⟩
      · rename_i g3
        clear g3 e3 e4 hB hH hj2 hq2 k3 k4 hj hq k1 k2
        clear K i A
        intro (t : Nat × Nat × List UInt8) ht
        obtain ⟨K, j, A⟩ := t
        have k1 : 1 ≤ K := by subst hF; exact ht.1.1.1
        have k2 : K ≤ 10 := by subst hF; exact ht.1.1.2
        have k3 : A.length = 64 * K := by subst hF; exact ht.1.2
        have k4 : j ≤ 10 := by subst hF; exact ht.2
        clear ht
        have hB := ib_len A l c l.length
        have hH := ih_len A l l.length
        cbv
        repeat' first | apply And.intro | refine Classical.or_iff_not_imp_left.2 (fun _ => ?_) | exact trivial
        all_goals try (subst hF hU; simp only [real, us, Nat.le_eq, Int.cast_ofNat_Int, decide_eq_false_iff_not, decide_eq_true_eq, List.length_take, List.length_drop, List.length_append, List.length_replicate, List.length_set, List.length_cons, List.length_nil, List.length_zipWith] at *; (try simp (disch := omega) only [wrap_sm] at *); omega)
        · rename_i g3 g4
          have hlt : j < 10 := by subst hF; exact lt_g g3
          have z := se_no (p := hc0 g2) k1 k3 hlt (by subst hF hU; exact g4)
          clear g2 g3 g4 hB hH hc0
          refine ⟨((K, j + 1, A) : Nat × Nat × List UInt8), ?_⟩
          cbv; subst hF hU
          exact ⟨⟨⟨⟨k1, k2⟩, k3⟩, hlt⟩, sub_stepN hlt, ⟨z, addi1 (by omega), trivial⟩, trivial⟩
        · rename_i g3 g4 g5 g6
          have hlt : j < 10 := by subst hF; exact lt_g g3
          have hc := hc0 g2
          subst hF hU
          exact absurd (se_get hc k1 k3 hlt g4) g6
        · rename_i g3 g4 g5 g6
          have hlt : j < 10 := by subst hF; exact lt_g g3
          have z := se_yes (p := hc0 g2) k1 k2 k3 hlt (by subst hF hU; exact g4)
          clear g2 g3 g4 g5 g6 hB hH hc0
          refine ⟨((K, j + 1, A) : Nat × Nat × List UInt8), ?_⟩
          cbv; subst hF hU
          exact ⟨⟨⟨⟨k1, k2⟩, k3⟩, hlt⟩, sub_stepN hlt, ⟨z, addi1 (by omega), trivial⟩, trivial⟩
        · rename_i g3 g4 g5
          have hlt : j < 10 := by subst hF; exact lt_g g3
          have hc := hc0 g2
          subst hF hU
          exact absurd (se_lt hc k1 k3 hlt g4) g5
        · rename_i g3
          have hge : j = 10 := Nat.le_antisymm k4 (by subst hF; exact ge_g g3)
          subst hF hU hge
          exact se_end k2 k3
end Go.Proofs.Ytmldccfchnlpgaa
namespace Go.Proofs.Ytmldccfchnlpgaa.imageSectors
open Go.ChangeShapes Go.WideShapes Go.ChangeAt Go.RowKit
set_option linter.unusedVariables false
theorem own : ownKnob Try.prog.godebug = none := by kernel_rfl
theorem laidOut : laidOutB Try.prog = true := p_laidOut
set_option maxRecDepth 100000 in
theorem lifted (os : Os) (started : os.Started) (H : Type) (enc : TypeId × Value → H) :
    ReturnsInHanded {} Try.checked os 29 .any (Rows.imageSectorsSpec.pre6 enc Try.prog Try.f29 Rows.imageSectorsRow.domain false) (Rows.imageSectorsSpec.post enc Try.prog Try.f29 false true false false) := by
  refine returnsInHanded_of_change_shaped (C := Try.checked) own started (by kernel_rfl) Try.func29
    (ChangeSpec.witness6 (enc := enc) (C := Try.checked) false ⟨#[], #[.int .u8 0, .slice none 0 0, .int .u8 0], []⟩ 8 (by kernel_rfl) (by kernel_rfl) (by kernel_rfl) (by kernel_rfl)) ?_
  intro W base args ds gs before hval0 hW hcnd hrch hsh _
  have hval : ∀ (j : Nat) t v, Try.f29.params[j]? = some t → args[j]? = some v → Value.okWide Try.prog W .any base t v := hval0
  have hW' := hW
  obtain ⟨p, q, hA0, hV, rfl, hfz, hnd⟩ := hW
  have hA : DataW.TrodAll enc Try.prog W 0 (fun _ => true) true Try.f29.params.toList args.toList ds p := hA0
  rw [Try.params29] at hA hval
  obtain ⟨v0, vs0, d0, ds0, p0, q0, hargs, rfl, rfl, h0, r0⟩ := trodAll_cons hA
  obtain ⟨v1, vs1, d1, ds1, p1, q1, rfl, rfl, rfl, h1, r1⟩ := trodAll_cons r0
  obtain ⟨v2, vs2, d2, ds2, p2, q2, rfl, rfl, rfl, h2, r2⟩ := trodAll_cons r1
  obtain ⟨rfl, rfl, rfl⟩ := trodAll_nil r2
  obtain rfl : args = #[v0, v1, v2] := by cases args; simp_all
  obtain ⟨rfl, rfl⟩ := trodVars_none hV
  obtain ⟨p, k0⟩ := Go.Vc.open8 Try.underlying5 (hval 0 5 v0 rfl rfl) h0
  obtain ⟨l, k1, q1⟩ := Go.Vc.openL16 Try.underlying119 Try.underlying35 (by kernel_rfl) (hval 1 119 v1 rfl rfl) h1
  obtain ⟨c, k2⟩ := Go.Vc.open8 Try.underlying5 (hval 2 5 v2 rfl rfl) h2
  clear hA0 hval0
  refine (Go.Vc.law_walk2 (x := x_law27_ImageSectors Go.Vc.real us) (an := (an_law27_ImageSectors Go.Vc.real us p l c)) (cu := []) (l := [.w8 p, .rb 1 (.wh l), .w8 c]) (vals := [v0, v1, v2]) ⟨tt2_ok, ok_law27_ImageSectors, Go.Vc.ks_nil⟩ mixed Try.func29 rfl rfl (by kernel_rfl) hsh (Nat.le_of_ble_eq_true rfl) (Go.Vc.rvs_cons k0 (Go.Vc.rvs_cons k1 (Go.Vc.rvs_cons k2 Go.Vc.rvs_nil))) (c_law27_ImageSectors p l c q1)).mono fun e W' ⟨he, bel⟩ => ?_
  subst he
  exact ⟨_, rfl, Go.Vc.post_true (tb := 4) laidOut (by kernel_rfl) rfl Try.underlying4 rfl hW' rfl bel⟩
theorem over : Rows.imageSectorsRow.holds Try.pinned (OpenSpec.ofChange Rows.imageSectorsSpec) :=
  OpenClaim.holds_of_wide 29 Try.f29 rfl rfl rfl rfl rfl rfl rfl ⟨rfl, rfl, rfl, rfl, rfl⟩ rfl rfl rfl rfl rfl (by kernel_rfl) Try.func29 (Go.Vc.joined_of p_laidOut p_maps p_stops p_knobs p_heard p_mayEnter p_lifts p_make rfl rfl (by kernel_rfl) (by kernel_rfl) (by kernel_rfl) (by kernel_rfl) (by kernel_rfl) (by kernel_rfl) (by kernel_rfl) (by kernel_rfl) (by kernel_rfl) (by kernel_rfl) (by kernel_rfl) (by kernel_rfl) (by kernel_rfl) (by kernel_rfl) (by kernel_rfl) (by kernel_rfl) (by kernel_rfl) (by kernel_rfl) (by kernel_rfl) (by kernel_rfl) (by kernel_rfl) (by kernel_rfl) (by kernel_rfl) (by kernel_rfl) )
    (of_decide_eq_true (by kernel_rfl)) (by unfold Func.isWrapper; first | (rw [if_pos (by decide +kernel)]; kernel_rfl) | (rw [if_neg (by decide +kernel)]; exact ⟨rfl, rfl⟩))
    (fun os started H enc _ => lifted os started H enc)
theorem proved : Rows.ImageSectorsSaid := over
#print axioms proved
end Go.Proofs.Ytmldccfchnlpgaa.imageSectors

