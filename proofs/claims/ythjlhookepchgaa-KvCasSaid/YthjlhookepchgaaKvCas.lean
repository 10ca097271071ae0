/- The given statement is proved: for every input the law's function answers true. No condition. -/
import Derived.Test.YthjlhookepchgaaRows
import Derived.Test.YthjlhookepchgaaPart5
import Derived.WalkKit
import Derived.HandedShaped
import Derived.ProofKit
import Derived.OpenShut
import Derived.ShutString
set_option linter.unusedVariables false
set_option linter.unusedSimpArgs false
set_option maxRecDepth 100000
set_option maxHeartbeats 1000000
namespace Go.Proofs.Ythjlhookepchgaa
open Go Go.Vc
theorem mu_step {n j c : Nat} (h : j < n) : real.addn (real.subn n (j + 1)) c < real.addn (real.subn n j) c := by
  show n - (j + 1) + c < n - j + c
  omega
theorem eq_g {n : Nat} (h : ¬ real.pB (real.eqi (real.int n) (real.int 0)) true) : ¬ n = 0 := by
  intro e; subst e; exact h rfl
/-! ## Writers that name what they saw -/
theorem ca_inv {l key : List UInt8} (hk : u_isK key = true) : ∀ i, ∃ h : Nat → D, u_caM l key i = u_one key h (u_caL l key i) ∧ (∀ j, j < u_caL l key i → ((h j).fld 0).gi = (j : Int) + 1) ∧ (∀ j, j < u_caL l key i → (j < 100 → okD (h j)) ∧ ((h j).fld 2).gb = false) ∧ u_caL l key i ≤ i
  | 0 => ⟨fun _ => dv0, rfl, fun j hj => absurd hj (Nat.not_lt_zero _), fun j hj => absurd hj (Nat.not_lt_zero _), Nat.le_refl _⟩
  | i + 1 => by
    obtain ⟨h, h1, h2, h3, h4⟩ := ca_inv (l := l) hk i
    have h1 : (u_ca l key i).2 = u_one key h (u_ca l key i).1 := h1
    have h2 : ∀ j, j < (u_ca l key i).1 → ((h j).fld 0).gi = (j : Int) + 1 := h2
    have h3 : ∀ j, j < (u_ca l key i).1 → (j < 100 → okD (h j)) ∧ ((h j).fld 2).gb = false := h3
    have h4 : (u_ca l key i).1 ≤ i := h4
    show ∃ h : Nat → D, (u_ca l key (i + 1)).2 = u_one key h (u_ca l key (i + 1)).1 ∧ (∀ j, j < (u_ca l key (i + 1)).1 → ((h j).fld 0).gi = (j : Int) + 1) ∧ (∀ j, j < (u_ca l key (i + 1)).1 → (j < 100 → okD (h j)) ∧ ((h j).fld 2).gb = false) ∧ (u_ca l key (i + 1)).1 ≤ i + 1
    simp only [u_ca]
    by_cases e : (l.getD i 0).toNat % 8 = (u_ca l key i).1
    · rw [if_pos e]
      have w := one_wr (key := key) (v := [l.getD i 0]) (cas := (((l.getD i 0).toNat % 8 : Nat) : Int)) h2 hk (by simp) (.inr (by rw [e]))
      refine ⟨updH h (u_ca l key i).1 (dv (((u_ca l key i).1 : Int) + 1) [l.getD i 0] false), by rw [h1]; exact w.2.2, updH_N h2 rfl, fun j hj => ?_, by show (u_ca l key i).1 + 1 ≤ _; omega⟩
      by_cases e2 : j = (u_ca l key i).1
      · subst e2
        rw [updH_at]
        exact ⟨fun h5 => ⟨((u_ca l key i).1 : Int) + 1, [l.getD i 0], false, rfl, by omega, by omega, by simp⟩, rfl⟩
      · rw [updH_ne e2]
        exact h3 j (by have hj : j < (u_ca l key i).1 + 1 := hj; omega)
    · rw [if_neg e]
      exact ⟨h, h1, h2, h3, by omega⟩
theorem ca_ok {l key : List UInt8} (hk : u_isK key = true) {i : Nat} (hi : i ≤ 30) (hl : key.length ≤ 1000) : u_okK (u_caM l key i) := by
  obtain ⟨h, h1, h2, h3, h4⟩ := ca_inv (l := l) hk i
  rw [h1]
  exact one_ok hl fun j hj => (h3 j hj).1 (by omega)
theorem ca_yes {l key : List UInt8} (hk : u_isK key = true) {i : Nat} {s : Int} (hs : s = (((l.getD i 0).toNat % 8 : Nat) : Int)) (e : s = (u_caL l key i : Int)) :
    u_wrE (u_caM l key i) key s [l.getD i 0] = 0 ∧ u_wrN (u_caM l key i) key s [l.getD i 0] = (u_caL l key i : Int) + 1 ∧ u_wrM (u_caM l key i) key s [l.getD i 0] = u_caM l key (i + 1) ∧ u_caL l key (i + 1) = u_caL l key i + 1 := by
  subst hs
  obtain ⟨h, h1, h2, h3, h4⟩ := ca_inv (l := l) hk i
  have e' : (l.getD i 0).toNat % 8 = (u_ca l key i).1 := by unfold u_caL at e; omega
  have w := one_wr (key := key) (v := [l.getD i 0]) (cas := (((l.getD i 0).toNat % 8 : Nat) : Int)) h2 hk (by simp) (.inr e)
  rw [← h1] at w
  refine ⟨w.1, w.2.1, ?_, ?_⟩
  · unfold u_caM; simp only [u_ca]; rw [if_pos e']
  · unfold u_caL; simp only [u_ca]; rw [if_pos e']
theorem ca_no {l key : List UInt8} (hk : u_isK key = true) {i : Nat} {s : Int} (hs : s = (((l.getD i 0).toNat % 8 : Nat) : Int)) (e : ¬ s = (u_caL l key i : Int)) :
    u_wrE (u_caM l key i) key s [l.getD i 0] = 220 ∧ u_wrM (u_caM l key i) key s [l.getD i 0] = u_caM l key (i + 1) ∧ u_caL l key (i + 1) = u_caL l key i := by
  subst hs
  obtain ⟨h, h1, h2, h3, h4⟩ := ca_inv (l := l) hk i
  have e' : ¬ (l.getD i 0).toNat % 8 = (u_ca l key i).1 := by unfold u_caL at e; omega
  have w := one_cas (key := key) (v := [l.getD i 0]) (cas := (((l.getD i 0).toNat % 8 : Nat) : Int)) h2 hk (by simp) ⟨by omega, e⟩
  rw [← h1] at w
  refine ⟨w.1, ?_, ?_⟩
  · rw [w.2.2]; unfold u_caM; simp only [u_ca]; rw [if_neg e']
  · unfold u_caL; simp only [u_ca]; rw [if_neg e']
theorem ca_see (l : List UInt8) (i : Nat) : real.wrapi (real.toI8 (real.rem8 (real.getB l (real.nat (real.int i))) (real.ofI8 (real.int 8)))) = (((l.getD i 0).toNat % 8 : Nat) : Int) := by
  have h : (l.getD i 0 % UInt8.ofNat ((8 : Int) % 2 ^ 8).toNat).toNat = (l.getD i 0).toNat % 8 := by
    rw [UInt8.toNat_mod]; rfl
  have h2 : IntKind.i64.wrap (((l.getD i 0 % UInt8.ofNat ((8 : Int) % 2 ^ 8).toNat).toNat : Nat) : Int) = (((l.getD i 0).toNat % 8 : Nat) : Int) := by
    rw [h, wrap_sm (by omega) (by omega)]
  exact h2
/-- the last one is told -/
theorem ca_rd {l key : List UInt8} (hk : u_isK key = true) (i : Nat) : (u_caL l key i = 0 → u_rdE (u_caM l key i) key 0 = 100) ∧ (¬ u_caL l key i = 0 → u_rdE (u_caM l key i) key 0 = 0 ∧ u_rdN (u_caM l key i) key 0 = (u_caL l key i : Int)) := by
  obtain ⟨h, h1, h2, h3, h4⟩ := ca_inv (l := l) hk i
  rw [h1]
  constructor
  · intro e; rw [e]; exact (rd_none (one_rdn key h 0)).2.2.2.symm
  · intro e
    have q := one_rd0 (key := key) h2 (by omega)
    rw [(h3 _ (by omega)).2] at q
    have r := rd_some q
    refine ⟨r.2.2.2.symm, ?_⟩
    rw [← r.1, h2 _ (by omega)]; omega
theorem ca_form {key v : List UInt8} (hk : u_isK key = false) (s : Int) : u_wrE ⟨[], 0⟩ key s v = 12 ∧ u_wrM ⟨[], 0⟩ key s v = ⟨[], 0⟩ := by
  have e : u_wrE ⟨[], 0⟩ key s v = 12 := by unfold u_wrE; rw [if_pos hk]
  exact ⟨e, by unfold u_wrM; rw [e]; rfl⟩
theorem ca_L0 (l key : List UInt8) : (0 : Int) = ((u_caL l key 0 : Nat) : Int) := rfl
theorem ca_M0 (l key : List UInt8) : (⟨[], 0⟩ : MD) = u_caM l key 0 := rfl
theorem ca_okA {l key : List UInt8} {i : Nat} (h : (i ≤ l.length ∧ l.length ≤ 30) ∧ key.length ≤ 40 ∧ (i = 0 ∨ u_isK key = true)) : u_okK (u_caM l key i) := by
  obtain ⟨⟨h1, h2⟩, h3, h4⟩ := h
  rcases h4 with rfl | h4
  · exact okK_0
  · exact ca_ok h4 (by omega) (by omega)
theorem ca_sm {l key : List UInt8} {i : Nat} {U : Us} (h : (i ≤ real.lenB l ∧ real.lenB l ≤ 30) ∧ real.lenB key ≤ 40 ∧ (i = 0 ∨ U.isK key = true)) : i ≤ 1000000000000000 := by
  have := Nat.le_trans h.1.1 h.1.2
  omega
theorem ca_y4 {a b : Nat} (h : a = b + 1) (e : b = b) : (b : Int) + 1 = ((a : Nat) : Int) := by subst h; omega
theorem ca_w {l key : List UInt8} (hk : u_isK key = true) {i : Nat} {U : Us} (h : (i ≤ real.lenB l ∧ real.lenB l ≤ 30) ∧ real.lenB key ≤ 40 ∧ (i = 0 ∨ U.isK key = true)) : IntKind.i64.wrap ((u_caL l key i : Int) + 1) = (u_caL l key i : Int) + 1 := by
  obtain ⟨_, _, _, _, h4⟩ := ca_inv (l := l) hk i
  have := Nat.le_trans h.1.1 h.1.2
  exact wrap_sm (by omega) (by omega)
theorem ca_rd0 (l key : List UInt8) : u_rdE (u_caM l key 0) key 0 = 100 ∧ u_caL l key 0 = 0 := ⟨(rd_none (rfl : u_rd ⟨[], 0⟩ key 0 = none)).2.2.2.symm, rfl⟩
theorem ca_ta {L : Nat} {E : Int} (q1 : L = 0 → E = 100) (h : real.eqi (real.int L) (real.int 0) = true) (h2 : real.eqi E (real.int 100) = false) : False := by
  have h : ((L : Int) == 0) = true := h
  rw [beq_iff_eq] at h
  rw [q1 (by omega)] at h2; cases h2
theorem ca_tb {L : Nat} {E N : Int} (q2 : ¬ L = 0 → E = 0 ∧ N = (L : Int)) (h : real.eqi (real.int L) (real.int 0) = false) (h2 : real.eqi E (real.int 0) = false) : False := by
  have h : ((L : Int) == 0) = false := h
  rw [beq_eq_false_iff_ne] at h
  rw [(q2 (by omega)).1] at h2; cases h2
theorem ca_tc {L : Nat} {E N : Int} (q2 : ¬ L = 0 → E = 0 ∧ N = (L : Int)) (h : real.eqi (real.int L) (real.int 0) = false) : real.eqi N (real.int L) = true := by
  have h : ((L : Int) == 0) = false := h
  rw [beq_eq_false_iff_ne] at h
  rw [(q2 (by omega)).2]
  show ((L : Int) == (L : Int)) = true
  rw [beq_iff_eq]
theorem ca_keys0 : (⟨[], 0⟩ : MD).keysS = [] := by
  unfold MD.keysS
  exact List.mergeSort_nil ..
theorem ca_f1 {l key v : List UInt8} (hk : u_isK key = false) {s : Int} : u_okK (u_wrM (u_caM l key 0) key s v) := by
  rw [show u_caM l key 0 = ⟨[], 0⟩ from rfl, (ca_form hk s).2]; exact okK_0
theorem ca_f2 {l key v : List UInt8} (hk : u_isK key = false) {s : Int} : real.eqi (real.int (real.lenS (real.keysS (u_wrM (u_caM l key 0) key s v)))) (real.int 0) = true := by
  rw [show u_caM l key 0 = ⟨[], 0⟩ from rfl, (ca_form hk s).2]
  show (((⟨[], 0⟩ : MD).keysS.length : Int) == 0) = true
  rw [ca_keys0]; rfl
theorem ca_f3 {l key v : List UInt8} (hk : u_isK key = false) {s : Int} (h : ¬ real.pB (real.eqi (us.wrE (us.caM l key 0) key s v) (real.int 12)) true) : False := by
  refine h ?_
  show (u_wrE ⟨[], 0⟩ key s v == 12) = true
  rw [(ca_form hk s).1]; rfl
attribute [local irreducible] u_okK u_wrE u_wrN u_wrM u_one u_rdE u_rdN u_caM u_caL
end Go.Proofs.Ythjlhookepchgaa
namespace Go.Proofs.Ythjlhookepchgaa
open Go Go.Vc
noncomputable def sp_law22_KvCas (F : Fs) (U : Us) : Specs := [(22, s_law22_known F U), (23, s_kv_New F U), (24, s_kv_KV_Write F U), (25, s_kv_KV_Keys F U), (26, s_kv_KV_Read F U)]
theorem ok_law22_KvCas : SpecsOK Try.prog (sp_law22_KvCas real us) := sp_cons r_law22_known k_law22_known (sp_cons r_kv_New k_kv_New (sp_cons r_kv_KV_Write k_kv_KV_Write (sp_cons r_kv_KV_Keys k_kv_KV_Keys (sp_cons r_kv_KV_Read k_kv_KV_Read sp_nil))))
noncomputable def an_law22_KvCas (F : Fs) (U : Us) (l key : List UInt8) : Anns := [(8, ⟨Nat, fun i => (i ≤ F.lenB l ∧ F.lenB l ≤ 30) ∧ F.lenB key ≤ 40 ∧ (i = 0 ∨ U.isK key = true), fun i => F.subn (F.lenB l) i, fun i => ⟨[(0, .rb 1 (.bt l)), (1, .s key), (5, .p 5 0 0), (6, .i (F.int (U.caL l key i))), (7, .i (F.int i))], [(5, 5, .bk 114 [(1, .vs [.mh 6])]), (999, 6, .mp 112 .s (.sl (.t [.i, .s, .b])) (U.caM l key i))]⟩⟩)]
noncomputable def x_law22_KvCas (F : Fs) (U : Us) : Cx := ⟨Try.f6.ntmps, tt F, sp_law22_KvCas F U, [], [], [], []⟩
theorem c_law22_KvCas (l key : List UInt8) (q0 : l.length ≤ 9223372036854775807) (q1 : key.length ≤ 9223372036854775807) : vc real (x_law22_KvCas real us) (an_law22_KvCas real us l key) [] (Try.f6.body.getD .skip) ⟨zipSl 0 [.rb 1 (.bt l), .s key], [], 64⟩ (retOk real (tt real) false Try.f6.results.toList [.val (.b true)]) := by
  generalize hU : us = U
  generalize hF : real = F
  cbv
  repeat' first | apply And.intro | refine Classical.or_iff_not_imp_left.2 (fun _ => ?_) | exact trivial
  · rename_i h; subst hF hU; exact absurd rfl h
  · refine ⟨(0 : Nat), ?_⟩
    cbv
    subst hF hU
    have h1 : l.length ≤ 30 := ge_g (j := 30) (by assumption)
    have h2 : key.length ≤ 40 := ge_g (j := 40) (by assumption)
    exact ⟨⟨⟨Nat.zero_le _, h1⟩, h2, trivial⟩, ⟨ca_L0 l key, trivial⟩, ca_M0 l key, trivial⟩
  · intro (i : Nat) hi
    replace hi : (i ≤ F.lenB l ∧ F.lenB l ≤ 30) ∧ F.lenB key ≤ 40 ∧ (i = 0 ∨ U.isK key = true) := hi
    have hor : U.isK key = true ∨ (i = 0 ∧ U.isK key = false) := by
      cases hq : U.isK key with
      | true => exact .inl rfl
      | false => exact .inr ⟨hi.2.2.resolve_right (by rw [hq]; decide), rfl⟩
    rcases hor with hk | ⟨e0, hk⟩
    · cbv
      repeat' first | apply And.intro | refine Classical.or_iff_not_imp_left.2 (fun _ => ?_) | exact trivial
      all_goals first
        | (subst hF hU; exact inF rfl (lt_g (by assumption)))
        | (subst hF hU; show ((8 : UInt8).toNat : Int) ≠ 0; decide)
        | (subst hF hU; exact Nat.le_trans hi.2.1 (by decide))
        | (subst hF hU; exact ca_okA hi)
        | (have hlt : i < F.lenB l := by subst hF hU; exact lt_g (by assumption)
           have e1 : F.wrapi (F.toI8 (F.rem8 (F.getB l (F.nat (F.int i))) (F.ofI8 (F.int 8)))) = F.int (U.caL l key i) ∨ ¬ F.wrapi (F.toI8 (F.rem8 (F.getB l (F.nat (F.int i))) (F.ofI8 (F.int 8)))) = F.int (U.caL l key i) := Classical.em _
           rcases e1 with e | e
           · first
               | (refine ⟨(i + 1 : Nat), ?_⟩
                  cbv
                  subst hF hU
                  obtain ⟨c1, c2, c3, c4⟩ := ca_yes hk (ca_see l i) e
                  first
                    | exact ⟨⟨⟨hlt, hi.1.2⟩, hi.2.1, .inr hk⟩, sub_stepN hlt, ⟨(c2.trans (ca_y4 c4 rfl)), addi1 (ca_sm hi), trivial⟩, c3, trivial⟩
                    | (exfalso
                       simp only [real, us, Int.cast_ofNat_Int] at *
                       simp_all
                       done))
               | (subst hF hU
                  have q := ca_yes hk (ca_see l i) e
                  have w1 := ca_w hk hi
                  simp only [real, us, Int.cast_ofNat_Int] at *
                  simp_all
                  done)
           · first
               | (refine ⟨(i + 1 : Nat), ?_⟩
                  cbv
                  subst hF hU
                  obtain ⟨c1, c3, c4⟩ := ca_no hk (ca_see l i) e
                  first
                    | exact ⟨⟨⟨hlt, hi.1.2⟩, hi.2.1, .inr hk⟩, sub_stepN hlt, ⟨congrArg (fun n : Nat => (n : Int)) c4.symm, addi1 (ca_sm hi), trivial⟩, c3, trivial⟩
                    | (exfalso
                       simp only [real, us, Int.cast_ofNat_Int] at *
                       simp_all
                       done))
               | (subst hF hU
                  have q := ca_no hk (ca_see l i) e
                  simp only [real, us, Int.cast_ofNat_Int] at *
                  simp_all
                  done))
        | (subst hF hU
           have q1 := (ca_rd (l := l) hk i).1
           have q2 := (ca_rd (l := l) hk i).2
           first
             | exact ca_tc q2 (p_f (b := real.eqi (real.int (us.caL l key i)) (real.int 0)) (by assumption))
             | exact (ca_tb q2 (p_f (b := real.eqi (real.int (us.caL l key i)) (real.int 0)) (by assumption)) (p_f (b := real.eqi (us.rdE (us.caM l key i) key (real.int 0)) (real.int 0)) (by assumption))).elim
             | exact (ca_ta q1 (p_t (b := real.eqi (real.int (us.caL l key i)) (real.int 0)) (by assumption)) (p_f (b := real.eqi (us.rdE (us.caM l key i) key (real.int 0)) (real.int 100)) (by assumption))).elim)
    · subst e0
      cbv
      repeat' first | apply And.intro | refine Classical.or_iff_not_imp_left.2 (fun _ => ?_) | exact trivial
      all_goals first
        | (subst hF hU; exact inF rfl (lt_g (by assumption)))
        | (subst hF hU; show ((8 : UInt8).toNat : Int) ≠ 0; decide)
        | (subst hF hU; exact Nat.le_trans hi.2.1 (by decide))
        | (subst hF hU; exact ca_okA hi)
        | (subst hF hU; exact ca_f1 hk)
        | (subst hF hU; exact ca_f2 hk)
        | (exfalso; subst hF hU; exact ca_f3 (l := l) (v := [real.getB l (real.nat (real.int 0))]) (s := real.wrapi (real.toI8 (real.rem8 (real.getB l (real.nat (real.int 0))) (real.ofI8 (real.int 8))))) hk (by assumption))
        | (subst hF hU
           have q1 : u_caL l key 0 = 0 → u_rdE (u_caM l key 0) key 0 = 100 := fun _ => (ca_rd0 l key).1
           have q2 : ¬ u_caL l key 0 = 0 → u_rdE (u_caM l key 0) key 0 = 0 ∧ u_rdN (u_caM l key 0) key 0 = (u_caL l key 0 : Int) := fun h => absurd (ca_rd0 l key).2 h
           first
             | exact ca_tc q2 (p_f (b := real.eqi (real.int (us.caL l key 0)) (real.int 0)) (by assumption))
             | exact (ca_tb q2 (p_f (b := real.eqi (real.int (us.caL l key 0)) (real.int 0)) (by assumption)) (p_f (b := real.eqi (us.rdE (us.caM l key 0) key (real.int 0)) (real.int 0)) (by assumption))).elim
             | exact (ca_ta q1 (p_t (b := real.eqi (real.int (us.caL l key 0)) (real.int 0)) (by assumption)) (p_f (b := real.eqi (us.rdE (us.caM l key 0) key (real.int 0)) (real.int 100)) (by assumption))).elim)
end Go.Proofs.Ythjlhookepchgaa
namespace Go.Proofs.Ythjlhookepchgaa.kvCas
open Go.ChangeShapes Go.WideShapes Go.ChangeAt Go.RowKit
set_option linter.unusedVariables false
theorem own : ownKnob Try.prog.godebug = none := by kernel_rfl
theorem laidOut : laidOutB Try.prog = true := p_laidOut
set_option maxRecDepth 100000 in
theorem lifted (os : Os) (started : os.Started) (H : Type) (enc : TypeId × Value → H) :
    ReturnsInHanded {} Try.checked os 6 .any (Rows.kvCasSpec.pre6 enc Try.prog Try.f6 Rows.kvCasRow.domain false) (Rows.kvCasSpec.post enc Try.prog Try.f6 false true false false) := by
  refine returnsInHanded_of_change_shaped (C := Try.checked) own started (by kernel_rfl) Try.func6
    (ChangeSpec.witness6 (enc := enc) (C := Try.checked) false ⟨#[], #[.slice none 0 0, .string ByteArray.empty], []⟩ 8 (by kernel_rfl) (by kernel_rfl) (by kernel_rfl) (by kernel_rfl)) ?_
  intro W base args ds gs before hval0 hW hcnd hrch hsh _
  have hval : ∀ (j : Nat) t v, Try.f6.params[j]? = some t → args[j]? = some v → Value.okWide Try.prog W .any base t v := hval0
  have hW' := hW
  obtain ⟨p, q, hA0, hV, rfl, hfz, hnd⟩ := hW
  have hA : DataW.TrodAll enc Try.prog W 0 (fun _ => true) true Try.f6.params.toList args.toList ds p := hA0
  rw [Try.params6] at hA hval
  obtain ⟨v0, vs0, d0, ds0, p0, q0, hargs, rfl, rfl, h0, r0⟩ := trodAll_cons hA
  obtain ⟨v1, vs1, d1, ds1, p1, q1, rfl, rfl, rfl, h1, r1⟩ := trodAll_cons r0
  obtain ⟨rfl, rfl, rfl⟩ := trodAll_nil r1
  obtain rfl : args = #[v0, v1] := by cases args; simp_all
  obtain ⟨rfl, rfl⟩ := trodVars_none hV
  obtain ⟨l, k0, q0⟩ := Go.Vc.openL8 Try.underlying41 Try.underlying5 (by kernel_rfl) (hval 0 41 v0 rfl rfl) h0
  obtain ⟨key, k1, q1⟩ := Go.Vc.openS Try.underlying9 (hval 1 9 v1 rfl rfl) h1
  clear hA0 hval0
  refine (Go.Vc.law_walk2 (x := x_law22_KvCas Go.Vc.real us) (an := (an_law22_KvCas Go.Vc.real us l key)) (cu := []) (l := [.rb 1 (.bt l), .s key]) (vals := [v0, v1]) ⟨tt_ok, ok_law22_KvCas, Go.Vc.ks_nil⟩ mixed Try.func6 rfl rfl (by kernel_rfl) hsh (Nat.le_of_ble_eq_true rfl) (Go.Vc.rvs_cons k0 (Go.Vc.rvs_cons k1 Go.Vc.rvs_nil)) (c_law22_KvCas l key q0 q1)).mono fun e W' ⟨he, bel⟩ => ?_
  subst he
  exact ⟨_, rfl, Go.Vc.post_true (tb := 4) laidOut (by kernel_rfl) rfl Try.underlying4 rfl hW' rfl bel⟩
theorem over : Rows.kvCasRow.holds Try.pinned (OpenSpec.ofChange Rows.kvCasSpec) :=
  OpenClaim.holds_of_wide 6 Try.f6 rfl rfl rfl rfl rfl rfl rfl ⟨rfl, rfl, rfl, rfl, rfl⟩ rfl rfl rfl rfl rfl (by kernel_rfl) Try.func6 (Go.Vc.joined_of p_laidOut p_maps p_stops p_knobs p_heard p_mayEnter p_lifts p_make rfl rfl (by kernel_rfl) (by kernel_rfl) (by kernel_rfl) (by kernel_rfl) (by kernel_rfl) (by kernel_rfl) (by kernel_rfl) (by kernel_rfl) (by kernel_rfl) (by kernel_rfl) (by kernel_rfl) (by kernel_rfl) (by kernel_rfl) (by kernel_rfl) (by kernel_rfl) (by kernel_rfl) (by kernel_rfl) (by kernel_rfl) (by kernel_rfl) (by kernel_rfl) (by kernel_rfl) (by kernel_rfl) (by kernel_rfl) (by kernel_rfl) )
    (of_decide_eq_true (by kernel_rfl)) (by unfold Func.isWrapper; first | (rw [if_pos (by decide +kernel)]; kernel_rfl) | (rw [if_neg (by decide +kernel)]; exact ⟨rfl, rfl⟩))
    (fun os started H enc _ => lifted os started H enc)
theorem proved : Rows.KvCasSaid := over
#print axioms proved
end Go.Proofs.Ythjlhookepchgaa.kvCas

