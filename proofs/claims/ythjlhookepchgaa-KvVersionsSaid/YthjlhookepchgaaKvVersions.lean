/- The given statement is proved: for every input the law's function answers true. No condition. -/
import Derived.Test.YthjlhookepchgaaRows
import Derived.Test.YthjlhookepchgaaPart5
import Derived.WalkKit
import Derived.HandedShaped
import Derived.ProofKit
import Derived.OpenShut
import Derived.ShutString
set_option linter.unusedVariables false
set_option linter.unusedSimpArgs false
set_option maxRecDepth 100000
set_option maxHeartbeats 16000000
namespace Go.Proofs.Ythjlhookepchgaa
open Go Go.Vc
theorem mu_step {n j c : Nat} (h : j < n) : real.addn (real.subn n (j + 1)) c < real.addn (real.subn n j) c := by
  show n - (j + 1) + c < n - j + c
  omega
theorem eq_g {n : Nat} (h : ¬ real.pB (real.eqi (real.int n) (real.int 0)) true) : ¬ n = 0 := by
  intro e; subst e; exact h rfl
/-! ## The latest versions -/
theorem vh_N (vals : List (List UInt8)) (n : Nat) : ∀ i, i < n → ((u_vh vals i).fld 0).gi = (i : Int) + 1 := fun _ _ => rfl
theorem vh_ok {vals : List (List UInt8)} {n : Nat} (hn : n ≤ 12) (hv : ∀ j, j < n → (vals.getD j []).length ≤ 40) : ∀ i, i < n → okD (u_vh vals i) := fun i hi => ⟨(i : Int) + 1, vals.getD i [], false, rfl, by omega, by omega, Nat.le_trans (hv i hi) (by decide)⟩
theorem ve_ok {vals : List (List UInt8)} {n : Nat} (hn : n ≤ 12) (hv : ∀ j, j < n → (vals.getD j []).length ≤ 40) : u_okK (u_one [97] (u_vh vals) n) := one_ok (by decide) (vh_ok hn hv)
theorem vh_wr (vals : List (List UInt8)) {i : Nat} (hv : (vals.getD i []).length ≤ 40) : u_wrE (u_one [97] (u_vh vals) i) [97] (i : Int) (vals.getD i []) = 0 ∧ u_wrN (u_one [97] (u_vh vals) i) [97] (i : Int) (vals.getD i []) = (i : Int) + 1 ∧ u_wrM (u_one [97] (u_vh vals) i) [97] (i : Int) (vals.getD i []) = u_one [97] (u_vh vals) (i + 1) := by
  have w := one_wr (key := [97]) (v := vals.getD i []) (cas := (i : Int)) (vh_N vals i) (by decide) hv (.inr rfl)
  refine ⟨w.1, w.2.1, w.2.2.trans ?_⟩
  have e : updH (u_vh vals) i (dv ((i : Int) + 1) (vals.getD i []) false) = u_vh vals := by
    funext j
    unfold updH
    split
    · rename_i h; subst h; rfl
    · rfl
  rw [e]
/-- with the last one gone, or not -/
def veH (vals : List (List UInt8)) (m : Nat) (g : Bool) : Nat → D := match g with
  | true => updH (u_vh vals) (m - 1) (dv (m : Int) [] true)
  | false => u_vh vals
theorem veH_N (vals : List (List UInt8)) {m : Nat} (hm : 0 < m) (g : Bool) : ∀ i, i < m → ((veH vals m g i).fld 0).gi = (i : Int) + 1 := by
  intro i hi
  cases g with
  | false => rfl
  | true =>
    show ((updH (u_vh vals) (m - 1) (dv (m : Int) [] true) i).fld 0).gi = _
    by_cases e : i = m - 1
    · subst e; rw [updH_at]; show (m : Int) = _; omega
    · rw [updH_ne e]; rfl
theorem veH_G (vals : List (List UInt8)) {m i : Nat} (g : Bool) (hi : i < m) : ((veH vals m g i).fld 2).gb = (g && decide (i + 1 = m)) := by
  cases g with
  | false => rfl
  | true =>
    show ((updH (u_vh vals) (m - 1) (dv (m : Int) [] true) i).fld 2).gb = _
    by_cases e : i = m - 1
    · subst e; rw [updH_at, decide_eq_true (by omega)]; rfl
    · rw [updH_ne e, decide_eq_false (by omega)]; rfl
theorem veH_V (vals : List (List UInt8)) {m i : Nat} (g : Bool) (hi : i < m) (h : ((veH vals m g i).fld 2).gb = false) : veH vals m g i = u_vh vals i := by
  cases g with
  | false => rfl
  | true =>
    rw [veH_G vals true hi] at h
    have e : ¬ i = m - 1 := fun e => by subst e; rw [decide_eq_true (by omega)] at h; cases h
    show updH _ _ _ i = _
    rw [updH_ne e]
theorem veH_ok {vals : List (List UInt8)} {m : Nat} (hm : 0 < m) (hn : m ≤ 12) (hv : ∀ j, j < m → (vals.getD j []).length ≤ 40) (g : Bool) : u_okK (u_one [97] (veH vals m g) m) := by
  refine one_ok (by decide) fun i hi => ?_
  cases g with
  | false => exact vh_ok hn hv i hi
  | true =>
    show okD (updH _ _ _ i)
    by_cases e : i = m - 1
    · subst e; rw [updH_at]; exact ⟨(m : Int), [], true, rfl, by omega, by omega, by decide⟩
    · rw [updH_ne e]; exact vh_ok hn hv i hi
theorem ve_dl {vals : List (List UInt8)} {m : Nat} (hm : 0 < m) : u_dlE (u_one [97] (u_vh vals) m) [97] = 0 ∧ u_dlN (u_one [97] (u_vh vals) m) [97] = (m : Int) ∧ u_dlM (u_one [97] (u_vh vals) m) [97] = u_one [97] (veH vals m true) m := one_dl (vh_N vals m) hm rfl
theorem ve_dl2 {vals : List (List UInt8)} {m : Nat} (hm : 0 < m) : u_dlE (u_one [97] (veH vals m true) m) [97] = 100 ∧ u_dlN (u_one [97] (veH vals m true) m) [97] = 0 ∧ u_dlM (u_one [97] (veH vals m true) m) [97] = u_one [97] (veH vals m true) m := one_dl2 hm (by rw [veH_G vals true (by omega), decide_eq_true (by omega)]; rfl)
theorem ve_wr {vals : List (List UInt8)} {m : Nat} (hm : 0 < m) (g : Bool) {v : List UInt8} (hv : v.length ≤ 40) : u_wrE (u_one [97] (veH vals m g) m) [97] (m : Int) v = 0 ∧ u_wrN (u_one [97] (veH vals m g) m) [97] (m : Int) v = (m : Int) + 1 := by
  have w := one_wr (key := [97]) (v := v) (cas := (m : Int)) (veH_N vals hm g) (by decide) hv (.inr rfl)
  exact ⟨w.1, w.2.1⟩
/-- is it there -/
def veT (m : Nat) (g : Bool) (n : Nat) : Bool := decide (m < n + 3) && !(g && decide (n = m))
theorem ve_rd {vals : List (List UInt8)} {m : Nat} (hm : 0 < m) (g : Bool) {n : Nat} (h0 : 0 < n) (hn : n ≤ m) : (u_rdE (u_one [97] (veH vals m g) m) [97] (n : Int) = if veT m g n then 0 else 100) ∧ (veT m g n = true → u_rdN (u_one [97] (veH vals m g) m) [97] (n : Int) = (n : Int) ∧ u_rdV (u_one [97] (veH vals m g) m) [97] (n : Int) = vals.getD (n - 1) []) := by
  obtain ⟨i, rfl⟩ : ∃ i, n = i + 1 := ⟨n - 1, by omega⟩
  unfold veT
  by_cases h3 : m < i + 1 + 3
  · rw [decide_eq_true h3, Bool.true_and]
    have q := one_rd (key := [97]) (veH_N vals hm g) (i := i) (by omega) (by omega)
    have hg := veH_G vals g (m := m) (i := i) (by omega)
    rw [← hg]
    have e : ((i + 1 : Nat) : Int) = (i : Int) + 1 := by omega
    rw [e]
    cases hq : ((veH vals m g i).fld 2).gb with
    | true =>
      rw [hq] at q
      exact ⟨(rd_none q).2.2.2.symm, fun h => by cases h⟩
    | false =>
      rw [hq] at q
      have r := rd_some q
      rw [veH_V vals g (by omega) hq] at r
      exact ⟨r.2.2.2.symm, fun _ => ⟨r.1.symm, r.2.1.symm⟩⟩
  · rw [decide_eq_false h3, Bool.false_and]
    have q := one_rdE (key := [97]) (veH_N vals hm g) (n := i + 1) (by omega) (by omega)
    exact ⟨(rd_none q).2.2.2.symm, fun h => by cases h⟩
theorem ve_rd0 {vals : List (List UInt8)} {m : Nat} (hm : 0 < m) (g : Bool) : u_rdE (u_one [97] (veH vals m g) m) [97] 0 = if g then 100 else 0 := by
  have q := one_rd0 (key := [97]) (veH_N vals hm g) hm
  have hg := veH_G vals g (m := m) (i := m - 1) (by omega)
  rw [decide_eq_true (by omega), Bool.and_true] at hg
  rw [hg] at q
  cases g with
  | true => exact (rd_none q).2.2.2.symm
  | false => exact (rd_some q).2.2.2.symm
theorem ve_want (a : UInt8) {m : Nat} (hm : 0 < m) (h : m ≤ 12) : real.addi (real.remi (real.wrapi (real.toI8 a)) (real.int m)) (real.int 1) = ((a.toNat % m + 1 : Nat) : Int) := by
  have h1 := a.toNat_lt
  have h2 := Nat.mod_lt a.toNat hm
  have h3 : (IntKind.i64.wrap ((a.toNat : Nat) : Int)).tmod ((m : Nat) : Int) = ((a.toNat % m : Nat) : Int) := by
    rw [wrap_sm (by omega) (by omega), Int.tmod_eq_emod_of_nonneg (by omega)]
    exact (Int.natCast_emod _ _).symm
  have h4 : IntKind.i64.wrap ((IntKind.i64.wrap ((a.toNat : Nat) : Int)).tmod ((m : Nat) : Int) + 1) = ((a.toNat % m + 1 : Nat) : Int) := by
    rw [h3, wrap_sm (by omega) (by omega)]; omega
  exact h4
theorem ve_0 (vals : List (List UInt8)) : (⟨[], 0⟩ : MD) = u_one [97] (u_vh vals) 0 := rfl
theorem ve_all {vals : List (List UInt8)} {i : Nat} (h : ∀ j, j < i → real.pLe (real.lenB (real.getS vals j)) 40) (hv : real.lenB (real.getS vals (real.nat (real.int i))) ≤ 40) : ∀ j, j < i + 1 → real.pLe (real.lenB (real.getS vals j)) 40 := by
  intro j hj
  by_cases e : j = i
  · subst e; exact hv
  · exact h j (by omega)
theorem ve_sm {vals : List (List UInt8)} {i : Nat} (h : (i ≤ real.lenS vals ∧ real.lenS vals ≤ 12) ∧ ∀ j, j < i → real.pLe (real.lenB (real.getS vals j)) 40) : i ≤ 1000000000000000 := by
  have := Nat.le_trans h.1.1 h.1.2
  omega
theorem ve_sm12 {vals : List (List UInt8)} {i : Nat} (h : (i ≤ real.lenS vals ∧ real.lenS vals ≤ 12) ∧ ∀ j, j < i → real.pLe (real.lenB (real.getS vals j)) 40) : i ≤ 12 := Nat.le_trans h.1.1 h.1.2
theorem ve_ne {m : Nat} (h : 0 < m) : real.pNe (real.int m) := by
  show ((m : Nat) : Int) ≠ 0
  omega
theorem ve_b1 {m n : Nat} (g : Bool) (h0 : 0 < n) (h1 : n ≤ m) : (decide ((m : Int) - 3 < (n : Int)) && !(g && ((n : Int) == (m : Int)))) = veT m g n := by
  unfold veT
  congr 1
  · rw [decide_eq_decide]; omega
  · congr 2
    by_cases e : n = m
    · subst e; simp
    · rw [decide_eq_false e, beq_eq_false_iff_ne]; omega
theorem ve_b2 {m n : Nat} (g : Bool) (h0 : 0 < n) (h1 : n ≤ m) : veT m g n = false ∨ decide ((m : Int) - 3 < (n : Int)) = true := by
  cases h : decide ((m : Int) - 3 < (n : Int)) with
  | true => exact .inr rfl
  | false => left; rw [← ve_b1 g h0 h1, h]; rfl
attribute [local irreducible] u_okK u_wrE u_wrN u_wrM u_one u_rdE u_rdN u_rdV u_dlE u_dlN u_dlM
end Go.Proofs.Ythjlhookepchgaa
namespace Go.Proofs.Ythjlhookepchgaa
open Go Go.Vc
noncomputable def sp_law22_KvVersions (F : Fs) (U : Us) : Specs := [(22, s_law22_known F U), (23, s_kv_New F U), (24, s_kv_KV_Write F U), (26, s_kv_KV_Read F U), (27, s_kv_KV_Delete F U)]
theorem ok_law22_KvVersions : SpecsOK Try.prog (sp_law22_KvVersions real us) := sp_cons r_law22_known k_law22_known (sp_cons r_kv_New k_kv_New (sp_cons r_kv_KV_Write k_kv_KV_Write (sp_cons r_kv_KV_Read k_kv_KV_Read (sp_cons r_kv_KV_Delete k_kv_KV_Delete sp_nil))))
noncomputable def an_law22_KvVersions (F : Fs) (U : Us) (vals : List (List UInt8)) (gone : Bool) (ask : UInt8) : Anns := [(7, ⟨Nat, fun i => (i ≤ F.lenS vals ∧ F.lenS vals ≤ 12) ∧ ∀ j, j < i → F.pLe (F.lenB (F.getS vals j)) 40, fun i => F.subn (F.lenS vals) i, fun i => ⟨[(0, .rb 1 (.ss vals)), (1, .b gone), (2, .w8 ask), (7, .p 5 0 0), (8, .i (F.int i))], [(7, 5, .bk 114 [(1, .vs [.mh 6])]), (999, 6, .mp 112 .s (.sl (.t [.i, .s, .b])) (U.one (F.ofS ⟨⟨[97]⟩⟩) (U.vh vals) i))]⟩⟩)]
noncomputable def x_law22_KvVersions (F : Fs) (U : Us) : Cx := ⟨Try.f7.ntmps, tt F, sp_law22_KvVersions F U, [], [(25, ([(13, [9]), (14, [9])], []))], [], []⟩
theorem c_law22_KvVersions (vals : List (List UInt8)) (gone : Bool) (ask : UInt8) (q0 : vals.length ≤ 9223372036854775807) (m0 : ∀ x ∈ vals, x.length ≤ 9223372036854775807) : vc real (x_law22_KvVersions real us) (an_law22_KvVersions real us vals gone ask) [] (Try.f7.body.getD .skip) ⟨zipSl 0 [.rb 1 (.ss vals), .b gone, .w8 ask], [], 64⟩ (retOk real (tt real) false Try.f7.results.toList [.val (.b true)]) := by
  generalize hU : us = U
  generalize hF : real = F
  cbv
  repeat' first | apply And.intro | refine Classical.or_iff_not_imp_left.2 (fun _ => ?_) | exact trivial
  · rename_i h; subst hF hU; exact absurd rfl h
  · refine ⟨(0 : Nat), ?_⟩
    cbv
    subst hF hU
    have h1 : vals.length ≤ 12 := ge_g (j := 12) (by assumption)
    exact ⟨⟨⟨Nat.zero_le _, h1⟩, fun j hj => absurd hj (Nat.not_lt_zero _)⟩, ve_0 vals, trivial⟩
  · intro (i : Nat) hi
    replace hi : (i ≤ F.lenS vals ∧ F.lenS vals ≤ 12) ∧ ∀ j, j < i → F.pLe (F.lenB (F.getS vals j)) 40 := hi
    have h0 : ¬ F.lenS vals = 0 := by subst hF hU; exact eq_g (by assumption)
    cbv
    repeat' first | apply And.intro | refine Classical.or_iff_not_imp_left.2 (fun _ => ?_) | exact trivial
    all_goals first
      | (subst hF hU; exact inF rfl (lt_g (by assumption)))
      | (subst hF hU; exact ve_ok (Nat.le_trans hi.1.1 hi.1.2) hi.2)
      | (subst hF hU; show [97].length ≤ 1000; decide)
      | (have hlt : i < F.lenS vals := by subst hF hU; exact lt_g (by assumption)
         have hv : F.lenB (F.getS vals (F.nat (F.int i))) ≤ 40 := by subst hF hU; exact ge_g (j := 40) (by assumption)
         first
           | (refine ⟨(i + 1 : Nat), ?_⟩
              cbv
              subst hF hU
              exact ⟨⟨⟨hlt, hi.1.2⟩, ve_all hi.2 hv⟩, sub_stepN hlt, ⟨addi1 (ve_sm hi), trivial⟩, (vh_wr vals hv).2.2, trivial⟩)
           | (exfalso
              subst hF hU
              have q := vh_wr vals hv
              have w1 : IntKind.i64.wrap ((i : Int) + 1) = (i : Int) + 1 := wrap_sm (by omega) (by have := ve_sm12 hi; omega)
              have e : real.nat (real.int i) = i := rfl
              simp only [real, us, Int.cast_ofNat_Int, Int.toNat_natCast] at *
              simp_all
              done))
      | skip
    all_goals (
      have hge : F.lenS vals ≤ i := by subst hF hU; exact ge_g (by assumption)
      have e : i = F.lenS vals := by subst hF hU; exact Nat.le_antisymm hi.1.1 hge
      subst e)
    all_goals (
      subst hF hU
      have hm : 0 < vals.length := Nat.pos_of_ne_zero h0
      have h12 : vals.length ≤ 12 := hi.1.2
      have hall : ∀ j, j < vals.length → (vals.getD j []).length ≤ 40 := hi.2
      obtain ⟨n, hn⟩ : ∃ n, n = ask.toNat % vals.length + 1 := ⟨_, rfl⟩
      have hn1 : n ≤ vals.length := by have := Nat.mod_lt ask.toNat hm; omega
      have hn0 : 0 < n := by omega
      have wn := ve_want ask hm h12
      rw [← hn] at wn
      have wn' : IntKind.i64.wrap ((IntKind.i64.wrap ((ask.toNat : Nat) : Int)).tmod ((vals.length : Nat) : Int) + 1) = (n : Int) := wn
      have w3 : IntKind.i64.wrap ((vals.length : Int) - 3) = (vals.length : Int) - 3 := wrap_sm (by omega) (by omega)
      have wm : IntKind.i64.wrap ((vals.length : Int) + 1) = (vals.length : Int) + 1 := wrap_sm (by omega) (by omega)
      have wn1 : IntKind.i64.wrap ((n : Int) - 1) = ((n - 1 : Nat) : Int) := by rw [wrap_sm (by omega) (by omega)]; omega
      have d1 : u_dlE (u_one [97] (veH vals vals.length false) vals.length) [97] = 0 ∧ u_dlN (u_one [97] (veH vals vals.length false) vals.length) [97] = (vals.length : Int) ∧ u_dlM (u_one [97] (veH vals vals.length false) vals.length) [97] = u_one [97] (veH vals vals.length true) vals.length := ve_dl (vals := vals) hm
      have d2 := ve_dl2 (vals := vals) hm
      have e0 : u_one [97] (u_vh vals) vals.length = u_one [97] (veH vals vals.length false) vals.length := rfl
      clear hn wn
      first
        | exact ve_ne hm
        | (show (0 : Int) ≤ IntKind.i64.wrap (IntKind.i64.wrap ((IntKind.i64.wrap ((ask.toNat : Nat) : Int)).tmod ((vals.length : Nat) : Int) + 1) - 1) ∧ IntKind.i64.wrap (IntKind.i64.wrap ((IntKind.i64.wrap ((ask.toNat : Nat) : Int)).tmod ((vals.length : Nat) : Int) + 1) - 1) < ((vals.length : Nat) : Int)
           rw [wn', wn1]; omega)
        | (cases gone with
          | true =>
            have r1 := ve_rd (vals := vals) hm true hn0 hn1
            have r0 := ve_rd0 (vals := vals) hm true
            have rw1 := ve_wr (vals := vals) hm true (v := [110, 101, 120, 116]) (by decide)
            have ok1 := veH_ok (vals := vals) hm h12 hall true
            have ok0 := ve_ok (vals := vals) h12 hall
            have b1 := ve_b1 true hn0 hn1
            have b2 := ve_b2 true hn0 hn1
            simp only [real, us, Int.cast_ofNat_Int, wn', w3, wm, wn1, Int.toNat_natCast, d1, d2, e0, r0, rw1, ite_true, ite_false, Bool.false_eq_true] at *
            first
              | assumption
              | (cases hT : veT vals.length true n with
                 | true =>
                   obtain ⟨r1a, r1b⟩ := r1
                   obtain ⟨r1c, r1d⟩ := r1b hT
                   simp only [hT, ite_true] at *
                   simp_all
                   done
                 | false =>
                   obtain ⟨r1a, r1b⟩ := r1
                   clear r1b
                   simp only [hT, ite_false, Bool.false_eq_true] at *
                   simp_all
                   done)
              | (rcases b2 with hT | hT
                 · obtain ⟨r1a, r1b⟩ := r1
                   clear r1b
                   rw [hT] at r1a
                   simp only [r1a, ite_false, Bool.false_eq_true] at *
                   rename_i z
                   exact absurd (by decide) z
                 · exact absurd hT (by assumption))

          | false =>
            have r1 := ve_rd (vals := vals) hm false hn0 hn1
            have r0 := ve_rd0 (vals := vals) hm false
            have rw1 := ve_wr (vals := vals) hm false (v := [110, 101, 120, 116]) (by decide)
            have ok1 := veH_ok (vals := vals) hm h12 hall false
            have ok0 := ve_ok (vals := vals) h12 hall
            have b1 := ve_b1 false hn0 hn1
            have b2 := ve_b2 false hn0 hn1
            simp only [real, us, Int.cast_ofNat_Int, wn', w3, wm, wn1, Int.toNat_natCast, d1, d2, e0, r0, rw1, ite_true, ite_false, Bool.false_eq_true] at *
            first
              | assumption
              | (cases hT : veT vals.length false n with
                 | true =>
                   obtain ⟨r1a, r1b⟩ := r1
                   obtain ⟨r1c, r1d⟩ := r1b hT
                   simp only [hT, ite_true] at *
                   simp_all
                   done
                 | false =>
                   obtain ⟨r1a, r1b⟩ := r1
                   clear r1b
                   simp only [hT, ite_false, Bool.false_eq_true] at *
                   simp_all
                   done)
              | (rcases b2 with hT | hT
                 · obtain ⟨r1a, r1b⟩ := r1
                   clear r1b
                   rw [hT] at r1a
                   simp only [r1a, ite_false, Bool.false_eq_true] at *
                   rename_i z
                   exact absurd (by decide) z
                 · exact absurd hT (by assumption))
))
end Go.Proofs.Ythjlhookepchgaa
namespace Go.Proofs.Ythjlhookepchgaa.kvVersions
open Go.ChangeShapes Go.WideShapes Go.ChangeAt Go.RowKit
set_option linter.unusedVariables false
theorem own : ownKnob Try.prog.godebug = none := by kernel_rfl
theorem laidOut : laidOutB Try.prog = true := p_laidOut
set_option maxRecDepth 100000 in
theorem lifted (os : Os) (started : os.Started) (H : Type) (enc : TypeId × Value → H) :
    ReturnsInHanded {} Try.checked os 7 .any (Rows.kvVersionsSpec.pre6 enc Try.prog Try.f7 Rows.kvVersionsRow.domain false) (Rows.kvVersionsSpec.post enc Try.prog Try.f7 false true false false) := by
  refine returnsInHanded_of_change_shaped (C := Try.checked) own started (by kernel_rfl) Try.func7
    (ChangeSpec.witness6 (enc := enc) (C := Try.checked) false ⟨#[], #[.slice none 0 0, .bool false, .int .u8 0], []⟩ 8 (by kernel_rfl) (by kernel_rfl) (by kernel_rfl) (by kernel_rfl)) ?_
  intro W base args ds gs before hval0 hW hcnd hrch hsh _
  have hval : ∀ (j : Nat) t v, Try.f7.params[j]? = some t → args[j]? = some v → Value.okWide Try.prog W .any base t v := hval0
  have hW' := hW
  obtain ⟨p, q, hA0, hV, rfl, hfz, hnd⟩ := hW
  have hA : DataW.TrodAll enc Try.prog W 0 (fun _ => true) true Try.f7.params.toList args.toList ds p := hA0
  rw [Try.params7] at hA hval
  obtain ⟨v0, vs0, d0, ds0, p0, q0, hargs, rfl, rfl, h0, r0⟩ := trodAll_cons hA
  obtain ⟨v1, vs1, d1, ds1, p1, q1, rfl, rfl, rfl, h1, r1⟩ := trodAll_cons r0
  obtain ⟨v2, vs2, d2, ds2, p2, q2, rfl, rfl, rfl, h2, r2⟩ := trodAll_cons r1
  obtain ⟨rfl, rfl, rfl⟩ := trodAll_nil r2
  obtain rfl : args = #[v0, v1, v2] := by cases args; simp_all
  obtain ⟨rfl, rfl⟩ := trodVars_none hV
  obtain ⟨vals, k0, q0, m0⟩ := Go.Vc.openLS Try.underlying30 Try.underlying9 (by kernel_rfl) (hval 0 30 v0 rfl rfl) h0
  obtain ⟨gone, k1⟩ := Go.Vc.openB Try.underlying4 (hval 1 4 v1 rfl rfl) h1
  obtain ⟨ask, k2⟩ := Go.Vc.open8 Try.underlying5 (hval 2 5 v2 rfl rfl) h2
  clear hA0 hval0
  refine (Go.Vc.law_walk2 (x := x_law22_KvVersions Go.Vc.real us) (an := (an_law22_KvVersions Go.Vc.real us vals gone ask)) (cu := []) (l := [.rb 1 (.ss vals), .b gone, .w8 ask]) (vals := [v0, v1, v2]) ⟨tt_ok, ok_law22_KvVersions, Go.Vc.ks_nil⟩ mixed Try.func7 rfl rfl (by kernel_rfl) hsh (Nat.le_of_ble_eq_true rfl) (Go.Vc.rvs_cons k0 (Go.Vc.rvs_cons k1 (Go.Vc.rvs_cons k2 Go.Vc.rvs_nil))) (c_law22_KvVersions vals gone ask q0 m0)).mono fun e W' ⟨he, bel⟩ => ?_
  subst he
  exact ⟨_, rfl, Go.Vc.post_true (tb := 4) laidOut (by kernel_rfl) rfl Try.underlying4 rfl hW' rfl bel⟩
theorem over : Rows.kvVersionsRow.holds Try.pinned (OpenSpec.ofChange Rows.kvVersionsSpec) :=
  OpenClaim.holds_of_wide 7 Try.f7 rfl rfl rfl rfl rfl rfl rfl ⟨rfl, rfl, rfl, rfl, rfl⟩ rfl rfl rfl rfl rfl (by kernel_rfl) Try.func7 (Go.Vc.joined_of p_laidOut p_maps p_stops p_knobs p_heard p_mayEnter p_lifts p_make rfl rfl (by kernel_rfl) (by kernel_rfl) (by kernel_rfl) (by kernel_rfl) (by kernel_rfl) (by kernel_rfl) (by kernel_rfl) (by kernel_rfl) (by kernel_rfl) (by kernel_rfl) (by kernel_rfl) (by kernel_rfl) (by kernel_rfl) (by kernel_rfl) (by kernel_rfl) (by kernel_rfl) (by kernel_rfl) (by kernel_rfl) (by kernel_rfl) (by kernel_rfl) (by kernel_rfl) (by kernel_rfl) (by kernel_rfl) (by kernel_rfl) )
    (of_decide_eq_true (by kernel_rfl)) (by unfold Func.isWrapper; first | (rw [if_pos (by decide +kernel)]; kernel_rfl) | (rw [if_neg (by decide +kernel)]; exact ⟨rfl, rfl⟩))
    (fun os started H enc _ => lifted os started H enc)
theorem proved : Rows.KvVersionsSaid := over
#print axioms proved
end Go.Proofs.Ythjlhookepchgaa.kvVersions

