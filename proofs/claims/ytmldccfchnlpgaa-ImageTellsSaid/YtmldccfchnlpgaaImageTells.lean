/- The given statement is proved: for every input the law's function answers true. No condition. -/
import Derived.Test.YtmldccfchnlpgaaPartX
import Derived.Test.YtmldccfchnlpgaaRows
import Derived.Test.YtmldccfchnlpgaaPart6
import Derived.Test.YtmldccfchnlpgaaPart7
import Derived.WalkKit
import Derived.HandedShaped
import Derived.ProofKit
import Derived.OpenShut
import Derived.ShutString
set_option linter.unusedVariables false
set_option linter.unusedSimpArgs false
set_option maxRecDepth 100000
set_option maxHeartbeats 1000000
namespace Go.Proofs.Ytmldccfchnlpgaa
open Go Go.Vc
theorem it_len {n : Nat} {p : List UInt8} (h : ¬ real.pB (real.lti (real.int n) (real.int (real.lenB p))) true) : p.length ≤ n := by
  by_cases e : n < p.length
  · exact absurd (decide_eq_true (show (n : Int) < (p.length : Int) by omega)) h
  · omega
noncomputable abbrev itN (c : List UInt8) (least : Int) : Int := real.maxi (real.int 1) (real.mini least (real.int (real.lenB c)))
theorem it_k {c : List UInt8} {least : Int} (hc : 0 < c.length) : itN c least = real.int (u_plK c least) := by
  show (if (if (c.length : Int) < least then (c.length : Int) else least) > 1 then (if (c.length : Int) < least then (c.length : Int) else least) else 1) = ((u_plK c least : Nat) : Int)
  unfold u_plK
  split <;> split <;> omega
theorem it_K {c : List UInt8} {least : Int} : u_plK c least ≤ c.length := by unfold u_plK; omega
theorem it_g1 {c : List UInt8} (h : ¬ real.pB (real.lti (real.int 0) (real.int (real.lenB c))) false) : 0 < c.length := lt_g h
theorem it_add {c : List UInt8} {least : Int} {i : Nat} (hc : 0 < c.length) (lc : c.length ≤ 60) (hi : i ≤ c.length) : real.addi (real.int i) (itN c least) = ((i + u_plK c least : Nat) : Int) := by
  have := it_K (c := c) (least := least)
  rw [it_k hc]
  show IntKind.i64.wrap ((i : Int) + (u_plK c least : Int)) = _
  rw [wrap_sm (by omega) (by omega)]
  omega
theorem it_g2 {c : List UInt8} {least : Int} {i : Nat} (hc : 0 < c.length) (lc : c.length ≤ 60) (hi : i ≤ c.length) (h : ¬ real.pB (real.lei (real.addi (real.int i) (itN c least)) (real.int (real.lenB c))) false) : i + u_plK c least ≤ c.length := by
  rw [it_add hc lc hi] at h
  by_cases e : i + u_plK c least ≤ c.length
  · exact e
  · exact absurd (show decide (((i + u_plK c least : Nat) : Int) ≤ (c.length : Int)) = false from decide_eq_false (by omega)) h
theorem it_g3 {c : List UInt8} {least : Int} {i : Nat} (hc : 0 < c.length) (lc : c.length ≤ 60) (hi : i ≤ c.length) (h : ¬ real.pB (real.lei (real.addi (real.int i) (itN c least)) (real.int (real.lenB c))) true) : c.length < i + u_plK c least := by
  rw [it_add hc lc hi] at h
  by_cases e : i + u_plK c least ≤ c.length
  · exact absurd (show decide (((i + u_plK c least : Nat) : Int) ≤ (c.length : Int)) = true from decide_eq_true (by omega)) h
  · omega
theorem it_cut {c : List UInt8} {least : Int} {i : Nat} (hc : 0 < c.length) (lc : c.length ≤ 60) (hi : i ≤ c.length) : real.cutB c (real.nat (real.int i)) (real.subn (real.nat (real.addi (real.int i) (itN c least))) (real.nat (real.int i))) = (c.drop i).take (u_plK c least) := by
  rw [it_add hc lc hi]
  show (c.drop i).take (i + u_plK c least - i) = _
  rw [Nat.add_sub_cancel_left]
theorem it_s1 {a c : List UInt8} {K i : Nat} (h : ¬ real.pB (real.notb (us.plN a c K i)) false) : true = real.notb (us.plN a c K (i + 1)) := by
  have h1 : u_plN a c K i = false := by
    cases e : u_plN a c K i with
    | false => rfl
    | true => exact absurd (show (!u_plN a c K i) = false by rw [e]; rfl) h
  show true = !(u_plN a c K i && decide (u_find a ((c.drop i).take K) < 0))
  rw [h1]; rfl
theorem it_s2 {a c : List UInt8} {least : Int} {i : Nat} (hc : 0 < c.length) (lc : c.length ≤ 60) (hi : i ≤ c.length) (h : ¬ real.pB (real.notb (us.plN a c (us.plK c least) i)) true) : real.lei (real.int 0) (us.find a (real.cutB c (real.nat (real.int i)) (real.subn (real.nat (real.addi (real.int i) (itN c least))) (real.nat (real.int i))))) = real.notb (us.plN a c (us.plK c least) (i + 1)) := by
  have h1 : u_plN a c (u_plK c least) i = true := by
    cases e : u_plN a c (u_plK c least) i with
    | true => rfl
    | false => exact absurd (show (!u_plN a c (u_plK c least) i) = true by rw [e]; rfl) h
  rw [it_cut hc lc hi]
  show decide ((0 : Int) ≤ u_find a ((c.drop i).take (u_plK c least))) = !(u_plN a c (u_plK c least) i && decide (u_find a ((c.drop i).take (u_plK c least)) < 0))
  rw [h1, Bool.true_and]
  by_cases e : u_find a ((c.drop i).take (u_plK c least)) < 0
  · rw [decide_eq_true e, decide_eq_false (by omega)]; rfl
  · rw [decide_eq_false e, decide_eq_true (by omega)]; rfl
theorem it_l1 {c : List UInt8} {least : Int} {i : Nat} (hc : 0 < c.length) (h : i + u_plK c least ≤ c.length) : real.pLe (i + 1) (real.lenB c) := by
  have := (plK_le c least hc).1
  show i + 1 ≤ c.length
  omega
theorem it_l2 {c : List UInt8} {least : Int} {i : Nat} (h : i + u_plK c least ≤ c.length) : real.pLe (i + 1) (real.addn (real.subn (real.lenB c) (us.plK c least)) 1) := by
  show i + 1 ≤ c.length - u_plK c least + 1
  omega
theorem it_mu {c : List UInt8} {i : Nat} (h : i ≤ c.length) : real.subn (real.addn (real.lenB c) 1) (i + 1) < real.subn (real.addn (real.lenB c) 1) i := by
  show c.length + 1 - (i + 1) < c.length + 1 - i
  omega
theorem it_e {a c : List UInt8} {least : Int} {i : Nat} (hc : 0 < c.length) (h : i ≤ c.length - u_plK c least + 1) (h2 : c.length < i + u_plK c least) : real.notb (us.plN a c (us.plK c least) i) = us.plain a c least := by
  have := it_K (c := c) (least := least)
  have e : i = c.length - u_plK c least + 1 := by omega
  subst e
  show (!u_plN a c (u_plK c least) (c.length - u_plK c least + 1)) = u_plain a c least
  unfold u_plain
  rw [decide_eq_false (by omega)]
  rfl
theorem it_e0 {a c : List UInt8} {least : Int} {i : Nat} (h : ¬ real.pB (real.lti (real.int 0) (real.int (real.lenB c))) true) (hi : i ≤ c.length) : real.notb (us.plN a c (us.plK c least) i) = us.plain a c least := by
  have h0 : c.length = 0 := Nat.le_zero.1 (ge_g h)
  have e : i = 0 := by omega
  subst e
  show (!u_plN a c (u_plK c least) 0) = u_plain a c least
  unfold u_plain
  rw [decide_eq_true h0]
  rfl
theorem it_0 (a c : List UInt8) (K : Nat) : false = real.notb (us.plN a c K 0) := rfl
theorem it_N {a b : List UInt8} (la : a.length ≤ 400) (lb : b.length ≤ 400) : u_smN a b ≤ 7 := by unfold u_smN; omega
theorem it_mul {i : Nat} (hi : i ≤ 1000) : real.muli (real.int 64) (real.int i) = ((64 * i : Nat) : Int) := by
  show IntKind.i64.wrap (64 * (i : Int)) = _
  rw [wrap_sm (by omega) (by omega)]
  omega
theorem it_ga {a : List UInt8} {i : Nat} (hi : i ≤ 1000) (h : ¬ real.pB (real.lti (real.muli (real.int 64) (real.int i)) (real.int (real.lenB a))) false) : 64 * i < a.length := by
  rw [it_mul hi] at h
  by_cases e : 64 * i < a.length
  · exact e
  · exact absurd (show decide (((64 * i : Nat) : Int) < (a.length : Int)) = false from decide_eq_false (by omega)) h
theorem it_gb {a : List UInt8} {i : Nat} (hi : i ≤ 1000) (h : ¬ real.pB (real.lti (real.muli (real.int 64) (real.int i)) (real.int (real.lenB a))) true) : a.length ≤ 64 * i := by
  rw [it_mul hi] at h
  by_cases e : 64 * i < a.length
  · exact absurd (show decide (((64 * i : Nat) : Int) < (a.length : Int)) = true from decide_eq_true (by omega)) h
  · omega
theorem it_i {a b : List UInt8} {i : Nat} (h : 64 * i < a.length ∨ 64 * i < b.length) : i < u_smN a b := by unfold u_smN; omega
theorem it_end {a b : List UInt8} {i : Nat} (h : i ≤ u_smN a b) (h1 : a.length ≤ 64 * i) (h2 : b.length ≤ 64 * i) : i = u_smN a b := by unfold u_smN at h ⊢; omega
noncomputable abbrev itX (a : List UInt8) (i : Nat) : List UInt8 := real.cutB a (real.nat (real.mini (real.muli (real.int 64) (real.int i)) (real.int (real.lenB a)))) (real.subn (real.nat (real.mini (real.addi (real.muli (real.int 64) (real.int i)) (real.int 64)) (real.int (real.lenB a)))) (real.nat (real.mini (real.muli (real.int 64) (real.int i)) (real.int (real.lenB a)))))
theorem it_x (a : List UInt8) {i : Nat} (hi : i ≤ 1000) : itX a i = (a.drop (64 * i)).take 64 := by
  have e1 : real.addi (((64 * i : Nat) : Int)) (real.int 64) = ((64 * i + 64 : Nat) : Int) := by
    show IntKind.i64.wrap (((64 * i : Nat) : Int) + 64) = _
    rw [wrap_sm (by omega) (by omega)]
    omega
  have e2 : ∀ n : Nat, real.nat (real.mini (n : Int) (real.int (real.lenB a))) = min n a.length := by
    intro n
    show (if (a.length : Int) < (n : Int) then (a.length : Int) else (n : Int)).toNat = _
    split <;> omega
  unfold itX
  rw [it_mul hi, e1, e2, e2]
  show (a.drop (min (64 * i) a.length)).take (min (64 * i + 64) a.length - min (64 * i) a.length) = _
  by_cases h : 64 * i ≤ a.length
  · rw [Nat.min_eq_left h]
    by_cases h2 : 64 * i + 64 ≤ a.length
    · rw [Nat.min_eq_left h2, Nat.add_sub_cancel_left]
    · rw [Nat.min_eq_right (by omega), List.take_of_length_le (by rw [List.length_drop]; omega), List.take_of_length_le (by rw [List.length_drop]; omega)]
  · rw [Nat.min_eq_right (by omega), Nat.min_eq_right (by omega), List.drop_of_length_le (Nat.le_refl _), List.drop_of_length_le (by omega)]
    simp
theorem it_len2 (a : List UInt8) (i : Nat) : ((a.drop (64 * i)).take 64).length = min 64 (a.length - 64 * i) := by rw [List.length_take, List.length_drop]
theorem it_iff (a b : List UInt8) (i : Nat) : (a.drop (64 * i)).take 64 = (b.drop (64 * i)).take 64 ↔ u_sec a i = u_sec b i ∧ u_scn a i = u_scn b i := by
  constructor
  · intro h
    have hl := congrArg List.length h
    rw [it_len2, it_len2] at hl
    unfold u_sec u_scn
    rw [h, hl]
    have e : 64 - (a.length - 64 * i) = 64 - (b.length - 64 * i) := by omega
    rw [e]
    exact ⟨rfl, rfl⟩
  · rintro ⟨h1, h2⟩
    unfold u_scn at h2
    unfold u_sec at h1
    exact (List.append_inj h1 (by rw [it_len2, it_len2]; omega)).1
theorem it_ne {a b : List UInt8} {i : Nat} (hi : i ≤ 1000) (h : ¬ real.pB (real.notb (real.eqB (itX a i) (itX b i))) false) : real.appI (us.smL a b i) [real.int i] = us.smL a b (i + 1) := by
  rw [it_x a hi, it_x b hi] at h
  show u_smL a b i ++ [(i : Int)] = u_smL a b (i + 1)
  rw [u_smL, if_neg]
  intro e
  rw [← it_iff] at e
  refine h ?_
  show (!((a.drop (64 * i)).take 64 == (b.drop (64 * i)).take 64)) = false
  rw [e]
  simp
theorem it_eq2 {a b : List UInt8} {i : Nat} (hi : i ≤ 1000) (h : ¬ real.pB (real.notb (real.eqB (itX a i) (itX b i))) true) : us.smL a b i = us.smL a b (i + 1) := by
  rw [it_x a hi, it_x b hi] at h
  show u_smL a b i = u_smL a b (i + 1)
  rw [u_smL, if_pos]
  rw [← it_iff]
  by_cases e : (a.drop (64 * i)).take 64 = (b.drop (64 * i)).take 64
  · exact e
  · refine absurd ?_ h
    show (!((a.drop (64 * i)).take 64 == (b.drop (64 * i)).take 64)) = true
    rw [beq_eq_false_iff_ne.2 e]
    rfl
theorem it_c1 (x : Int) : real.pB (real.notb (real.eqi x x)) false := by show (!(x == x)) = false; simp
theorem it_c2 (x : Bool) : real.pB (real.notb (real.eqb x x)) false := by show (!(x == x)) = false; simp
theorem it_c3 (x : Int) : real.pB (real.notb (real.eqi x x)) false := it_c1 x
theorem ip5 : real.pB (real.notb true) false := rfl
end Go.Proofs.Ytmldccfchnlpgaa
attribute [local irreducible] Go.Proofs.Ytmldccfchnlpgaa.u_uwE Go.Proofs.Ytmldccfchnlpgaa.u_uwK Go.Proofs.Ytmldccfchnlpgaa.u_cut48 Go.Proofs.Ytmldccfchnlpgaa.u_wrI Go.Proofs.Ytmldccfchnlpgaa.u_wrO Go.Proofs.Ytmldccfchnlpgaa.u_wrF Go.Proofs.Ytmldccfchnlpgaa.u_wrp Go.Proofs.Ytmldccfchnlpgaa.u_smL Go.Proofs.Ytmldccfchnlpgaa.u_smN Go.Proofs.Ytmldccfchnlpgaa.u_find Go.Proofs.Ytmldccfchnlpgaa.u_plain Go.Proofs.Ytmldccfchnlpgaa.u_wm Go.Proofs.Ytmldccfchnlpgaa.u_plN Go.Proofs.Ytmldccfchnlpgaa.u_plK
namespace Go.Proofs.Ytmldccfchnlpgaa
open Go Go.Vc
noncomputable def sp_law27_ImageTells (F : Fs) (U : Us) : Specs := [(81, s_law27_known F U), (82, s_law27_find F U), (84, s_image_Find F U), (85, s_image_Plain F U), (83, s_image_Same F U)]
theorem ok_law27_ImageTells : SpecsOK Try.prog (sp_law27_ImageTells real us) := sp_cons r_law27_known k_law27_known (sp_cons r_law27_find k_law27_find (sp_cons r_image_Find k_image_Find (sp_cons r_image_Plain k_image_Plain (sp_cons r_image_Same k_image_Same sp_nil))))
noncomputable def an_law27_ImageTells (F : Fs) (U : Us) (a b c : List UInt8) (least : Int) : Anns := [(8, ⟨Nat, fun i => F.pLe i (F.lenB c) ∧ F.pLe i (F.addn (F.subn (F.lenB c) (U.plK c least)) 1), fun i => F.subn (F.addn (F.lenB c) 1) i, fun i => ⟨[(0, .rb 1 (.bt a)), (1, .rb 1 (.bt b)), (2, .rb 1 (.bt c)), (3, .i least), (9, .b (F.notb (U.plN a c (U.plK c least) i))), (10, .i (F.maxi (F.int 1) (F.mini least (F.int (F.lenB c))))), (11, .i (F.int i))], []⟩⟩),
  (13, ⟨Nat, fun i => F.pLe i (U.smN a b), fun i => F.subn (U.smN a b) i, fun i => ⟨[(0, .rb 1 (.bt a)), (1, .rb 1 (.bt b)), (2, .rb 1 (.bt c)), (3, .i least), (9, .b (U.plain a c least)), (12, .rw 0), (13, .i (F.int i))], [(12, 0, .row 3 1 (.is (U.smL a b i)))]⟩⟩),
  (22, ⟨Nat, fun i => F.pLe i (F.lenI (U.smL a b (U.smN a b))), fun i => F.subn (F.lenI (U.smL a b (U.smN a b))) i, fun i => ⟨[(12, .rw 0), (16, .rw 1), (17, .i (F.int i))], [(12, 0, .row 3 1 (.is (U.smL a b (U.smN a b)))), (16, 1, .row 3 1 (.is (U.smL a b (U.smN a b))))]⟩⟩)]
noncomputable def cu_law27_ImageTells (F : Fs) (U : Us) (a b c : List UInt8) (least : Int) : Anns := [(11, ⟨Nat, fun _ => F.pLe (F.lenB a) 400 ∧ (F.pLe (F.lenB b) 400 ∧ F.pLe (F.lenB c) 60), fun i => i, fun _ => ⟨[(0, .rb 1 (.bt a)), (1, .rb 1 (.bt b)), (2, .rb 1 (.bt c)), (3, .i least), (9, .b (U.plain a c least))], []⟩⟩)]
noncomputable def x_law27_ImageTells (F : Fs) (U : Us) : Cx := ⟨Try.f26.ntmps, tt F, sp_law27_ImageTells F U, [], [(15, ([(10, [4, 5]), (11, [4, 5]), (17, [4, 5, 10, 11, 12]), (18, [4, 5, 10, 11, 12]), (23, [4, 5, 10, 11, 12, 17, 18]), (24, [4, 5, 10, 11, 12, 17, 18]), (25, [4, 5, 10, 11, 12])], [])), (24, ([(6, [2, 3]), (7, [2, 3])], []))], [], []⟩
theorem c_law27_ImageTells (a b c : List UInt8) (least : Int) (q0 : a.length ≤ 9223372036854775807) (q1 : b.length ≤ 9223372036854775807) (q2 : c.length ≤ 9223372036854775807) (q3 : -9223372036854775808 ≤ least ∧ least ≤ 9223372036854775807) : vc real (x_law27_ImageTells real us) (an_law27_ImageTells real us a b c least) (cu_law27_ImageTells real us a b c least) (Try.f26.body.getD .skip) ⟨zipSl 0 [.rb 1 (.bt a), .rb 1 (.bt b), .rb 1 (.bt c), .i least], [], 64⟩ (retOk real (tt real) false Try.f26.results.toList [.val (.b true)]) := by
  generalize hU : us = U
  generalize hF : real = F
  have hl : ∀ {n : Nat} {x : List UInt8}, ¬ F.pB (F.lti (F.int n) (F.int (F.lenB x))) true → x.length ≤ n := by subst hF; exact it_len
  cbv
  repeat' first | apply And.intro | refine Classical.or_iff_not_imp_left.2 (fun _ => ?_) | exact trivial
  all_goals try (subst hF hU; simp only [real, us, Nat.le_eq, Int.cast_ofNat_Int, decide_eq_false_iff_not, decide_eq_true_eq, List.length_take, List.length_drop, List.length_append, List.length_replicate, List.length_set, List.length_cons, List.length_nil, List.length_zipWith] at *; (try simp (disch := omega) only [wrap_sm] at *); omega)
  · subst hF; exact absurd ip5 (by assumption)
  · rename_i g1 ga gb gc
    have la := hl ga; have lb := hl gb; have lc := hl gc
    clear g1 ga gb gc
    refine ⟨(0 : Nat), ?_⟩
    cbv; subst hF hU
    exact ⟨⟨Nat.zero_le _, Nat.zero_le _⟩, ⟨it_0 _ _ _, trivial⟩, trivial⟩
  · rename_i g1 ga gb gc
    have la := hl ga; have lb := hl gb; have lc := hl gc
    clear g1 ga gb gc
    intro (i : Nat) hi
    have h1 : i ≤ c.length := by subst hF; exact hi.1
    have h2 : i ≤ c.length - u_plK c least + 1 := by subst hF hU; exact hi.2
    clear hi
    cbv
    repeat' first | apply And.intro | refine Classical.or_iff_not_imp_left.2 (fun _ => ?_) | exact trivial
    all_goals try (subst hF hU; simp only [real, us, Nat.le_eq, Int.cast_ofNat_Int, decide_eq_false_iff_not, decide_eq_true_eq, List.length_take, List.length_drop, List.length_append, List.length_replicate, List.length_set, List.length_cons, List.length_nil, List.length_zipWith] at *; (try simp (disch := omega) only [wrap_sm] at *); omega)
    · rename_i g1 g2 g3
      have hc := it_g1 (by subst hF; exact g1)
      have h3 := it_g2 hc lc h1 (by subst hF; exact g2)
      have h4 := it_s2 hc lc h1 (by subst hF hU; exact g3)
      clear g1 g2 g3
      refine ⟨(i + 1 : Nat), ?_⟩
      cbv; subst hF hU
      exact ⟨⟨it_l1 hc h3, it_l2 h3⟩, it_mu h1, ⟨h4, addi1 (by omega), trivial⟩, trivial⟩
    · rename_i g1 g2 g3
      have hc := it_g1 (by subst hF; exact g1)
      have h3 := it_g2 hc lc h1 (by subst hF; exact g2)
      have h4 := it_s1 (by subst hF hU; exact g3)
      clear g1 g2 g3
      refine ⟨(i + 1 : Nat), ?_⟩
      cbv; subst hF hU
      exact ⟨⟨it_l1 hc h3, it_l2 h3⟩, it_mu h1, ⟨h4, addi1 (by omega), trivial⟩, trivial⟩
    · rename_i g1 g2
      have hc := it_g1 (by subst hF; exact g1)
      have h3 := it_g3 hc lc h1 (by subst hF; exact g2)
      have h4 := it_e (a := a) hc h2 h3
      clear g1 g2
      refine ⟨(0 : Nat), ?_⟩
      cbv; subst hF hU
      exact ⟨⟨la, lb, lc⟩, ⟨h4, trivial⟩, trivial⟩
    · rename_i g1
      have h4 := it_e0 (a := a) (least := least) (by subst hF; exact g1) h1
      clear g1
      refine ⟨(0 : Nat), ?_⟩
      cbv; subst hF hU
      exact ⟨⟨la, lb, lc⟩, ⟨h4, trivial⟩, trivial⟩
  · intro (i : Nat) hi
    have la : a.length ≤ 400 := by subst hF; exact hi.1
    have lb : b.length ≤ 400 := by subst hF; exact hi.2.1
    have lc : c.length ≤ 60 := by subst hF; exact hi.2.2
    clear hi
    have hN := it_N la lb
    cbv
    repeat' first | apply And.intro | refine Classical.or_iff_not_imp_left.2 (fun _ => ?_) | exact trivial
    all_goals try (subst hF hU; simp only [real, us, Nat.le_eq, Int.cast_ofNat_Int, decide_eq_false_iff_not, decide_eq_true_eq, List.length_take, List.length_drop, List.length_append, List.length_replicate, List.length_set, List.length_cons, List.length_nil, List.length_zipWith] at *; (try simp (disch := omega) only [wrap_sm] at *); omega)
    · refine ⟨(0 : Nat), ?_⟩
      cbv; subst hF hU
      exact ⟨Nat.zero_le _, sm_0 a b, trivial⟩
    · intro (i : Nat) hi
      have h1 : i ≤ u_smN a b := by subst hF hU; exact hi
      clear hi
      have hL := sm_len a b i
      cbv
      repeat' first | apply And.intro | refine Classical.or_iff_not_imp_left.2 (fun _ => ?_) | exact trivial
      all_goals try (subst hF hU; simp only [real, us, Nat.le_eq, Int.cast_ofNat_Int, decide_eq_false_iff_not, decide_eq_true_eq, List.length_take, List.length_drop, List.length_append, List.length_replicate, List.length_set, List.length_cons, List.length_nil, List.length_zipWith] at *; (try simp (disch := omega) only [wrap_sm] at *); omega)
      · rename_i g0 ga gb gc g1 g2 g3
        have hi : i < u_smN a b := by subst hF; exact it_i (.inr (it_ga (by omega) g2))
        have h4 := it_ne (a := a) (b := b) (i := i) (by omega) (by subst hF; exact g3)
        clear g0 ga gb gc g1 g2 g3
        refine ⟨(i + 1 : Nat), ?_⟩
        cbv; subst hF hU
        exact ⟨hi, sub_stepN hi, ⟨addi1 (by omega), trivial⟩, h4, trivial⟩
      · rename_i g0 ga gb gc g1 g2 g3
        have hi : i < u_smN a b := by subst hF; exact it_i (.inr (it_ga (by omega) g2))
        have h4 := it_eq2 (a := a) (b := b) (i := i) (by omega) (by subst hF; exact g3)
        clear g0 ga gb gc g1 g2 g3
        refine ⟨(i + 1 : Nat), ?_⟩
        cbv; subst hF hU
        exact ⟨hi, sub_stepN hi, ⟨addi1 (by omega), trivial⟩, h4, trivial⟩
      · rename_i g0 ga gb gc g1 g2 g3 g4 g5
        have hi : i = u_smN a b := by subst hF; exact it_end h1 (it_gb (by omega) g1) (it_gb (by omega) g2)
        subst hF hU hi
        exact absurd (it_c1 _) g5
      · rename_i g0 ga gb gc g1 g2 g3 g4 g5
        have hi : i = u_smN a b := by subst hF; exact it_end h1 (it_gb (by omega) g1) (it_gb (by omega) g2)
        clear g0 ga gb gc g1 g2 g3 g4 g5
        refine ⟨(0 : Nat), ?_⟩
        cbv; subst hF hU hi
        exact ⟨Nat.zero_le _, rfl, trivial⟩
      · rename_i g0 ga gb gc g1 g2 g3 g4 g5
        clear g0 ga gb gc g1 g2 g3 g4 g5
        intro (j : Nat) hj
        have hj1 : j ≤ (u_smL a b (u_smN a b)).length := by subst hF hU; exact hj
        clear hj
        have hL2 := sm_len a b (u_smN a b)
        cbv
        repeat' first | apply And.intro | refine Classical.or_iff_not_imp_left.2 (fun _ => ?_) | exact trivial
        all_goals try (subst hF hU; simp only [real, us, Nat.le_eq, Int.cast_ofNat_Int, decide_eq_false_iff_not, decide_eq_true_eq, List.length_take, List.length_drop, List.length_append, List.length_replicate, List.length_set, List.length_cons, List.length_nil, List.length_zipWith] at *; (try simp (disch := omega) only [wrap_sm] at *); omega)
        · rename_i g1 g2
          subst hF hU
          exact absurd (it_c1 _) g2
        · rename_i g1 g2
          have hlt : j < (u_smL a b (u_smN a b)).length := by subst hF hU; exact lt_g g1
          clear g1 g2
          refine ⟨(j + 1 : Nat), ?_⟩
          cbv; subst hF hU
          exact ⟨hlt, sub_stepN hlt, ⟨addi1 (by omega), trivial⟩, trivial⟩
      · rename_i g0 ga gb gc g1 g2 g3 g4
        subst hF hU
        exact absurd (it_c2 _) g4
      · rename_i g0 ga gb gc g1 g2 g3
        subst hF hU
        exact absurd (it_c3 _) g3
      · rename_i g0 ga gb gc g1 g3
        have hi : i < u_smN a b := by subst hF; exact it_i (.inl (it_ga (by omega) g1))
        have h4 := it_ne (a := a) (b := b) (i := i) (by omega) (by subst hF; exact g3)
        clear g0 ga gb gc g1 g3
        refine ⟨(i + 1 : Nat), ?_⟩
        cbv; subst hF hU
        exact ⟨hi, sub_stepN hi, ⟨addi1 (by omega), trivial⟩, h4, trivial⟩
      · rename_i g0 ga gb gc g1 g3
        have hi : i < u_smN a b := by subst hF; exact it_i (.inl (it_ga (by omega) g1))
        have h4 := it_eq2 (a := a) (b := b) (i := i) (by omega) (by subst hF; exact g3)
        clear g0 ga gb gc g1 g3
        refine ⟨(i + 1 : Nat), ?_⟩
        cbv; subst hF hU
        exact ⟨hi, sub_stepN hi, ⟨addi1 (by omega), trivial⟩, h4, trivial⟩
end Go.Proofs.Ytmldccfchnlpgaa
namespace Go.Proofs.Ytmldccfchnlpgaa.imageTells
open Go.ChangeShapes Go.WideShapes Go.ChangeAt Go.RowKit
set_option linter.unusedVariables false
theorem own : ownKnob Try.prog.godebug = none := by kernel_rfl
theorem laidOut : laidOutB Try.prog = true := p_laidOut
set_option maxRecDepth 100000 in
theorem lifted (os : Os) (started : os.Started) (H : Type) (enc : TypeId × Value → H) :
    ReturnsInHanded {} Try.checked os 26 .any (Rows.imageTellsSpec.pre6 enc Try.prog Try.f26 Rows.imageTellsRow.domain false) (Rows.imageTellsSpec.post enc Try.prog Try.f26 false true false false) := by
  refine returnsInHanded_of_change_shaped (C := Try.checked) own started (by kernel_rfl) Try.func26
    (ChangeSpec.witness6 (enc := enc) (C := Try.checked) false ⟨#[], #[.slice none 0 0, .slice none 0 0, .slice none 0 0, .int .i64 0], []⟩ 8 (by kernel_rfl) (by kernel_rfl) (by kernel_rfl) (by kernel_rfl)) ?_
  intro W base args ds gs before hval0 hW hcnd hrch hsh _
  have hval : ∀ (j : Nat) t v, Try.f26.params[j]? = some t → args[j]? = some v → Value.okWide Try.prog W .any base t v := hval0
  have hW' := hW
  obtain ⟨p, q, hA0, hV, rfl, hfz, hnd⟩ := hW
  have hA : DataW.TrodAll enc Try.prog W 0 (fun _ => true) true Try.f26.params.toList args.toList ds p := hA0
  rw [Try.params26] at hA hval
  obtain ⟨v0, vs0, d0, ds0, p0, q0, hargs, rfl, rfl, h0, r0⟩ := trodAll_cons hA
  obtain ⟨v1, vs1, d1, ds1, p1, q1, rfl, rfl, rfl, h1, r1⟩ := trodAll_cons r0
  obtain ⟨v2, vs2, d2, ds2, p2, q2, rfl, rfl, rfl, h2, r2⟩ := trodAll_cons r1
  obtain ⟨v3, vs3, d3, ds3, p3, q3, rfl, rfl, rfl, h3, r3⟩ := trodAll_cons r2
  obtain ⟨rfl, rfl, rfl⟩ := trodAll_nil r3
  obtain rfl : args = #[v0, v1, v2, v3] := by cases args; simp_all
  obtain ⟨rfl, rfl⟩ := trodVars_none hV
  obtain ⟨a, k0, q0⟩ := Go.Vc.openL8 Try.underlying27 Try.underlying5 (by kernel_rfl) (hval 0 27 v0 rfl rfl) h0
  obtain ⟨b, k1, q1⟩ := Go.Vc.openL8 Try.underlying27 Try.underlying5 (by kernel_rfl) (hval 1 27 v1 rfl rfl) h1
  obtain ⟨c, k2, q2⟩ := Go.Vc.openL8 Try.underlying27 Try.underlying5 (by kernel_rfl) (hval 2 27 v2 rfl rfl) h2
  obtain ⟨least, k3, q3⟩ := Go.Vc.openI Try.underlying3 (hval 3 3 v3 rfl rfl) h3
  clear hA0 hval0
  refine (Go.Vc.law_walk2 (x := x_law27_ImageTells Go.Vc.real us) (an := (an_law27_ImageTells Go.Vc.real us a b c least)) (cu := (cu_law27_ImageTells Go.Vc.real us a b c least)) (l := [.rb 1 (.bt a), .rb 1 (.bt b), .rb 1 (.bt c), .i least]) (vals := [v0, v1, v2, v3]) ⟨tt_ok, ok_law27_ImageTells, Go.Vc.ks_nil⟩ mixed Try.func26 rfl rfl (by kernel_rfl) hsh (Nat.le_of_ble_eq_true rfl) (Go.Vc.rvs_cons k0 (Go.Vc.rvs_cons k1 (Go.Vc.rvs_cons k2 (Go.Vc.rvs_cons k3 Go.Vc.rvs_nil)))) (c_law27_ImageTells a b c least q0 q1 q2 q3)).mono fun e W' ⟨he, bel⟩ => ?_
  subst he
  exact ⟨_, rfl, Go.Vc.post_true (tb := 4) laidOut (by kernel_rfl) rfl Try.underlying4 rfl hW' rfl bel⟩
theorem over : Rows.imageTellsRow.holds Try.pinned (OpenSpec.ofChange Rows.imageTellsSpec) :=
  OpenClaim.holds_of_wide 26 Try.f26 rfl rfl rfl rfl rfl rfl rfl ⟨rfl, rfl, rfl, rfl, rfl⟩ rfl rfl rfl rfl rfl (by kernel_rfl) Try.func26 (Go.Vc.joined_of p_laidOut p_maps p_stops p_knobs p_heard p_mayEnter p_lifts p_make rfl rfl (by kernel_rfl) (by kernel_rfl) (by kernel_rfl) (by kernel_rfl) (by kernel_rfl) (by kernel_rfl) (by kernel_rfl) (by kernel_rfl) (by kernel_rfl) (by kernel_rfl) (by kernel_rfl) (by kernel_rfl) (by kernel_rfl) (by kernel_rfl) (by kernel_rfl) (by kernel_rfl) (by kernel_rfl) (by kernel_rfl) (by kernel_rfl) (by kernel_rfl) (by kernel_rfl) (by kernel_rfl) (by kernel_rfl) (by kernel_rfl) )
    (of_decide_eq_true (by kernel_rfl)) (by unfold Func.isWrapper; first | (rw [if_pos (by decide +kernel)]; kernel_rfl) | (rw [if_neg (by decide +kernel)]; exact ⟨rfl, rfl⟩))
    (fun os started H enc _ => lifted os started H enc)
theorem proved : Rows.ImageTellsSaid := over
#print axioms proved
end Go.Proofs.Ytmldccfchnlpgaa.imageTells

