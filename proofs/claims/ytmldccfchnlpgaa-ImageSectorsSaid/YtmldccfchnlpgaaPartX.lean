/- Some more parts of the proof of given statements. No condition. -/
import Derived.Test.YtmldccfchnlpgaaPart1
import Derived.Test.YtmldccfchnlpgaaPart2
import Derived.Test.YtmldccfchnlpgaaPart3
import Derived.Test.YtmldccfchnlpgaaPart4
import Derived.Test.YtmldccfchnlpgaaPart5
import Derived.Test.YtmldccfchnlpgaaPart6
import Derived.Test.YtmldccfchnlpgaaPart7
set_option linter.unusedVariables false
set_option linter.unusedSimpArgs false
set_option linter.constructorNameAsVariable false
set_option linter.unusedVariables false
set_option linter.unusedSimpArgs false
set_option maxRecDepth 100000
set_option maxHeartbeats 1000000
namespace Go.Proofs
open Go.Shelf

end Go.Proofs
namespace Go.Proofs.Ytmldccfchnlpgaa
open Go Go.Vc
theorem hits_far (a b : List UInt8) (i : Nat) (h : a.length < i + b.length) : u_hits a b i = false := by
  unfold u_hits
  rw [decide_eq_false (by omega), Bool.false_and]
theorem fnd_no {a b : List UInt8} {i : Nat} (hn : u_noh a b i = true) (h : a.length < i + b.length) : u_find a b = -1 := by
  rcases find_spec a b with ⟨h1, _⟩ | ⟨j, h1, h2, h3⟩
  · exact h1
  · exfalso
    by_cases c : j < i
    · rw [noh_all a b i hn j c] at h2; cases h2
    · rw [hits_far a b j (by omega)] at h2; cases h2
end Go.Proofs.Ytmldccfchnlpgaa

set_option linter.unusedVariables false
set_option linter.unusedSimpArgs false
set_option maxRecDepth 100000
set_option maxHeartbeats 1000000
namespace Go.Proofs.Ytmldccfchnlpgaa
open Go Go.Vc
theorem fd_hit {a b : List UInt8} {i : Nat} (hb : b.length ≤ 100000) (hi : i ≤ 100001) (h1 : ¬ real.pB (real.lei (real.addi (real.int i) (real.int (real.lenB b))) (real.int (real.lenB a))) false) (h2 : ¬ real.pB (real.eqB (real.cutB a (real.nat (real.int i)) (real.subn (real.nat (real.addi (real.int i) (real.int (real.lenB b)))) (real.nat (real.int i)))) b) false) : u_hits a b i = true := by
  have e : real.addi (real.int i) (real.int (real.lenB b)) = real.int (i + b.length) := addiN (i := i) (k := b.length) (by omega) (by omega)
  rw [e] at h1 h2
  have h3 := le_g (a := i + b.length) (n := a.length) h1
  have h4 : real.eqB ((a.drop i).take (i + b.length - i)) b = true := trueF rfl h2
  rw [Nat.add_sub_cancel_left] at h4
  have h5 : (a.drop i).take b.length = b := by simpa using (show ((a.drop i).take b.length == b) = true from h4)
  unfold u_hits
  rw [decide_eq_true h3, decide_eq_true h5]
  rfl
theorem fd_no {a b : List UInt8} {i : Nat} (hb : b.length ≤ 100000) (hi : i ≤ 100001) (h2 : ¬ real.pB (real.eqB (real.cutB a (real.nat (real.int i)) (real.subn (real.nat (real.addi (real.int i) (real.int (real.lenB b)))) (real.nat (real.int i)))) b) true) : u_hits a b i = false := by
  have e : real.addi (real.int i) (real.int (real.lenB b)) = real.int (i + b.length) := addiN (i := i) (k := b.length) (by omega) (by omega)
  rw [e] at h2
  have h4 : real.eqB ((a.drop i).take (i + b.length - i)) b = false := falseF rfl h2
  rw [Nat.add_sub_cancel_left] at h4
  have h5 : ¬ (a.drop i).take b.length = b := by simpa using (show ((a.drop i).take b.length == b) = false from h4)
  unfold u_hits
  rw [decide_eq_false h5, Bool.and_false]
theorem fd_lt {a b : List UInt8} {i : Nat} (hb : b.length ≤ 100000) (hi : i ≤ 100001) (h1 : ¬ real.pB (real.lei (real.addi (real.int i) (real.int (real.lenB b))) (real.int (real.lenB a))) false) : i + b.length ≤ a.length := by
  have e : real.addi (real.int i) (real.int (real.lenB b)) = real.int (i + b.length) := addiN (i := i) (k := b.length) (by omega) (by omega)
  rw [e] at h1
  exact le_g (a := i + b.length) (n := a.length) h1
theorem fd_ge {a b : List UInt8} {i : Nat} (hb : b.length ≤ 100000) (hi : i ≤ 100001) (h1 : ¬ real.pB (real.lei (real.addi (real.int i) (real.int (real.lenB b))) (real.int (real.lenB a))) true) : a.length < i + b.length := by
  have e : real.addi (real.int i) (real.int (real.lenB b)) = real.int (i + b.length) := addiN (i := i) (k := b.length) (by omega) (by omega)
  rw [e] at h1
  exact gt_g (a := i + b.length) (n := a.length) h1
theorem noh_s {a b : List UInt8} {i : Nat} (h : u_noh a b i = true) (h2 : u_hits a b i = false) : real.pB (us.noh a b (i + 1)) true := by
  show (u_noh a b i && !(u_hits a b i)) = true
  rw [h, h2]; rfl
attribute [local irreducible] u_find u_noh
theorem r_law27_find : Ready Try.prog 82 := by unfold Ready; kernel_rfl
theorem ok_law27_find : SpecsOK Try.prog (sp_law27_find real us) := sp_nil
theorem c_law27_find (a b : List UInt8) (hc : real.pLe (real.lenB a) 100000 ∧ real.pLe (real.lenB b) 100000) : vc real (x_law27_find real us) (an_law27_find real us a b) [] (Try.f82.body.getD .skip) ⟨zipSl 0 [.rb 1 (.bt a), .rb 1 (.bt b)], [], 64⟩ (retOk real (tt real) false Try.f82.results.toList [.val (.i (us.find a b))]) := by
  generalize hU : us = U
  generalize hF : real = F
  have ha : a.length ≤ 100000 := hc.1
  have hb : b.length ≤ 100000 := hc.2
  clear hc
  cbv
  repeat' first | apply And.intro | refine Classical.or_iff_not_imp_left.2 (fun _ => ?_) | exact trivial
  all_goals try (subst hF hU; simp only [real, us, Nat.le_eq, Int.cast_ofNat_Int, decide_eq_false_iff_not, decide_eq_true_eq, List.length_take, List.length_drop, List.length_append, List.length_replicate, List.length_set, List.length_cons, List.length_nil, List.length_zipWith] at *; (try simp (disch := omega) only [wrap_sm] at *); omega)
  · refine ⟨(0 : Nat), ?_⟩
    cbv; subst hF hU
    refine ⟨⟨?_, Nat.zero_le _⟩, trivial⟩
    show u_noh a b 0 = true
    unfold u_noh
    rfl
  · intro (i : Nat) hi
    have h1 : u_noh a b i = true := by subst hF hU; exact hi.1
    have h2 : i ≤ a.length + 1 := by subst hF; exact hi.2
    clear hi
    cbv
    repeat' first | apply And.intro | refine Classical.or_iff_not_imp_left.2 (fun _ => ?_) | exact trivial
    all_goals try (subst hF hU; simp only [real, us, Nat.le_eq, Int.cast_ofNat_Int, decide_eq_false_iff_not, decide_eq_true_eq, List.length_take, List.length_drop, List.length_append, List.length_replicate, List.length_set, List.length_cons, List.length_nil, List.length_zipWith] at *; (try simp (disch := omega) only [wrap_sm] at *); omega)
    · rename_i g1 g2
      subst hF hU
      exact (find_hit h1 (fd_hit hb (by omega) g1 g2)).symm
    · rename_i g1 g2
      refine ⟨(i + 1 : Nat), ?_⟩
      cbv; subst hF hU
      have hlt := fd_lt hb (by omega) g1
      exact ⟨⟨noh_s h1 (fd_no hb (by omega) g2), show i + 1 ≤ a.length + 1 by omega⟩, sub_stepN (n := a.length + 1) (by omega), ⟨addi1 (by omega), trivial⟩, trivial⟩
    · rename_i g1
      subst hF hU
      exact (fnd_no h1 (fd_ge hb (by omega) g1)).symm
theorem k_law27_find : SpecOK Try.prog 82 (s_law27_find real us) := by
  refine pure_sound (x := x_law27_find real us) ⟨tt_ok, ok_law27_find, Go.Vc.ks_nil⟩ mixed Try.func82 rfl rfl (by kernel_rfl) ?_
  intro l c rs hg hc
  unfold g_law27_find at hg
  split at hg
  · cases hg; exact ⟨Nat.le_of_ble_eq_true rfl, an_law27_find real us _ _, [], c_law27_find _ _ hc⟩
  · cases hg

end Go.Proofs.Ytmldccfchnlpgaa

set_option linter.unusedVariables false
set_option linter.unusedSimpArgs false
namespace Go.Vc
open Go Go.RowKit Go.ChangeShapes Go.WideShapes
section
variable {P : Program} {w : World}
theorem u16_arg {a : Int} (h : (Lit.int .u16 a).wf = true) : ∃ x : UInt16, a = (x.toNat : Int) := by
  simp only [Lit.wf, Bool.and_eq_true, decide_eq_true_eq, IntKind.min, IntKind.max] at h
  refine ⟨UInt16.ofNat a.toNat, ?_⟩
  simp [IntKind.signed, IntKind.bits] at h
  rw [UInt16.toNat_ofNat_of_lt' (by simp [UInt16.size]; omega)]
  omega
theorem elt_u16 {t : TypeId} (ht : P.underlying t = some (.int .u16)) : Elt P w t E16 (fun _ => True) := by
  intro H enc base sp held fuel cs x h
  obtain ⟨n, rfl, _, hw⟩ := DataW.trod_int ht h
  obtain ⟨y, hy⟩ := u16_arg hw
  exact ⟨y, by rw [hy], trivial⟩
section
variable {H : Type} {enc : TypeId × Value → H} {base b0 : Nat} {sp : Nat → Bool} {held : Bool} {t e : TypeId} {v : Value} {d : DataW H} {ps : List MemPlace} {r : Reach}
theorem openI (ht : P.underlying t = some (.int .i64)) (hval : Value.okWide P w r b0 t v) (hd : DataW.Trod enc P w base sp held t v d ps) : ∃ x, RV mTop w (.i x) v ∧ -9223372036854775808 ≤ x ∧ x ≤ 9223372036854775807 := by
  obtain ⟨n, rfl⟩ := okWide_int ht hval
  obtain ⟨fuel, hf⟩ := hd
  rw [cells_oneO (by simp)] at hf
  obtain ⟨a, ha, hq⟩ := elt_i64 ht _ _ _ _ _ _ _ _ hf
  exact ⟨a, by simpa [RV, CR] using ha, hq⟩
theorem openL16 (ht : P.underlying t = some (.slice e)) (he : P.underlying e = some (.int .u16)) (hc : P.cellsOf e = 1) (hval : Value.okWide P w r b0 t v) (hd : DataW.Trod enc P w base sp held t v d ps) :
    ∃ xs : List UInt16, RV mTop w (.rb 1 (.wh xs)) v ∧ xs.length ≤ 9223372036854775807 := by
  obtain ⟨a, len, cap, rfl⟩ := okWide_slice ht hval
  obtain ⟨fuel, hf⟩ := hd
  rw [cells_oneO (by simp)] at hf
  obtain ⟨xs, ad, cap', h1, h2, h3, h4, hq⟩ := sl_of ht hc (elt_u16 he) _ _ _ _ _ _ _ _ hf
  simp only [List.cons.injEq, and_true, Value.slice.injEq] at h1
  obtain ⟨rfl, rfl, rfl⟩ := h1
  refine ⟨xs, ?_, h3⟩
  simp only [RV, CR]
  exact ⟨_, _, _, xs.map E16, rfl, by simp [RC], by simp, h2, h4⟩
end
end
end Go.Vc

