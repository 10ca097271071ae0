/- A part of the proof of given statements: a verified condition generator for the model, and contracts of the program's functions. No condition. -/
import Derived.Test.YtmldccfchnlpgaaPart5
import Derived.Test.YtmldccfchnlpgaaPart3
import Derived.Carry
import Derived.OpenShut
import Derived.WideShapes
import Derived.ChangeOld
import Derived.Test.YtmldccfchnlpgaaPart2
import Derived.JoinedOf
import Derived.Test.YtmldccfchnlpgaaRows
import Derived.KernelRfl
set_option linter.unusedVariables false
set_option linter.unusedSimpArgs false
set_option linter.constructorNameAsVariable false
set_option linter.unusedVariables false
set_option linter.unusedSimpArgs false
set_option maxRecDepth 100000
set_option maxHeartbeats 1000000
namespace Go.Proofs.Ytmldccfchnlpgaa
open Go Go.Vc
attribute [local irreducible] u_getV u_getA u_getE u_gtS u_gtA u_gtE u_brB u_brE u_brP u_brR u_okN u_okP u_nsz u_kind u_bf
theorem r_node_ReadBranch : Ready Try.prog 52 := by unfold Ready; kernel_rfl
noncomputable def sp_node_ReadBranch (F : Fs) (U : Us) : Specs := [(109, s_node_reader_text F U), (110, s_node_reader_num F U), (50, s_node_Branch F U)]
theorem ok_node_ReadBranch : SpecsOK Try.prog (sp_node_ReadBranch real us) := sp_cons r_node_reader_text k_node_reader_text (sp_cons r_node_reader_num k_node_reader_num (sp_cons r_node_Branch k_node_Branch sp_nil))
noncomputable def an_node_ReadBranch (F : Fs) (U : Us) (b : List UInt8) : Anns := [(6, ⟨Nat, fun i => F.pLeI (F.int i) (F.wrapi (F.toI64 (U.getV (F.cutB b (F.nat (F.int 1)) (F.subn (F.lenB b) (F.nat (F.int 1)))) (F.int 2)))), fun i => F.subn 70000 i, fun i => ⟨[(0, .rb 1 (.bt b)), (5, .p 0 0 0), (6, .i ((F.wrapi (F.toI64 (U.getV (F.cutB b (F.nat (F.int 1)) (F.subn (F.lenB b) (F.nat (F.int 1)))) (F.int 2)))))), (8, .rw 1), (9, .i (F.int i))], [(5, 0, .bk 151 [(1, .vs [.rb 1 (.bt (U.rkR b i))]), (1, .vs [.b (U.rkD b i)])]), (8, 1, .row 9 1 (.ss (U.rkL b i)))]⟩⟩), (11, ⟨Nat × Nat, fun s => F.pLeI (F.int s.1) (F.wrapi (F.toI64 (U.getV (F.cutB b (F.nat (F.int 1)) (F.subn (F.lenB b) (F.nat (F.int 1)))) (F.int 2)))) ∧ F.pLeI (F.int s.2) (F.addi (F.wrapi (F.toI64 (U.getV (F.cutB b (F.nat (F.int 1)) (F.subn (F.lenB b) (F.nat (F.int 1)))) (F.int 2)))) (F.int 1)) ∧ (U.rkD b s.1 = true ∨ F.int s.1 = (F.wrapi (F.toI64 (U.getV (F.cutB b (F.nat (F.int 1)) (F.subn (F.lenB b) (F.nat (F.int 1)))) (F.int 2))))), fun s => F.subn 70000 s.2, fun s => ⟨[(0, .rb 1 (.bt b)), (5, .p 0 0 0), (6, .i ((F.wrapi (F.toI64 (U.getV (F.cutB b (F.nat (F.int 1)) (F.subn (F.lenB b) (F.nat (F.int 1)))) (F.int 2)))))), (8, .rw 1), (10, .rw 2), (11, .i (F.int s.2))], [(5, 0, .bk 151 [(1, .vs [.rb 1 (.bt (U.rqR b s.1 s.2))]), (1, .vs [.b (U.rqD b s.1 s.2)])]), (8, 1, .row 9 1 (.ss (U.rkL b s.1))), (10, 2, .row 22 1 (.wd (U.rqL b s.1 s.2)))]⟩⟩)]
noncomputable def g_node_ReadBranch (F : Fs) (U : Us) : Law
  | [.rb 1 (.bt b)] => some (F.pLe (F.lenB b) 900000, [.row 9 1 (.ss (U.rbK b)), .row 22 1 (.wd (U.rbQ b)), .val (.i (U.rbE b))])
  | _ => none
noncomputable def s_node_ReadBranch (F : Fs) (U : Us) : Vc.Spec := pureSpec F false [.row .kB] (g_node_ReadBranch F U)
noncomputable def x_node_ReadBranch (F : Fs) (U : Us) : Cx := ⟨Try.f52.ntmps, tt F, sp_node_ReadBranch F U, [(108, ki_node_opened F U)], [], [], []⟩
theorem c_node_ReadBranch (b : List UInt8) (hc : real.pLe (real.lenB b) 900000) : vc real (x_node_ReadBranch real us) (an_node_ReadBranch real us b) [] (Try.f52.body.getD .skip) ⟨zipSl 0 [.rb 1 (.bt b)], [], 64⟩ (retOk real (tt real) false Try.f52.results.toList [.row 9 1 (.ss (us.rbK b)), .row 22 1 (.wd (us.rbQ b)), .val (.i (us.rbE b))]) := by
  generalize hU : us = U
  generalize hF : real = F
  have hb : b.length ≤ 900000 := hc
  cbv
  repeat' first | apply And.intro | refine Classical.or_iff_not_imp_left.2 (fun _ => ?_) | exact trivial
  all_goals try (subst hF hU; simp only [real, us, Nat.le_eq, Int.cast_ofNat_Int, decide_eq_false_iff_not, decide_eq_true_eq, List.length_take, List.length_drop, List.length_append, List.length_replicate, List.length_set, List.length_cons, List.length_nil, List.length_zipWith] at *; (try simp (disch := omega) only [wrap_sm] at *); omega)
  · rename_i g1 g2; subst hF hU; exact (b_long g2).1
  · rename_i g1 g2; subst hF hU; exact (b_long g2).2.1
  · rename_i g1 g2; subst hF hU; exact (b_long g2).2.2
  · rename_i g1 g2; subst hF hU; exact k_len2 g1
  · rename_i g1 g2 g3 g4; subst hF hU; exact (b_many' g4).1
  · rename_i g1 g2 g3 g4; subst hF hU; exact (b_many' g4).2.1
  · rename_i g1 g2 g3 g4; subst hF hU; exact (b_many' g4).2.2
  · refine ⟨(0 : Nat), ?_⟩
    cbv; subst hF hU
    exact ⟨h_le (Nat.zero_le _), ⟨⟨rkR_zero b, trivial⟩, ⟨badK_eq b, trivial⟩, trivial⟩, rkL_zero b, trivial⟩
  · rename_i g1 g2 g3 g4
    have hfew : hdn b ≤ 480 := by subst hF hU; exact few g4
    clear g1 g2 g3 g4
    intro (i : Nat) hi
    have h1 : i ≤ hdn b := by subst hF hU; exact le_h hi
    clear hi
    cbv
    repeat' first | apply And.intro | refine Classical.or_iff_not_imp_left.2 (fun _ => ?_) | exact trivial
    all_goals try (subst hF hU; simp only [real, us, Nat.le_eq, Int.cast_ofNat_Int, decide_eq_false_iff_not, decide_eq_true_eq, List.length_take, List.length_drop, List.length_append, List.length_replicate, List.length_set, List.length_cons, List.length_nil, List.length_zipWith] at *; (try simp (disch := omega) only [wrap_sm] at *); omega)
    · subst hF hU; exact k_fit hb i
    · subst hF hU; exact k_cap [] (by omega)
    · rename_i g1 _
      refine ⟨(i + 1 : Nat), ?_⟩
      cbv; subst hF hU
      have hlt := lt_h g1
      exact ⟨h_le hlt, step70 (by omega), ⟨addi1 (by omega), trivial⟩, ⟨⟨rfl, trivial⟩, ⟨rfl, trivial⟩, trivial⟩, rfl, trivial⟩
    · rename_i g1 g2
      have hor : us.rkD b i = true ∨ i = hdn b := by subst hF hU; exact .inl (not_bad g2)
      clear g1 g2
      refine ⟨((i, 0) : Nat × Nat), ?_⟩
      cbv; subst hF hU
      exact ⟨⟨h_le h1, h1_le (Nat.zero_le _), hor.imp id h_eq⟩, ⟨⟨rqR_zero b i, trivial⟩, ⟨rqD_zero b i, trivial⟩, trivial⟩, rqL_zero b i, trivial⟩
    · rename_i g1 g2
      clear g1 g2 h1
      clear i
      rintro ⟨(j : Nat), (i : Nat)⟩ ⟨hj, hi, hjn⟩
      have h1 : j ≤ hdn b := by subst hF hU; exact le_h hj
      have h2 : i ≤ hdn b + 1 := by subst hF hU; exact le_h1 hi
      have hor : us.rkD b j = true ∨ j = hdn b := by subst hF hU; exact hjn.imp id eq_h
      clear hj hi hjn
      cbv
      repeat' first | apply And.intro | refine Classical.or_iff_not_imp_left.2 (fun _ => ?_) | exact trivial
      all_goals try (subst hF hU; simp only [real, us, Nat.le_eq, Int.cast_ofNat_Int, decide_eq_false_iff_not, decide_eq_true_eq, List.length_take, List.length_drop, List.length_append, List.length_replicate, List.length_set, List.length_cons, List.length_nil, List.length_zipWith] at *; (try simp (disch := omega) only [wrap_sm] at *); omega)
      · subst hF hU; exact q_fit hb j i
      · subst hF hU; exact q_cap 0 (by omega)
      · rename_i g1 _
        refine ⟨((j, i + 1) : Nat × Nat), ?_⟩
        cbv; subst hF hU
        have hle := le_q g1
        exact ⟨⟨h_le h1, h1_le (Nat.succ_le_succ hle), hor.imp id h_eq⟩, step70 (by omega), ⟨addi1 (by omega), trivial⟩, ⟨⟨rfl, trivial⟩, ⟨rfl, trivial⟩, trivial⟩, rqL_step b j i, trivial⟩
      · subst hF hU; exact kl_fit (by omega)
      · subst hF hU; exact ql_fit (by omega)
      · rename_i g1 g2 g3 g4 g5; subst hF hU; exact (b_badQ h1 hor h2 (not_bad g2)).1
      · rename_i g1 g2 g3 g4 g5; subst hF hU; exact (b_badQ h1 hor h2 (not_bad g2)).2.1
      · rename_i g1 g2 g3 g4 g5; subst hF hU; exact (b_badQ h1 hor h2 (not_bad g2)).2.2
      · exfalso; rename_i g1 g2 g3 g4 g5; subst hF hU; exact g3 (not_bad g2)
      · exfalso; rename_i g1 g2 g3 g4 g5; subst hF hU; exact g3 (not_bad g2)
      · exfalso; rename_i g1 g2 g3 g4 g5; subst hF hU; exact g3 (not_bad g2)
      · rename_i g1 g2 g3 g4; subst hF hU; exact (b_badQ h1 hor h2 (not_bad g2)).1
      · rename_i g1 g2 g3 g4; subst hF hU; exact (b_badQ h1 hor h2 (not_bad g2)).2.1
      · rename_i g1 g2 g3 g4; subst hF hU; exact (b_badQ h1 hor h2 (not_bad g2)).2.2
      · rename_i g1 g2 g3; subst hF hU; exact (b_badQ h1 hor h2 (not_bad g2)).1
      · rename_i g1 g2 g3; subst hF hU; exact (b_badQ h1 hor h2 (not_bad g2)).2.1
      · rename_i g1 g2 g3; subst hF hU; exact (b_badQ h1 hor h2 (not_bad g2)).2.2
      · subst hF hU; exact kl_fit (by omega)
      · subst hF hU; exact ql_fit (by omega)
      · rename_i g1 g2 g3 g4; subst hF hU
        obtain rfl : i = hdn b + 1 := Nat.le_antisymm h2 (gt_q g1)
        obtain rfl := q_stop (i := hdn b + 1) g2 hor
        exact (b_other g4).1
      · rename_i g1 g2 g3 g4; subst hF hU
        obtain rfl : i = hdn b + 1 := Nat.le_antisymm h2 (gt_q g1)
        obtain rfl := q_stop (i := hdn b + 1) g2 hor
        exact (b_other g4).2.1
      · rename_i g1 g2 g3 g4; subst hF hU
        obtain rfl : i = hdn b + 1 := Nat.le_antisymm h2 (gt_q g1)
        obtain rfl := q_stop (i := hdn b + 1) g2 hor
        exact (b_other g4).2.2
      · rename_i g1 g2 g3 g4; subst hF hU
        obtain rfl : i = hdn b + 1 := Nat.le_antisymm h2 (gt_q g1)
        obtain rfl := q_stop (i := hdn b + 1) g2 hor
        exact (b_good g3 g4).1
      · rename_i g1 g2 g3 g4; subst hF hU
        obtain rfl : i = hdn b + 1 := Nat.le_antisymm h2 (gt_q g1)
        obtain rfl := q_stop (i := hdn b + 1) g2 hor
        exact (b_good g3 g4).2.1
      · rename_i g1 g2 g3 g4; subst hF hU
        obtain rfl : i = hdn b + 1 := Nat.le_antisymm h2 (gt_q g1)
        obtain rfl := q_stop (i := hdn b + 1) g2 hor
        exact (b_good g3 g4).2.2
      · rename_i g1 g2 g3; subst hF hU
        obtain rfl : i = hdn b + 1 := Nat.le_antisymm h2 (gt_q g1)
        obtain rfl := q_stop (i := hdn b + 1) g2 hor
        exact (b_err g3).1
      · rename_i g1 g2 g3; subst hF hU
        obtain rfl : i = hdn b + 1 := Nat.le_antisymm h2 (gt_q g1)
        obtain rfl := q_stop (i := hdn b + 1) g2 hor
        exact (b_err g3).2.1
      · rename_i g1 g2 g3; subst hF hU
        obtain rfl : i = hdn b + 1 := Nat.le_antisymm h2 (gt_q g1)
        obtain rfl := q_stop (i := hdn b + 1) g2 hor
        exact (b_err g3).2.2
      · rename_i g1 g2; subst hF hU; exact (b_badQ h1 hor h2 (is_bad g2)).1
      · rename_i g1 g2; subst hF hU; exact (b_badQ h1 hor h2 (is_bad g2)).2.1
      · rename_i g1 g2; subst hF hU; exact (b_badQ h1 hor h2 (is_bad g2)).2.2
    · rename_i g1
      have hor : us.rkD b i = true ∨ i = hdn b := by subst hF hU; exact .inr (Nat.le_antisymm h1 (ge_h g1))
      clear g1
      refine ⟨((i, 0) : Nat × Nat), ?_⟩
      cbv; subst hF hU
      exact ⟨⟨h_le h1, h1_le (Nat.zero_le _), hor.imp id h_eq⟩, ⟨⟨rqR_zero b i, trivial⟩, ⟨rqD_zero b i, trivial⟩, trivial⟩, rqL_zero b i, trivial⟩
    · rename_i g1
      clear g1 h1
      clear i
      rintro ⟨(j : Nat), (i : Nat)⟩ ⟨hj, hi, hjn⟩
      have h1 : j ≤ hdn b := by subst hF hU; exact le_h hj
      have h2 : i ≤ hdn b + 1 := by subst hF hU; exact le_h1 hi
      have hor : us.rkD b j = true ∨ j = hdn b := by subst hF hU; exact hjn.imp id eq_h
      clear hj hi hjn
      cbv
      repeat' first | apply And.intro | refine Classical.or_iff_not_imp_left.2 (fun _ => ?_) | exact trivial
      all_goals try (subst hF hU; simp only [real, us, Nat.le_eq, Int.cast_ofNat_Int, decide_eq_false_iff_not, decide_eq_true_eq, List.length_take, List.length_drop, List.length_append, List.length_replicate, List.length_set, List.length_cons, List.length_nil, List.length_zipWith] at *; (try simp (disch := omega) only [wrap_sm] at *); omega)
      · subst hF hU; exact q_fit hb j i
      · subst hF hU; exact q_cap 0 (by omega)
      · rename_i g1 _
        refine ⟨((j, i + 1) : Nat × Nat), ?_⟩
        cbv; subst hF hU
        have hle := le_q g1
        exact ⟨⟨h_le h1, h1_le (Nat.succ_le_succ hle), hor.imp id h_eq⟩, step70 (by omega), ⟨addi1 (by omega), trivial⟩, ⟨⟨rfl, trivial⟩, ⟨rfl, trivial⟩, trivial⟩, rqL_step b j i, trivial⟩
      · subst hF hU; exact kl_fit (by omega)
      · subst hF hU; exact ql_fit (by omega)
      · rename_i g1 g2 g3 g4 g5; subst hF hU; exact (b_badQ h1 hor h2 (not_bad g2)).1
      · rename_i g1 g2 g3 g4 g5; subst hF hU; exact (b_badQ h1 hor h2 (not_bad g2)).2.1
      · rename_i g1 g2 g3 g4 g5; subst hF hU; exact (b_badQ h1 hor h2 (not_bad g2)).2.2
      · exfalso; rename_i g1 g2 g3 g4 g5; subst hF hU; exact g3 (not_bad g2)
      · exfalso; rename_i g1 g2 g3 g4 g5; subst hF hU; exact g3 (not_bad g2)
      · exfalso; rename_i g1 g2 g3 g4 g5; subst hF hU; exact g3 (not_bad g2)
      · rename_i g1 g2 g3 g4; subst hF hU; exact (b_badQ h1 hor h2 (not_bad g2)).1
      · rename_i g1 g2 g3 g4; subst hF hU; exact (b_badQ h1 hor h2 (not_bad g2)).2.1
      · rename_i g1 g2 g3 g4; subst hF hU; exact (b_badQ h1 hor h2 (not_bad g2)).2.2
      · rename_i g1 g2 g3; subst hF hU; exact (b_badQ h1 hor h2 (not_bad g2)).1
      · rename_i g1 g2 g3; subst hF hU; exact (b_badQ h1 hor h2 (not_bad g2)).2.1
      · rename_i g1 g2 g3; subst hF hU; exact (b_badQ h1 hor h2 (not_bad g2)).2.2
      · subst hF hU; exact kl_fit (by omega)
      · subst hF hU; exact ql_fit (by omega)
      · rename_i g1 g2 g3 g4; subst hF hU
        obtain rfl : i = hdn b + 1 := Nat.le_antisymm h2 (gt_q g1)
        obtain rfl := q_stop (i := hdn b + 1) g2 hor
        exact (b_other g4).1
      · rename_i g1 g2 g3 g4; subst hF hU
        obtain rfl : i = hdn b + 1 := Nat.le_antisymm h2 (gt_q g1)
        obtain rfl := q_stop (i := hdn b + 1) g2 hor
        exact (b_other g4).2.1
      · rename_i g1 g2 g3 g4; subst hF hU
        obtain rfl : i = hdn b + 1 := Nat.le_antisymm h2 (gt_q g1)
        obtain rfl := q_stop (i := hdn b + 1) g2 hor
        exact (b_other g4).2.2
      · rename_i g1 g2 g3 g4; subst hF hU
        obtain rfl : i = hdn b + 1 := Nat.le_antisymm h2 (gt_q g1)
        obtain rfl := q_stop (i := hdn b + 1) g2 hor
        exact (b_good g3 g4).1
      · rename_i g1 g2 g3 g4; subst hF hU
        obtain rfl : i = hdn b + 1 := Nat.le_antisymm h2 (gt_q g1)
        obtain rfl := q_stop (i := hdn b + 1) g2 hor
        exact (b_good g3 g4).2.1
      · rename_i g1 g2 g3 g4; subst hF hU
        obtain rfl : i = hdn b + 1 := Nat.le_antisymm h2 (gt_q g1)
        obtain rfl := q_stop (i := hdn b + 1) g2 hor
        exact (b_good g3 g4).2.2
      · rename_i g1 g2 g3; subst hF hU
        obtain rfl : i = hdn b + 1 := Nat.le_antisymm h2 (gt_q g1)
        obtain rfl := q_stop (i := hdn b + 1) g2 hor
        exact (b_err g3).1
      · rename_i g1 g2 g3; subst hF hU
        obtain rfl : i = hdn b + 1 := Nat.le_antisymm h2 (gt_q g1)
        obtain rfl := q_stop (i := hdn b + 1) g2 hor
        exact (b_err g3).2.1
      · rename_i g1 g2 g3; subst hF hU
        obtain rfl : i = hdn b + 1 := Nat.le_antisymm h2 (gt_q g1)
        obtain rfl := q_stop (i := hdn b + 1) g2 hor
        exact (b_err g3).2.2
      · rename_i g1 g2; subst hF hU; exact (b_badQ h1 hor h2 (is_bad g2)).1
      · rename_i g1 g2; subst hF hU; exact (b_badQ h1 hor h2 (is_bad g2)).2.1
      · rename_i g1 g2; subst hF hU; exact (b_badQ h1 hor h2 (is_bad g2)).2.2
  · rename_i g1 g2 g3; subst hF hU; exact (b_bad0' g3).1
  · rename_i g1 g2 g3; subst hF hU; exact (b_bad0' g3).2.1
  · rename_i g1 g2 g3; subst hF hU; exact (b_bad0' g3).2.2
  · rename_i g1; subst hF hU; exact (b_kind g1).1
  · rename_i g1; subst hF hU; exact (b_kind g1).2.1
  · rename_i g1; subst hF hU; exact (b_kind g1).2.2
theorem k_node_ReadBranch : SpecOK Try.prog 52 (s_node_ReadBranch real us) := by
  refine pure_sound (x := x_node_ReadBranch real us) ⟨tt_ok, ok_node_ReadBranch, (Go.Vc.ks_cons r_node_opened kk_node_opened Go.Vc.ks_nil)⟩ mixed Try.func52 rfl rfl (by kernel_rfl) ?_
  intro l c rs hg hc
  unfold g_node_ReadBranch at hg
  split at hg
  · cases hg; exact ⟨Nat.le_of_ble_eq_true rfl, an_node_ReadBranch real us _, [], c_node_ReadBranch _ hc⟩
  · cases hg

end Go.Proofs.Ytmldccfchnlpgaa
set_option linter.unusedVariables false
set_option linter.unusedSimpArgs false
set_option maxRecDepth 100000
set_option maxHeartbeats 1000000
namespace Go.Proofs.Ytmldccfchnlpgaa
open Go Go.Vc
abbrev LNo (b : List UInt8) : Prop := us.rlB b = [] ∧ false = real.eqi (us.rlE b) (real.int 0)
theorem lno_of {b : List UInt8} (h : us.rlB b = [] ∧ real.int 90 = us.rlE b) : LNo b := ⟨h.1, by rw [← h.2]; rfl⟩
theorem kind_head {b : List UInt8} {k : Int} (h : u_kind b = k) (hk : k ≠ 0) : (k = 1 → b.getD 0 0 = 1) ∧ (k = 2 → b.getD 0 0 = 2) := by
  unfold u_kind at h
  split at h
  · exact absurd h.symm hk
  · split at h
    · rename_i e; exact ⟨fun _ => e, fun h2 => by omega⟩
    · split at h
      · rename_i e; exact ⟨fun h2 => by omega, fun _ => e⟩
      · exact absurd h.symm hk
theorem l_first {b : List UInt8} (h : ¬ real.pB (real.notb (real.eq8 (real.getB b (real.nat (real.int 0))) (real.ofI8 (real.int 1)))) false) : LNo b :=
  lno_of (l_none fun l hl => by
    have hk := (kind_head (good_head hl).1 (by decide)).1 rfl
    refine h ?_
    show (!(b.getD 0 0 == 1)) = false
    rw [hk]; rfl)
theorem l_short {b : List UInt8} (h : ¬ real.pB (real.lti (real.int (real.lenB b)) (real.int 3)) false) : LNo b :=
  lno_of (l_none fun l hl => by
    have := (good_head hl).2.2.1
    have h2 : b.length < 3 := lt_g h
    omega)
theorem ofI_nat {i : Nat} (hi : i ≤ 70000) : (real.ofI64 (real.int i)).toNat = i := by
  show (UInt64.ofNat ((i : Int) % 2 ^ 64).toNat).toNat = i
  rw [UInt64.toNat_ofNat']
  omega
theorem lt_v {b : List UInt8} {i : Nat} (hi : i ≤ hdn b) (h : ¬ real.pB (real.lt64 (real.ofI64 (real.int i)) (us.getV (real.cutB b (real.nat (real.int 1)) (real.subn (real.lenB b) (real.nat (real.int 1)))) (real.int 2))) false) : i < hdn b := by
  have hl := hdn_le b
  have e : real.lt64 (real.ofI64 (real.int i)) (us.getV (real.cutB b (real.nat (real.int 1)) (real.subn (real.lenB b) (real.nat (real.int 1)))) (real.int 2)) = decide ((real.ofI64 (real.int i)).toNat < hdn b) := rfl
  rw [e, ofI_nat (by omega)] at h
  by_cases c : i < hdn b
  · exact c
  · rw [decide_eq_false c] at h; exact absurd rfl h
theorem ge_v {b : List UInt8} {i : Nat} (hi : i ≤ hdn b) (h : ¬ real.pB (real.lt64 (real.ofI64 (real.int i)) (us.getV (real.cutB b (real.nat (real.int 1)) (real.subn (real.lenB b) (real.nat (real.int 1)))) (real.int 2))) true) : i = hdn b := by
  have hl := hdn_le b
  have e : real.lt64 (real.ofI64 (real.int i)) (us.getV (real.cutB b (real.nat (real.int 1)) (real.subn (real.lenB b) (real.nat (real.int 1)))) (real.int 2)) = decide ((real.ofI64 (real.int i)).toNat < hdn b) := rfl
  rw [e, ofI_nat (by omega)] at h
  by_cases c : i < hdn b
  · rw [decide_eq_true c] at h; exact absurd rfl h
  · omega
theorem le_v {b : List UInt8} {i : Nat} (hi : i ≤ hdn b + 1) (h : ¬ real.pB (real.le64 (real.ofI64 (real.int i)) (us.getV (real.cutB b (real.nat (real.int 1)) (real.subn (real.lenB b) (real.nat (real.int 1)))) (real.int 2))) false) : i ≤ hdn b := by
  have hl := hdn_le b
  have e : real.le64 (real.ofI64 (real.int i)) (us.getV (real.cutB b (real.nat (real.int 1)) (real.subn (real.lenB b) (real.nat (real.int 1)))) (real.int 2)) = decide ((real.ofI64 (real.int i)).toNat ≤ hdn b) := rfl
  rw [e, ofI_nat (by omega)] at h
  by_cases c : i ≤ hdn b
  · exact c
  · rw [decide_eq_false c] at h; exact absurd rfl h
theorem gt_v {b : List UInt8} {i : Nat} (hi : i ≤ hdn b + 1) (h : ¬ real.pB (real.le64 (real.ofI64 (real.int i)) (us.getV (real.cutB b (real.nat (real.int 1)) (real.subn (real.lenB b) (real.nat (real.int 1)))) (real.int 2))) true) : i = hdn b + 1 := by
  have hl := hdn_le b
  have e : real.le64 (real.ofI64 (real.int i)) (us.getV (real.cutB b (real.nat (real.int 1)) (real.subn (real.lenB b) (real.nat (real.int 1)))) (real.int 2)) = decide ((real.ofI64 (real.int i)).toNat ≤ hdn b) := rfl
  rw [e, ofI_nat (by omega)] at h
  by_cases c : i ≤ hdn b
  · rw [decide_eq_true c] at h; exact absurd rfl h
  · omega
theorem addw1 {i : Nat} (hi : i ≤ 70000) : real.add64 (real.ofI64 (real.int i)) (real.ofI64 (real.int 1)) = real.ofI64 (real.int (i + 1)) := by
  apply UInt64.toNat_inj.1
  show (UInt64.ofNat ((i : Int) % 2 ^ 64).toNat + UInt64.ofNat 1).toNat = (UInt64.ofNat (((i + 1 : Nat) : Int) % 2 ^ 64).toNat).toNat
  rw [UInt64.toNat_add, UInt64.toNat_ofNat', UInt64.toNat_ofNat', UInt64.toNat_ofNat']
  omega
theorem ne_of {e : Int} (h : ¬ real.pB (real.notb (real.eqi e (real.int 0))) false) : (!(e == 0)) = true := by
  have h1 : ¬ ((!(e == 0)) = false) := h
  simpa using h1
theorem l_bad1 {b : List UInt8} {i : Nat} (hi : i < hdn b) (h : ¬ real.pB (real.notb (real.eqi (us.gtE (us.rlR b i) (real.int 60)) (real.int 0))) false) : LNo b :=
  lno_of (l_bad (i := i + 1) hi (by
    have h1 := ne_of h
    show u_bad (u_bad _ (u_gtE (u_nl b i).1 60)) _ = true
    have h1 : (!(u_gtE (u_nl b i).1 60 == 0)) = true := h1
    unfold u_bad
    rw [h1]
    cases (u_nl b i).2.1 <;> rfl))
theorem l_bad2 {b : List UInt8} {i : Nat} (hi : i < hdn b) (h : ¬ real.pB (real.notb (real.eqi (us.gtE (real.cutB (us.rlR b i) (us.gtA (us.rlR b i) (real.int 60)) (real.subn (real.lenB (us.rlR b i)) (us.gtA (us.rlR b i) (real.int 60)))) (real.int 150)) (real.int 0))) false) : LNo b :=
  lno_of (l_bad (i := i + 1) hi (by
    have h1 := ne_of h
    show u_bad _ (u_gtE (u_rst (u_nl b i).1 (u_gtA (u_nl b i).1 60)) 150) = true
    have h1 : (!(u_gtE (u_rst (u_nl b i).1 (u_gtA (u_nl b i).1 60)) 150 == 0)) = true := h1
    unfold u_bad
    rw [h1]
    cases (cond (u_nl b i).2.1 true (!(u_gtE (u_nl b i).1 60 == 0))) <;> rfl))
theorem pI_of {m : Int} (h1 : 0 ≤ m) (h2 : m ≤ 1000) : us.pI m := by
  show -9223372036854775808 ≤ m ∧ m ≤ 9223372036854775807
  omega
theorem l_errL {b : List UInt8} (h : ¬ real.pB (real.notb (real.eqi (us.leafE (us.rlL b (hdn b))) (real.int 0))) false) : LNo b := lno_of (l_err h)
theorem l_otherL {b : List UInt8} (h : ¬ real.pB (real.notb (real.eqB (us.leafB (us.rlL b (hdn b))) b)) false) : LNo b := lno_of (l_other h)
theorem l_goodL {b : List UInt8} (h1 : ¬ real.pB (real.notb (real.eqi (us.leafE (us.rlL b (hdn b))) (real.int 0))) true) (h2 : ¬ real.pB (real.notb (real.eqB (us.leafB (us.rlL b (hdn b))) b)) true) : us.rlL b (hdn b) = us.rlB b ∧ true = real.eqi (us.rlE b) (real.int 0) := by
  have h := l_good h1 h2
  exact ⟨h.1, by rw [← h.2]; rfl⟩
attribute [local irreducible] u_getV u_getA u_getE u_gtS u_gtA u_gtE u_leafB u_leafE u_leafP u_okN u_okP u_nsz u_kind
theorem r_ref8_ReadLeaf : Ready Try.prog 55 := by unfold Ready; kernel_rfl
noncomputable def sp_ref8_ReadLeaf (F : Fs) (U : Us) : Specs := [(111, s_ref1_Get F U), (112, s_ref1_GetText F U), (113, s_ref8_Leaf F U)]
theorem ok_ref8_ReadLeaf : SpecsOK Try.prog (sp_ref8_ReadLeaf real us) := sp_cons r_ref1_Get k_ref1_Get (sp_cons r_ref1_GetText k_ref1_GetText (sp_cons r_ref8_Leaf k_ref8_Leaf sp_nil))
noncomputable def an_ref8_ReadLeaf (F : Fs) (U : Us) (b : List UInt8) : Anns := [(6, ⟨Nat, fun i => F.pLeI (F.int i) (F.wrapi (F.toI64 (U.getV (F.cutB b (F.nat (F.int 1)) (F.subn (F.lenB b) (F.nat (F.int 1)))) (F.int 2)))), fun i => F.subn 70000 i, fun i => ⟨[(0, .rb 1 (.bt b)), (4, .w64 ((U.getV (F.cutB b (F.nat (F.int 1)) (F.subn (F.lenB b) (F.nat (F.int 1)))) (F.int 2)))), (5, .rb 1 (.bt (U.rlR b i))), (7, .rw 1), (8, .w64 (F.ofI64 (F.int i)))], [(7, 1, .row 55 2 (.ds (.t [.s, .s]) (U.rlL b i)))]⟩⟩)]
noncomputable def g_ref8_ReadLeaf (F : Fs) (U : Us) : Law
  | [.rb 1 (.bt b)] => some (F.pLe (F.lenB b) 900000, [.row 55 2 (.ds (.t [.s, .s]) (U.rlB b)), .val (.b (F.eqi (U.rlE b) (F.int 0)))])
  | _ => none
noncomputable def s_ref8_ReadLeaf (F : Fs) (U : Us) : Vc.Spec := pureSpec F false [.row .kB] (g_ref8_ReadLeaf F U)
noncomputable def x_ref8_ReadLeaf (F : Fs) (U : Us) : Cx := ⟨Try.f55.ntmps, tt F, sp_ref8_ReadLeaf F U, [], [], [], []⟩
theorem c_ref8_ReadLeaf (b : List UInt8) (hc : real.pLe (real.lenB b) 900000) : vc real (x_ref8_ReadLeaf real us) (an_ref8_ReadLeaf real us b) [] (Try.f55.body.getD .skip) ⟨zipSl 0 [.rb 1 (.bt b)], [], 64⟩ (retOk real (tt real) false Try.f55.results.toList [.row 55 2 (.ds (.t [.s, .s]) (us.rlB b)), .val (.b (real.eqi (us.rlE b) (real.int 0)))]) := by
  generalize hU : us = U
  generalize hF : real = F
  have hb : b.length ≤ 900000 := hc
  cbv
  repeat' first | apply And.intro | refine Classical.or_iff_not_imp_left.2 (fun _ => ?_) | exact trivial
  all_goals try (subst hF hU; simp only [real, us, Nat.le_eq, Int.cast_ofNat_Int, decide_eq_false_iff_not, decide_eq_true_eq, List.length_take, List.length_drop, List.length_append, List.length_replicate, List.length_set, List.length_cons, List.length_nil, List.length_zipWith] at *; (try simp (disch := omega) only [wrap_sm] at *); omega)
  · rename_i g1 g2; subst hF hU; exact (l_first g2).1
  · rename_i g1 g2; subst hF hU; exact (l_first g2).2
  · refine ⟨(0 : Nat), ?_⟩
    cbv; subst hF hU
    exact ⟨h_le (Nat.zero_le _), ⟨rlR_zero b, trivial⟩, rlL_zero b, trivial⟩
  · rename_i g1 g2
    clear g1 g2
    intro (i : Nat) hi
    have h1 : i ≤ hdn b := by subst hF hU; exact le_h hi
    clear hi
    have h2 := hdn_le b
    cbv
    repeat' first | apply And.intro | refine Classical.or_iff_not_imp_left.2 (fun _ => ?_) | exact trivial
    all_goals try (subst hF hU; simp only [real, us, Nat.le_eq, Int.cast_ofNat_Int, decide_eq_false_iff_not, decide_eq_true_eq, List.length_take, List.length_drop, List.length_append, List.length_replicate, List.length_set, List.length_cons, List.length_nil, List.length_zipWith] at *; (try simp (disch := omega) only [wrap_sm] at *); omega)
    · subst hF hU; exact r_fit hb i
    · subst hF hU; exact pI_of (by decide) (by decide)
    · subst hF hU; exact r_fit2 hb i _
    · subst hF hU; exact pI_of (by decide) (by decide)
    · rename_i g1 g2 g3; subst hF hU; exact (l_bad2 (lt_v h1 g1) g3).1
    · rename_i g1 g2 g3; subst hF hU; exact (l_bad2 (lt_v h1 g1) g3).2
    · subst hF hU; exact l_cap (.t []) (by omega)
    · rename_i g1 g2 g3
      refine ⟨(i + 1 : Nat), ?_⟩
      cbv; subst hF hU
      have hlt := lt_v h1 g1
      refine ⟨h_le hlt, step70 (by omega), ?_⟩
      exact ⟨⟨rfl, addw1 (by omega), trivial⟩, rfl, trivial⟩
    · rename_i g1 g2; subst hF hU; exact (l_bad1 (lt_v h1 g1) g2).1
    · rename_i g1 g2; subst hF hU; exact (l_bad1 (lt_v h1 g1) g2).2
    · subst hF hU; exact l_fit (by omega)
    · rename_i g1 g2 g3; subst hF hU
      obtain rfl := ge_v h1 g1
      exact (l_otherL g3).1
    · rename_i g1 g2 g3; subst hF hU
      obtain rfl := ge_v h1 g1
      exact (l_otherL g3).2
    · rename_i g1 g2 g3; subst hF hU
      obtain rfl := ge_v h1 g1
      exact (l_goodL g2 g3).1
    · rename_i g1 g2 g3; subst hF hU
      obtain rfl := ge_v h1 g1
      exact (l_goodL g2 g3).2
    · rename_i g1 g2; subst hF hU
      obtain rfl := ge_v h1 g1
      exact (l_errL g2).1
    · rename_i g1 g2; subst hF hU
      obtain rfl := ge_v h1 g1
      exact (l_errL g2).2
  · rename_i g1; subst hF hU; exact (l_short g1).1
  · rename_i g1; subst hF hU; exact (l_short g1).2
theorem k_ref8_ReadLeaf : SpecOK Try.prog 55 (s_ref8_ReadLeaf real us) := by
  refine pure_sound (x := x_ref8_ReadLeaf real us) ⟨tt_ok, ok_ref8_ReadLeaf, Go.Vc.ks_nil⟩ mixed Try.func55 rfl rfl (by kernel_rfl) ?_
  intro l c rs hg hc
  unfold g_ref8_ReadLeaf at hg
  split at hg
  · cases hg; exact ⟨Nat.le_of_ble_eq_true rfl, an_ref8_ReadLeaf real us _, [], c_ref8_ReadLeaf _ hc⟩
  · cases hg

end Go.Proofs.Ytmldccfchnlpgaa
set_option linter.unusedVariables false
set_option linter.unusedSimpArgs false
set_option maxRecDepth 100000
set_option maxHeartbeats 1000000
namespace Go.Proofs.Ytmldccfchnlpgaa
open Go Go.Vc
abbrev BNb (b : List UInt8) : Prop := us.rbK b = [] ∧ us.rbQ b = [] ∧ false = real.eqi (us.rbE b) (real.int 0)
theorem bno_of {b : List UInt8} (h : BNo b) : BNb b := ⟨h.1, h.2.1, by rw [← h.2.2]; rfl⟩
theorem b_first {b : List UInt8} (h : ¬ real.pB (real.notb (real.eq8 (real.getB b (real.nat (real.int 0))) (real.ofI8 (real.int 2)))) false) : BNb b :=
  bno_of (b_none fun l hl => by
    have hk := (kind_head (goodB_head hl).1 (by decide)).2 rfl
    refine h ?_
    show (!(b.getD 0 0 == 2)) = false
    rw [hk]; rfl)
theorem b_short {b : List UInt8} (h : ¬ real.pB (real.lti (real.int (real.lenB b)) (real.int 3)) false) : BNb b :=
  bno_of (b_none fun l hl => by
    have := (goodB_head hl).2.2.1
    have h2 : b.length < 3 := lt_g h
    omega)
theorem b_bad1 {b : List UInt8} {i : Nat} (hi : i < hdn b) (h : ¬ real.pB (real.notb (real.eqi (us.gtE (us.rkR b i) (real.int 60)) (real.int 0))) false) : BNb b :=
  bno_of (b_bad (i := i + 1) hi (by
    have h1 := ne_of h
    show u_bad _ (u_gtE (u_nk b i).1 60) = true
    have h1 : (!(u_gtE (u_nk b i).1 60 == 0)) = true := h1
    unfold u_bad
    rw [h1]
    cases (u_nk b i).2.1 <;> rfl))
theorem b_bad2 {b : List UInt8} {i : Nat} (hi : i ≤ hdn b) (h : ¬ real.pB (real.notb (us.getOk (us.rqR b (hdn b) i) (real.int 4))) false) : BNb b :=
  bno_of (b_badQ (j := hdn b) (i := i + 1) (Nat.le_refl _) (.inr rfl) (Nat.succ_le_succ hi) (by
    show u_bad _ (u_getE (u_nq b (hdn b) i).1 4) = true
    have h1 : ¬ (u_getOk (u_nq b (hdn b) i).1 4) = true := by
      intro e
      have h : ¬ ((!(u_getOk (u_nq b (hdn b) i).1 4)) = false) := h
      rw [e] at h
      exact h rfl
    have h2 : (!(u_getE (u_nq b (hdn b) i).1 4 == 0)) = true := by
      simp only [u_getOk, decide_eq_true_eq] at h1
      unfold u_getE
      rw [if_neg h1]; rfl
    unfold u_bad
    rw [h2]
    cases (u_nq b (hdn b) i).2.1 <;> rfl))
theorem u32_nat (v : UInt64) : real.ofI32 (real.toI64 v) = UInt32.ofNat v.toNat := by
  have hv := v.toNat_lt
  show UInt32.ofNat ((v.toNat : Int) % 2 ^ 32).toNat = _
  have e : ((v.toNat : Int) % 2 ^ 32).toNat = v.toNat % 2 ^ 32 := by omega
  rw [e]
  apply UInt32.toNat_inj.1
  rw [UInt32.toNat_ofNat', UInt32.toNat_ofNat']
  omega
theorem rqL_step' (b : List UInt8) (j i : Nat) : real.appW (us.rqL b j i) [real.ofI32 (real.toI64 (us.getV (us.rqR b j i) (real.int 4)))] = us.rqL b j (i + 1) := by
  rw [u32_nat]
  rfl
theorem b_errN {b : List UInt8} (h : ¬ real.pB (real.notb (real.eqi (us.brE (us.rkL b (hdn b)) (us.rqL b (hdn b) (hdn b + 1))) (real.int 0))) false) : BNb b := bno_of (b_err h)
theorem b_otherN {b : List UInt8} (h : ¬ real.pB (real.notb (real.eqB (us.brB (us.rkL b (hdn b)) (us.rqL b (hdn b) (hdn b + 1))) b)) false) : BNb b := bno_of (b_other h)
theorem b_goodN {b : List UInt8} (h1 : ¬ real.pB (real.notb (real.eqi (us.brE (us.rkL b (hdn b)) (us.rqL b (hdn b) (hdn b + 1))) (real.int 0))) true) (h2 : ¬ real.pB (real.notb (real.eqB (us.brB (us.rkL b (hdn b)) (us.rqL b (hdn b) (hdn b + 1))) b)) true) :
    us.rkL b (hdn b) = us.rbK b ∧ us.rqL b (hdn b) (hdn b + 1) = us.rbQ b ∧ true = real.eqi (us.rbE b) (real.int 0) := by
  have h := b_good h1 h2
  exact ⟨h.1, h.2.1, by rw [← h.2.2]; rfl⟩
attribute [local irreducible] u_getV u_getA u_getE u_gtS u_gtA u_gtE u_brB u_brE u_brP u_brR u_okN u_okP u_nsz u_kind u_bf
theorem r_ref8_ReadBranch : Ready Try.prog 56 := by unfold Ready; kernel_rfl
noncomputable def sp_ref8_ReadBranch (F : Fs) (U : Us) : Specs := [(111, s_ref1_Get F U), (112, s_ref1_GetText F U), (114, s_ref8_Branch F U)]
theorem ok_ref8_ReadBranch : SpecsOK Try.prog (sp_ref8_ReadBranch real us) := sp_cons r_ref1_Get k_ref1_Get (sp_cons r_ref1_GetText k_ref1_GetText (sp_cons r_ref8_Branch k_ref8_Branch sp_nil))
noncomputable def an_ref8_ReadBranch (F : Fs) (U : Us) (b : List UInt8) : Anns := [(7, ⟨Nat, fun i => F.pLeI (F.int i) (F.wrapi (F.toI64 (U.getV (F.cutB b (F.nat (F.int 1)) (F.subn (F.lenB b) (F.nat (F.int 1)))) (F.int 2)))), fun i => F.subn 70000 i, fun i => ⟨[(0, .rb 1 (.bt b)), (5, .w64 ((U.getV (F.cutB b (F.nat (F.int 1)) (F.subn (F.lenB b) (F.nat (F.int 1)))) (F.int 2)))), (6, .rb 1 (.bt (U.rkR b i))), (8, .rw 1), (9, .rw 2), (10, .w64 (F.ofI64 (F.int i)))], [(8, 1, .row 9 1 (.ss (U.rkL b i))), (9, 2, .row 22 1 (.wd []))]⟩⟩), (15, ⟨Nat × Nat, fun s => F.int s.1 = F.wrapi (F.toI64 (U.getV (F.cutB b (F.nat (F.int 1)) (F.subn (F.lenB b) (F.nat (F.int 1)))) (F.int 2))) ∧ F.pLeI (F.int s.2) (F.addi (F.wrapi (F.toI64 (U.getV (F.cutB b (F.nat (F.int 1)) (F.subn (F.lenB b) (F.nat (F.int 1)))) (F.int 2)))) (F.int 1)), fun s => F.subn 70000 s.2, fun s => ⟨[(0, .rb 1 (.bt b)), (5, .w64 ((U.getV (F.cutB b (F.nat (F.int 1)) (F.subn (F.lenB b) (F.nat (F.int 1)))) (F.int 2)))), (6, .rb 1 (.bt (U.rqR b s.1 s.2))), (8, .rw 1), (9, .rw 2), (14, .w64 (F.ofI64 (F.int s.2)))], [(8, 1, .row 9 1 (.ss (U.rkL b s.1))), (9, 2, .row 22 1 (.wd (U.rqL b s.1 s.2)))]⟩⟩)]
noncomputable def g_ref8_ReadBranch (F : Fs) (U : Us) : Law
  | [.rb 1 (.bt b)] => some (F.pLe (F.lenB b) 900000, [.row 9 1 (.ss (U.rbK b)), .row 22 1 (.wd (U.rbQ b)), .val (.b (F.eqi (U.rbE b) (F.int 0)))])
  | _ => none
noncomputable def s_ref8_ReadBranch (F : Fs) (U : Us) : Vc.Spec := pureSpec F false [.row .kB] (g_ref8_ReadBranch F U)
noncomputable def x_ref8_ReadBranch (F : Fs) (U : Us) : Cx := ⟨Try.f56.ntmps, tt F, sp_ref8_ReadBranch F U, [], [], [], []⟩
theorem c_ref8_ReadBranch (b : List UInt8) (hc : real.pLe (real.lenB b) 900000) : vc real (x_ref8_ReadBranch real us) (an_ref8_ReadBranch real us b) [] (Try.f56.body.getD .skip) ⟨zipSl 0 [.rb 1 (.bt b)], [], 64⟩ (retOk real (tt real) false Try.f56.results.toList [.row 9 1 (.ss (us.rbK b)), .row 22 1 (.wd (us.rbQ b)), .val (.b (real.eqi (us.rbE b) (real.int 0)))]) := by
  generalize hU : us = U
  generalize hF : real = F
  have hb : b.length ≤ 900000 := hc
  cbv
  repeat' first | apply And.intro | refine Classical.or_iff_not_imp_left.2 (fun _ => ?_) | exact trivial
  all_goals try (subst hF hU; simp only [real, us, Nat.le_eq, Int.cast_ofNat_Int, decide_eq_false_iff_not, decide_eq_true_eq, List.length_take, List.length_drop, List.length_append, List.length_replicate, List.length_set, List.length_cons, List.length_nil, List.length_zipWith] at *; (try simp (disch := omega) only [wrap_sm] at *); omega)
  · rename_i g1 g2; subst hF hU; exact (b_first g2).1
  · rename_i g1 g2; subst hF hU; exact (b_first g2).2.1
  · rename_i g1 g2; subst hF hU; exact (b_first g2).2.2
  · refine ⟨(0 : Nat), ?_⟩
    cbv; subst hF hU
    exact ⟨h_le (Nat.zero_le _), ⟨rkR_zero b, trivial⟩, rkL_zero b, trivial⟩
  · rename_i g1 g2
    clear g1 g2
    intro (i : Nat) hi
    have h1 : i ≤ hdn b := by subst hF hU; exact le_h hi
    clear hi
    have h2 := hdn_le b
    cbv
    repeat' first | apply And.intro | refine Classical.or_iff_not_imp_left.2 (fun _ => ?_) | exact trivial
    all_goals try (subst hF hU; simp only [real, us, Nat.le_eq, Int.cast_ofNat_Int, decide_eq_false_iff_not, decide_eq_true_eq, List.length_take, List.length_drop, List.length_append, List.length_replicate, List.length_set, List.length_cons, List.length_nil, List.length_zipWith] at *; (try simp (disch := omega) only [wrap_sm] at *); omega)
    · subst hF hU; exact k_fit hb i
    · subst hF hU; exact pI_of (by decide) (by decide)
    · rename_i g1 g2; subst hF hU; exact (b_bad1 (lt_v h1 g1) g2).1
    · rename_i g1 g2; subst hF hU; exact (b_bad1 (lt_v h1 g1) g2).2.1
    · rename_i g1 g2; subst hF hU; exact (b_bad1 (lt_v h1 g1) g2).2.2
    · subst hF hU; exact k_cap [] (by omega)
    · rename_i g1 g2
      refine ⟨(i + 1 : Nat), ?_⟩
      cbv; subst hF hU
      have hlt := lt_v h1 g1
      exact ⟨h_le hlt, step70 (by omega), ⟨rfl, addw1 (by omega), trivial⟩, rfl, trivial⟩
    · rename_i g1
      have hi : i = hdn b := by subst hF hU; exact ge_v h1 g1
      clear g1
      refine ⟨((i, 0) : Nat × Nat), ?_⟩
      cbv; subst hF hU
      refine ⟨⟨h_eq hi, h1_le (Nat.zero_le _)⟩, ?_⟩
      exact ⟨⟨rqR_zero b i, trivial⟩, (rqL_zero b i).symm, trivial⟩
    · rename_i g1
      clear g1 h1
      clear i
      rintro ⟨(j : Nat), (i : Nat)⟩ ⟨hj, hi⟩
      have h1 : j = hdn b := by subst hF hU; exact eq_h hj
      have h3 : i ≤ hdn b + 1 := by subst hF hU; exact le_h1 hi
      clear hj hi
      cbv
      repeat' first | apply And.intro | refine Classical.or_iff_not_imp_left.2 (fun _ => ?_) | exact trivial
      all_goals try (subst hF hU; simp only [real, us, Nat.le_eq, Int.cast_ofNat_Int, decide_eq_false_iff_not, decide_eq_true_eq, List.length_take, List.length_drop, List.length_append, List.length_replicate, List.length_set, List.length_cons, List.length_nil, List.length_zipWith] at *; (try simp (disch := omega) only [wrap_sm] at *); omega)
      · subst hF hU; exact q_fit hb j i
      · rename_i g1 g2; subst hF hU h1; exact (b_bad2 (le_v h3 g1) g2).1
      · rename_i g1 g2; subst hF hU h1; exact (b_bad2 (le_v h3 g1) g2).2.1
      · rename_i g1 g2; subst hF hU h1; exact (b_bad2 (le_v h3 g1) g2).2.2
      · subst hF hU; exact q_cap 0 (by omega)
      · rename_i g1 g2
        refine ⟨((j, i + 1) : Nat × Nat), ?_⟩
        cbv; subst hF hU
        have hle := le_v h3 g1
        exact ⟨⟨h_eq h1, h1_le (Nat.succ_le_succ hle)⟩, step70 (by omega), ⟨rfl, addw1 (by omega), trivial⟩, rqL_step' b j i, trivial⟩
      · subst hF hU; exact kl_fit (by omega)
      · subst hF hU; exact ql_fit (by omega)
      · rename_i g1 g2 g3; subst hF hU h1
        obtain rfl := gt_v h3 g1
        exact (b_otherN g3).1
      · rename_i g1 g2 g3; subst hF hU h1
        obtain rfl := gt_v h3 g1
        exact (b_otherN g3).2.1
      · rename_i g1 g2 g3; subst hF hU h1
        obtain rfl := gt_v h3 g1
        exact (b_otherN g3).2.2
      · rename_i g1 g2 g3; subst hF hU h1
        obtain rfl := gt_v h3 g1
        exact (b_goodN g2 g3).1
      · rename_i g1 g2 g3; subst hF hU h1
        obtain rfl := gt_v h3 g1
        exact (b_goodN g2 g3).2.1
      · rename_i g1 g2 g3; subst hF hU h1
        obtain rfl := gt_v h3 g1
        exact (b_goodN g2 g3).2.2
      · rename_i g1 g2; subst hF hU h1
        obtain rfl := gt_v h3 g1
        exact (b_errN g2).1
      · rename_i g1 g2; subst hF hU h1
        obtain rfl := gt_v h3 g1
        exact (b_errN g2).2.1
      · rename_i g1 g2; subst hF hU h1
        obtain rfl := gt_v h3 g1
        exact (b_errN g2).2.2
  · rename_i g1; subst hF hU; exact (b_short g1).1
  · rename_i g1; subst hF hU; exact (b_short g1).2.1
  · rename_i g1; subst hF hU; exact (b_short g1).2.2
theorem k_ref8_ReadBranch : SpecOK Try.prog 56 (s_ref8_ReadBranch real us) := by
  refine pure_sound (x := x_ref8_ReadBranch real us) ⟨tt_ok, ok_ref8_ReadBranch, Go.Vc.ks_nil⟩ mixed Try.func56 rfl rfl (by kernel_rfl) ?_
  intro l c rs hg hc
  unfold g_ref8_ReadBranch at hg
  split at hg
  · cases hg; exact ⟨Nat.le_of_ble_eq_true rfl, an_ref8_ReadBranch real us _, [], c_ref8_ReadBranch _ hc⟩
  · cases hg

end Go.Proofs.Ytmldccfchnlpgaa
set_option linter.unusedVariables false
set_option linter.unusedSimpArgs false
set_option maxRecDepth 100000
set_option maxHeartbeats 1000000
namespace Go.Proofs.Ytmldccfchnlpgaa
open Go Go.Vc
noncomputable def peM (a b : List D) (i : Nat) : Bool := real.andb (real.eqB (real.dS (real.dF (real.getD a (real.nat (real.int i))) 0)) (real.dS (real.dF (real.getD b (real.nat (real.int i))) 0))) (real.andb (real.eqB (real.dS (real.dF (real.getD a (real.nat (real.int i))) 1)) (real.dS (real.dF (real.getD b (real.nat (real.int i))) 1))) true)
theorem peM_eq (a b : List D) (i : Nat) : peM a b i = pairEq (a.getD i D.no) (b.getD i D.no) := rfl
theorem prs_len {a b : List D} (h : ¬ real.pB (real.notb (real.eqi (real.int (real.lenD a)) (real.int (real.lenD b)))) false) : false = us.prs a b := by
  have h1 : ¬ ((!((a.length : Int) == (b.length : Int))) = false) := h
  have h2 : a.length ≠ b.length := fun e => h1 (by rw [e]; simp)
  show false = u_prs a b
  unfold u_prs
  rw [decide_eq_false h2]; rfl
theorem prs_lenY {a b : List D} (h : ¬ real.pB (real.notb (real.eqi (real.int (real.lenD a)) (real.int (real.lenD b)))) true) : a.length = b.length := by
  have h1 : ¬ ((!((a.length : Int) == (b.length : Int))) = true) := h
  have h2 : ((a.length : Int) == (b.length : Int)) = true := by simpa using h1
  exact Int.ofNat.inj (beq_iff_eq.1 h2)
theorem prs_no {a b : List D} {i : Nat} (hi : i < a.length) (h : ¬ real.pB (real.notb (peM a b i)) false) : false = us.prs a b := by
  rw [peM_eq] at h
  have h1 : ¬ ((!(pairEq (a.getD i D.no) (b.getD i D.no))) = false) := h
  have h2 : pairEq (a.getD i D.no) (b.getD i D.no) = false := by simpa using h1
  show false = u_prs a b
  unfold u_prs
  rw [eq_comm, Bool.and_eq_false_iff]
  right
  rw [List.all_eq_false]
  exact ⟨i, List.mem_range.2 hi, by rw [h2]; decide⟩
theorem peM_yes {a b : List D} {i : Nat} (h : ¬ real.pB (real.notb (peM a b i)) true) : pairEq (a.getD i D.no) (b.getD i D.no) = true := by
  rw [peM_eq] at h
  have h1 : ¬ ((!(pairEq (a.getD i D.no) (b.getD i D.no))) = true) := h
  simpa using h1
theorem prs_yes {a b : List D} (hl : a.length = b.length) (h : ∀ j, j < a.length → pairEq (a.getD j D.no) (b.getD j D.no) = true) : true = us.prs a b := by
  show true = u_prs a b
  unfold u_prs
  rw [decide_eq_true hl, Bool.true_and, eq_comm, List.all_eq_true]
  intro j hj
  exact h j (List.mem_range.1 hj)
theorem r_law8_pairs : Ready Try.prog 57 := by unfold Ready; kernel_rfl
noncomputable def sp_law8_pairs (F : Fs) (U : Us) : Specs := []
theorem ok_law8_pairs : SpecsOK Try.prog (sp_law8_pairs real us) := sp_nil
noncomputable def an_law8_pairs (F : Fs) (U : Us) (a b : List D) : Anns := [(4, ⟨Nat, fun i => F.pLe i (F.lenD a) ∧ F.lenD a = F.lenD b ∧ ∀ j : Nat, j < i → pairEq (a.getD j D.no) (b.getD j D.no) = true, fun i => F.subn (F.lenD a) i, fun i => ⟨[(0, .rb 2 (.ds (.t [.s, .s]) a)), (1, .rb 2 (.ds (.t [.s, .s]) b)), (5, .i (F.int i))], []⟩⟩)]
noncomputable def g_law8_pairs (F : Fs) (U : Us) : Law
  | [.rb 2 (.ds (.t [.s, .s]) a), .rb 2 (.ds (.t [.s, .s]) b)] => some (F.pLe (F.lenD a) 1000000000000, [.val (.b (U.prs a b))])
  | _ => none
noncomputable def s_law8_pairs (F : Fs) (U : Us) : Vc.Spec := pureSpec F false [.row (.kD (.t [.s, .s])), .row (.kD (.t [.s, .s]))] (g_law8_pairs F U)
noncomputable def x_law8_pairs (F : Fs) (U : Us) : Cx := ⟨Try.f57.ntmps, tt F, sp_law8_pairs F U, [], [(6, ([(6, [2, 3]), (7, [2, 3])], []))], [], []⟩
theorem c_law8_pairs (a b : List D) (hc : real.pLe (real.lenD a) 1000000000000) : vc real (x_law8_pairs real us) (an_law8_pairs real us a b) [] (Try.f57.body.getD .skip) ⟨zipSl 0 [.rb 2 (.ds (.t [.s, .s]) a), .rb 2 (.ds (.t [.s, .s]) b)], [], 64⟩ (retOk real (tt real) false Try.f57.results.toList [.val (.b (us.prs a b))]) := by
  generalize hU : us = U
  generalize hF : real = F
  have hl : a.length ≤ 1000000000000 := hc
  cbv
  repeat' first | apply And.intro | refine Classical.or_iff_not_imp_left.2 (fun _ => ?_) | exact trivial
  all_goals try (subst hF hU; simp only [real, us, Nat.le_eq, Int.cast_ofNat_Int, decide_eq_false_iff_not, decide_eq_true_eq, List.length_take, List.length_drop, List.length_append, List.length_replicate, List.length_set, List.length_cons, List.length_nil, List.length_zipWith] at *; (try simp (disch := omega) only [wrap_sm] at *); omega)
  · rename_i g1; subst hF hU; exact prs_len g1
  · rename_i g1
    refine ⟨(0 : Nat), ?_⟩
    cbv; subst hF hU
    exact ⟨⟨Nat.zero_le _, prs_lenY g1, fun j hj => absurd hj (Nat.not_lt_zero j)⟩, trivial⟩
  · rename_i g0
    clear g0
    intro (i : Nat) hi
    have h1 : i ≤ a.length := by subst hF; exact hi.1
    have h2 : a.length = b.length := by subst hF; exact hi.2.1
    have h3 : ∀ j, j < i → pairEq (a.getD j D.no) (b.getD j D.no) = true := hi.2.2
    clear hi
    cbv
    repeat' first | apply And.intro | refine Classical.or_iff_not_imp_left.2 (fun _ => ?_) | exact trivial
    all_goals try (subst hF hU; simp only [real, us, Nat.le_eq, Int.cast_ofNat_Int, decide_eq_false_iff_not, decide_eq_true_eq, List.length_take, List.length_drop, List.length_append, List.length_replicate, List.length_set, List.length_cons, List.length_nil, List.length_zipWith] at *; (try simp (disch := omega) only [wrap_sm] at *); omega)
    · rename_i g1 g2; subst hF hU; exact prs_no (lt_g (n := a.length) g1) g2
    · rename_i g1 g2
      refine ⟨(i + 1 : Nat), ?_⟩
      cbv; subst hF hU
      have hlt := lt_g (n := a.length) g1
      exact ⟨⟨hlt, h2, fun j hj => (Nat.lt_succ_iff_lt_or_eq.1 hj).elim (h3 j) (fun e => e ▸ peM_yes g2)⟩, sub_stepN hlt, ⟨addi1 (by omega), trivial⟩, trivial⟩
    · rename_i g1; subst hF hU
      have e : i = a.length := by have := ge_g (n := a.length) g1; omega
      subst e
      exact prs_yes h2 h3
theorem k_law8_pairs : SpecOK Try.prog 57 (s_law8_pairs real us) := by
  refine pure_sound (x := x_law8_pairs real us) ⟨tt_ok, ok_law8_pairs, Go.Vc.ks_nil⟩ mixed Try.func57 rfl rfl (by kernel_rfl) ?_
  intro l c rs hg hc
  unfold g_law8_pairs at hg
  split at hg
  · cases hg; exact ⟨Nat.le_of_ble_eq_true rfl, an_law8_pairs real us _ _, [], c_law8_pairs _ _ hc⟩
  · cases hg

theorem sam_len {a c : List (List UInt8)} {x y : List UInt32} (h : a.length ≠ c.length) : false = us.sam a x c y := by
  have e : a ≠ c := fun e => h (by rw [e])
  show false = (decide (a = c) && decide (x = y))
  rw [decide_eq_false e]; rfl
theorem sam_lenX {a c : List (List UInt8)} {x y : List UInt32} (h : x.length ≠ y.length) : false = us.sam a x c y := by
  have e : x ≠ y := fun e => h (by rw [e])
  show false = (decide (a = c) && decide (x = y))
  rw [decide_eq_false e, Bool.and_false]
theorem neL {m n : Nat} (h : ¬ real.pB (real.notb (real.eqi (real.int m) (real.int n))) false) : m ≠ n := by
  have h1 : ¬ ((!((m : Int) == (n : Int))) = false) := h
  exact fun e => h1 (by rw [e]; simp)
theorem eqL {m n : Nat} (h : ¬ real.pB (real.notb (real.eqi (real.int m) (real.int n))) true) : m = n := by
  have h1 : ¬ ((!((m : Int) == (n : Int))) = true) := h
  have h2 : ((m : Int) == (n : Int)) = true := by simpa using h1
  exact Int.ofNat.inj (beq_iff_eq.1 h2)
theorem sam_noS {a c : List (List UInt8)} {x y : List UInt32} {i : Nat} (h : ¬ real.pB (real.notb (real.eqB (real.getS a (real.nat (real.int i))) (real.getS c (real.nat (real.int i))))) false) : false = us.sam a x c y := by
  have h1 : ¬ ((!((a.getD i []) == (c.getD i []))) = false) := h
  have e : a ≠ c := fun e => h1 (by rw [e]; simp)
  show false = (decide (a = c) && decide (x = y))
  rw [decide_eq_false e]; rfl
theorem sam_yesS {a c : List (List UInt8)} {i : Nat} (h : ¬ real.pB (real.notb (real.eqB (real.getS a (real.nat (real.int i))) (real.getS c (real.nat (real.int i))))) true) : a.getD i [] = c.getD i [] := by
  have h1 : ¬ ((!((a.getD i []) == (c.getD i []))) = true) := h
  simpa using h1
theorem sam_noW {a c : List (List UInt8)} {x y : List UInt32} {i : Nat} (h : ¬ real.pB (real.notb (real.eq32 (real.getW x (real.nat (real.int i))) (real.getW y (real.nat (real.int i))))) false) : false = us.sam a x c y := by
  have h1 : ¬ ((!((x.getD i 0) == (y.getD i 0))) = false) := h
  have e : x ≠ y := fun e => h1 (by rw [e]; simp)
  show false = (decide (a = c) && decide (x = y))
  rw [decide_eq_false e, Bool.and_false]
theorem sam_yesW {x y : List UInt32} {i : Nat} (h : ¬ real.pB (real.notb (real.eq32 (real.getW x (real.nat (real.int i))) (real.getW y (real.nat (real.int i))))) true) : x.getD i 0 = y.getD i 0 := by
  have h1 : ¬ ((!((x.getD i 0) == (y.getD i 0))) = true) := h
  simpa using h1
theorem ext_getD {α : Type} {d : α} {a c : List α} (hl : a.length = c.length) (h : ∀ j, j < a.length → a.getD j d = c.getD j d) : a = c := by
  apply List.ext_getElem hl
  intro j h1 h2
  have := h j h1
  rw [List.getD_eq_getElem?_getD, List.getD_eq_getElem?_getD, List.getElem?_eq_getElem h1, List.getElem?_eq_getElem h2] at this
  exact this
theorem sam_yes {a c : List (List UInt8)} {x y : List UInt32} (h1 : a = c) (h2 : x = y) : true = us.sam a x c y := by
  show true = (decide (a = c) && decide (x = y))
  rw [decide_eq_true h1, decide_eq_true h2]; rfl
theorem r_law8_same : Ready Try.prog 53 := by unfold Ready; kernel_rfl
noncomputable def sp_law8_same (F : Fs) (U : Us) : Specs := []
theorem ok_law8_same : SpecsOK Try.prog (sp_law8_same real us) := sp_nil
noncomputable def an_law8_same (F : Fs) (U : Us) (a : List (List UInt8)) (x : List UInt32) (c : List (List UInt8)) (y : List UInt32) : Anns := [(4, ⟨Nat, fun i => F.pLe i (F.lenS a) ∧ F.lenS a = F.lenS c ∧ F.lenW x = F.lenW y ∧ ∀ j : Nat, j < i → a.getD j [] = c.getD j [], fun i => F.subn (F.lenS a) i, fun i => ⟨[(0, .rb 1 (.ss a)), (1, .rb 1 (.wd x)), (2, .rb 1 (.ss c)), (3, .rb 1 (.wd y)), (9, .i (F.int i))], []⟩⟩),
  (9, ⟨Nat, fun i => F.pLe i (F.lenW x) ∧ a = c ∧ F.lenW x = F.lenW y ∧ ∀ j : Nat, j < i → x.getD j 0 = y.getD j 0, fun i => F.subn (F.lenW x) i, fun i => ⟨[(1, .rb 1 (.wd x)), (3, .rb 1 (.wd y)), (10, .i (F.int i))], []⟩⟩)]
noncomputable def g_law8_same (F : Fs) (U : Us) : Law
  | [.rb 1 (.ss a), .rb 1 (.wd x), .rb 1 (.ss c), .rb 1 (.wd y)] => some (F.pLe (F.lenS a) 1000000000000 ∧ F.pLe (F.lenW x) 1000000000000, [.val (.b (U.sam a x c y))])
  | _ => none
noncomputable def s_law8_same (F : Fs) (U : Us) : Vc.Spec := pureSpec F false [.row .kS, .row .kW, .row .kS, .row .kW] (g_law8_same F U)
noncomputable def x_law8_same (F : Fs) (U : Us) : Cx := ⟨Try.f53.ntmps, tt F, sp_law8_same F U, [], [(6, ([(6, [2, 3]), (7, [2, 3])], [])), (11, ([(6, [2, 3]), (7, [2, 3])], []))], [], []⟩
theorem c_law8_same (a : List (List UInt8)) (x : List UInt32) (c : List (List UInt8)) (y : List UInt32) (hc : real.pLe (real.lenS a) 1000000000000 ∧ real.pLe (real.lenW x) 1000000000000) : vc real (x_law8_same real us) (an_law8_same real us a x c y) [] (Try.f53.body.getD .skip) ⟨zipSl 0 [.rb 1 (.ss a), .rb 1 (.wd x), .rb 1 (.ss c), .rb 1 (.wd y)], [], 64⟩ (retOk real (tt real) false Try.f53.results.toList [.val (.b (us.sam a x c y))]) := by
  generalize hU : us = U
  generalize hF : real = F
  have hl : a.length ≤ 1000000000000 := hc.1
  have hx : x.length ≤ 1000000000000 := hc.2
  cbv
  repeat' first | apply And.intro | refine Classical.or_iff_not_imp_left.2 (fun _ => ?_) | exact trivial
  all_goals try (subst hF hU; simp only [real, us, Nat.le_eq, Int.cast_ofNat_Int, decide_eq_false_iff_not, decide_eq_true_eq, List.length_take, List.length_drop, List.length_append, List.length_replicate, List.length_set, List.length_cons, List.length_nil, List.length_zipWith] at *; (try simp (disch := omega) only [wrap_sm] at *); omega)
  · rename_i g1 g2; subst hF hU; exact sam_lenX (neL g2)
  · rename_i g1 g2
    refine ⟨(0 : Nat), ?_⟩
    cbv; subst hF hU
    exact ⟨⟨Nat.zero_le _, eqL g1, eqL g2, fun j hj => absurd hj (Nat.not_lt_zero j)⟩, trivial⟩
  · rename_i g1 g2
    clear g1 g2
    intro (i : Nat) hi
    have h1 : i ≤ a.length := by subst hF; exact hi.1
    have h2 : a.length = c.length := by subst hF; exact hi.2.1
    have h4 : x.length = y.length := by subst hF; exact hi.2.2.1
    have h3 : ∀ j, j < i → a.getD j [] = c.getD j [] := hi.2.2.2
    clear hi
    cbv
    repeat' first | apply And.intro | refine Classical.or_iff_not_imp_left.2 (fun _ => ?_) | exact trivial
    all_goals try (subst hF hU; simp only [real, us, Nat.le_eq, Int.cast_ofNat_Int, decide_eq_false_iff_not, decide_eq_true_eq, List.length_take, List.length_drop, List.length_append, List.length_replicate, List.length_set, List.length_cons, List.length_nil, List.length_zipWith] at *; (try simp (disch := omega) only [wrap_sm] at *); omega)
    · rename_i g1 g2; subst hF hU; exact sam_noS g2
    · rename_i g1 g2
      refine ⟨(i + 1 : Nat), ?_⟩
      cbv; subst hF hU
      have hlt := lt_g (n := a.length) g1
      exact ⟨⟨hlt, h2, h4, fun j hj => (Nat.lt_succ_iff_lt_or_eq.1 hj).elim (h3 j) (fun e => e ▸ sam_yesS g2)⟩, sub_stepN hlt, ⟨addi1 (by omega), trivial⟩, trivial⟩
    · rename_i g1
      refine ⟨(0 : Nat), ?_⟩
      cbv; subst hF hU
      have e : i = a.length := by have := ge_g (n := a.length) g1; omega
      subst e
      exact ⟨⟨Nat.zero_le _, ext_getD h2 h3, h4, fun j hj => absurd hj (Nat.not_lt_zero j)⟩, trivial⟩
    · rename_i g1
      clear g1 h1 h3 h2
      clear i
      intro (i : Nat) hi
      have h1 : i ≤ x.length := by subst hF; exact hi.1
      have h2 : a = c := hi.2.1
      have h3 : ∀ j, j < i → x.getD j 0 = y.getD j 0 := hi.2.2.2
      clear hi
      cbv
      repeat' first | apply And.intro | refine Classical.or_iff_not_imp_left.2 (fun _ => ?_) | exact trivial
      all_goals try (subst hF hU; simp only [real, us, Nat.le_eq, Int.cast_ofNat_Int, decide_eq_false_iff_not, decide_eq_true_eq, List.length_take, List.length_drop, List.length_append, List.length_replicate, List.length_set, List.length_cons, List.length_nil, List.length_zipWith] at *; (try simp (disch := omega) only [wrap_sm] at *); omega)
      · rename_i g1 g2; subst hF hU; exact sam_noW g2
      · rename_i g1 g2
        refine ⟨(i + 1 : Nat), ?_⟩
        cbv; subst hF hU
        have hlt := lt_g (n := x.length) g1
        exact ⟨⟨hlt, h2, h4, fun j hj => (Nat.lt_succ_iff_lt_or_eq.1 hj).elim (h3 j) (fun e => e ▸ sam_yesW g2)⟩, sub_stepN hlt, ⟨addi1 (by omega), trivial⟩, trivial⟩
      · rename_i g1; subst hF hU
        have e : i = x.length := by have := ge_g (n := x.length) g1; omega
        subst e
        exact sam_yes h2 (ext_getD h4 h3)
  · rename_i g1; subst hF hU; exact sam_len (neL g1)
theorem k_law8_same : SpecOK Try.prog 53 (s_law8_same real us) := by
  refine pure_sound (x := x_law8_same real us) ⟨tt_ok, ok_law8_same, Go.Vc.ks_nil⟩ mixed Try.func53 rfl rfl (by kernel_rfl) ?_
  intro l c rs hg hc
  unfold g_law8_same at hg
  split at hg
  · cases hg; exact ⟨Nat.le_of_ble_eq_true rfl, an_law8_same real us _ _ _ _, [], c_law8_same _ _ _ _ hc⟩
  · cases hg

end Go.Proofs.Ytmldccfchnlpgaa
set_option linter.unusedVariables false
set_option linter.unusedSimpArgs false
set_option maxRecDepth 100000
set_option maxHeartbeats 1000000
namespace Go.Proofs.Ytmldccfchnlpgaa
open Go Go.Vc
abbrev kC : List UInt8 := u_brB [[109]] [1, 2]
theorem kn_good : goodB ([[109]], [1, 2]) kC := ⟨by decide +kernel, rfl⟩
theorem kn1 : (u_leafE [] == 0) = true := by decide +kernel
theorem kn2 : (u_leafB [] == [1, 0, 0]) = true := by decide +kernel
theorem kn3 : (u_brE [[109]] [1, 2] == 0) = true := by decide +kernel
theorem kn4 : (u_kind kC == 2) = true := by decide +kernel
theorem kn5 : (u_brE [] [1] == 90) = true := by decide +kernel
theorem kn6 : (u_leafE [.t [.s [98], .s []], .t [.s [97], .s []]] == 90) = true := by decide +kernel
theorem kn7 : (us.rbE kC == 0) = true := by rw [(b_some kn_good).2.2]; rfl
theorem kn8 : (((us.rbK kC).length : Int) == 1) = true := by rw [(b_some kn_good).1]; rfl
theorem kn9 : (((us.rbQ kC).length : Int) == 2) = true := by rw [(b_some kn_good).2.1]; rfl
theorem kn9b : (us.rbQ kC).length = 2 := by rw [(b_some kn_good).2.1]; rfl
theorem kn10 : ((us.rbQ kC).getD 1 0 == 2) = true := by rw [(b_some kn_good).2.1]; rfl
theorem kn11 : (u_nsz [] 0 == 3) = true := by decide +kernel
theorem knL : kC.length ≤ 900000 := by decide +kernel
attribute [local irreducible] u_leafE u_leafB u_brE u_brB u_kind u_bf u_nsz
theorem r_law8_known : Ready Try.prog 48 := by unfold Ready; kernel_rfl
noncomputable def sp_law8_known (F : Fs) (U : Us) : Specs := [(49, s_node_Leaf F U), (50, s_node_Branch F U), (52, s_node_ReadBranch F U), (58, s_node_Kind F U), (51, s_node_Size F U)]
theorem ok_law8_known : SpecsOK Try.prog (sp_law8_known real us) := sp_cons r_node_Leaf k_node_Leaf (sp_cons r_node_Branch k_node_Branch (sp_cons r_node_ReadBranch k_node_ReadBranch (sp_cons r_node_Kind k_node_Kind (sp_cons r_node_Size k_node_Size sp_nil))))
noncomputable def g_law8_known (F : Fs) (U : Us) : Law
  | [] => some (True, [.val (.kb true)])
  | _ => none
noncomputable def s_law8_known (F : Fs) (U : Us) : Vc.Spec := pureSpec F false [] (g_law8_known F U)
noncomputable def x_law8_known (F : Fs) (U : Us) : Cx := ⟨Try.f48.ntmps, tt F, sp_law8_known F U, [], [], [], [41, 45, 49, 54, 58, 62, 66, 71, 76, 82, 86]⟩
theorem c_law8_known  : vc real (x_law8_known real us) [] [] (Try.f48.body.getD .skip) ⟨zipSl 0 [], [], 64⟩ (retOk real (tt real) false Try.f48.results.toList [.val (.kb true)]) := by
  generalize hU : us = U
  generalize hF : real = F
  cbv
  have e1 : F.ofS ⟨⟨[109]⟩⟩ = [109] := by subst hF; rfl
  have e2 : F.ofS ⟨⟨[98]⟩⟩ = [98] := by subst hF; rfl
  have e3 : F.ofS ⟨⟨[97]⟩⟩ = [97] := by subst hF; rfl
  have e4 : F.ofS ⟨⟨[1, 0, 0]⟩⟩ = [1, 0, 0] := by subst hF; rfl
  have w1 : F.ofI32 (F.int 1) = 1 := by subst hF; rfl
  have w2 : F.ofI32 (F.int 2) = 2 := by subst hF; rfl
  have n1 : F.nat (F.int 1) = 1 := by subst hF; rfl
  simp only [e1, e2, e3, e4, w1, w2, n1]
  repeat' first | apply And.intro | refine Classical.or_iff_not_imp_left.2 (fun _ => ?_) | exact trivial
  · subst hF; show (0 : Nat) ≤ _; omega
  · subst hF; show (1 : Nat) ≤ _; omega
  · subst hF; show (2 : Nat) ≤ _; omega
  · subst hF; show (0 : Nat) ≤ _; omega
  · subst hF; show (1 : Nat) ≤ _; omega
  · subst hF; show (2 : Nat) ≤ _; omega
  · subst hF hU; exact knL
  · subst hF hU; show (0 : Int) ≤ 1 ∧ (1 : Int) < ((us.rbQ kC).length : Int); rw [kn9b]; omega
  · subst hF hU; show 1 < (us.rbQ kC).length; rw [kn9b]; omega
  · subst hF; show (0 : Nat) ≤ _; omega
  · subst hF hU; exact kn11
  all_goals exfalso; rename_i h; subst hF hU
  · exact h kn10
  · exact h kn9
  · exact h kn8
  · exact h kn7
  · exact h kn6
  · exact h kn5
  · exact h kn4
  · exact h kn3
  · exact h kn2
  · exact h kn1
theorem k_law8_known : SpecOK Try.prog 48 (s_law8_known real us) := by
  refine pure_sound (x := x_law8_known real us) ⟨tt_ok, ok_law8_known, Go.Vc.ks_nil⟩ mixed Try.func48 rfl rfl (by kernel_rfl) ?_
  intro l c rs hg hc
  unfold g_law8_known at hg
  split at hg
  · cases hg; exact ⟨Nat.le_of_ble_eq_true rfl, [], [], c_law8_known ⟩
  · cases hg

end Go.Proofs.Ytmldccfchnlpgaa
set_option linter.unusedVariables false
set_option linter.unusedSimpArgs false
namespace Go.Vc
open Go Go.RowKit Go.ChangeShapes Go.WideShapes
section
variable {P : Program} {w : World}
/-- a reading of a one-cell type gives such a cell -/
def Elt (P : Program) (w : World) (t : TypeId) {α : Type} (E : α → Value) (q : α → Prop) : Prop :=
  ∀ (H : Type) (enc : TypeId × Value → H) (base : Nat) (sp : Nat → Bool) (held : Bool) (fuel : Nat) (cs : List Value) (x : DataW H × List MemPlace),
    DataW.trod enc P w base sp held fuel t cs = some x → ∃ a, cs = [E a] ∧ q a
theorem u16_arg {a : Int} (h : (Lit.int .u16 a).wf = true) : ∃ x : UInt16, a = (x.toNat : Int) := by
  simp only [Lit.wf, Bool.and_eq_true, decide_eq_true_eq, IntKind.min, IntKind.max] at h
  refine ⟨UInt16.ofNat a.toNat, ?_⟩
  simp [IntKind.signed, IntKind.bits] at h
  rw [UInt16.toNat_ofNat_of_lt' (by simp [UInt16.size]; omega)]
  omega
theorem elt_i64 {t : TypeId} (ht : P.underlying t = some (.int .i64)) : Elt P w t EI (fun n => -9223372036854775808 ≤ n ∧ n ≤ 9223372036854775807) := by
  intro H enc base sp held fuel cs x h
  obtain ⟨n, rfl, _, hw⟩ := DataW.trod_int ht h
  exact ⟨n, rfl, i64_arg hw⟩
theorem elt_bool {t : TypeId} (ht : P.underlying t = some .bool) : Elt P w t Value.bool (fun _ => True) := by
  intro H enc base sp held fuel cs x h
  obtain ⟨n, rfl, _⟩ := DataW.trod_bool ht h
  exact ⟨n, rfl, trivial⟩
theorem elt_str {t : TypeId} (ht : P.underlying t = some .string) : Elt P w t ES (fun s => s.length ≤ 9223372036854775807) := by
  intro H enc base sp held fuel cs x h
  obtain ⟨s, rfl, _, hs⟩ := DataW.trod_string ht h
  refine ⟨s.data.toList, by simp [ES], ?_⟩
  simpa [maxLen] using hs
theorem elt_u8 {t : TypeId} (ht : P.underlying t = some (.int .u8)) : Elt P w t E8 (fun _ => True) := by
  intro H enc base sp held fuel cs x h
  obtain ⟨n, rfl, _, hw⟩ := DataW.trod_int ht h
  obtain ⟨y, hy⟩ := u8_arg hw
  exact ⟨y, by rw [hy], trivial⟩
theorem elt_u16 {t : TypeId} (ht : P.underlying t = some (.int .u16)) : Elt P w t E16 (fun _ => True) := by
  intro H enc base sp held fuel cs x h
  obtain ⟨n, rfl, _, hw⟩ := DataW.trod_int ht h
  obtain ⟨y, hy⟩ := u16_arg hw
  exact ⟨y, by rw [hy], trivial⟩
theorem elt_u32 {t : TypeId} (ht : P.underlying t = some (.int .u32)) : Elt P w t E32 (fun _ => True) := by
  intro H enc base sp held fuel cs x h
  obtain ⟨n, rfl, _, hw⟩ := DataW.trod_int ht h
  obtain ⟨y, hy⟩ := u32_arg hw
  exact ⟨y, by rw [hy], trivial⟩
theorem elt_u64 {t : TypeId} (ht : P.underlying t = some (.int .u64)) : Elt P w t E64 (fun _ => True) := by
  intro H enc base sp held fuel cs x h
  obtain ⟨n, rfl, _, hw⟩ := DataW.trod_int ht h
  obtain ⟨y, hy⟩ := u64_arg hw
  exact ⟨y, by rw [hy], trivial⟩
theorem drop_take_one {α : Type} {l : List α} {a : α} {i : Nat} (h : (l.drop i).take 1 = [a]) : l[i]? = some a := by
  have h1 := congrArg List.head? h
  rw [List.head?_take, if_neg (by decide), List.head?_drop] at h1
  simpa using h1
theorem list_of {α : Type} (E : α → Value) (q : α → Prop) : ∀ cs : List Value, (∀ i, i < cs.length → ∃ x, cs[i]? = some (E x) ∧ q x) → ∃ xs : List α, cs = xs.map E ∧ ∀ x ∈ xs, q x
  | [], _ => ⟨[], rfl, by simp⟩
  | c :: r, h => by
    obtain ⟨x, hx, hq⟩ := h 0 (by simp)
    obtain ⟨xs, hr, hqs⟩ := list_of E q r fun i hi => by
      obtain ⟨x, hx, hq⟩ := h (i + 1) (by simp; omega)
      exact ⟨x, by simpa using hx, hq⟩
    simp only [List.getElem?_cons_zero, Option.some.injEq] at hx
    refine ⟨x :: xs, by simp [hx, hr], fun y hy => ?_⟩
    rcases List.mem_cons.1 hy with rfl | hy
    · exact hq
    · exact hqs y hy
theorem arr_of {α : Type} {E : α → Value} {q : α → Prop} {t e : TypeId} {n : Nat} (ht : P.underlying t = some (.array n e)) (hc : P.cellsOf e = 1) (hn : P.cellsOf t = n) (hE : Elt P w e E q)
    (H : Type) (enc : TypeId × Value → H) (base : Nat) (sp : Nat → Bool) (held : Bool) (fuel : Nat) (cs : List Value) (x : DataW H × List MemPlace)
    (h : DataW.trod enc P w base sp held fuel t cs = some x) : ∃ xs : List α, cs = xs.map E ∧ xs.length = n ∧ ∀ x ∈ xs, q x := by
  obtain ⟨ys, m, rfl, rfl, hl, hyl, hel⟩ := DataW.trod_array ht h
  obtain ⟨xs, rfl, hq⟩ := list_of E q cs fun i hi => by
    have h1 := hel i (by omega)
    rw [List.getElem?_eq_getElem (by omega), hc] at h1
    obtain ⟨a, ha, hq⟩ := hE H enc base sp held m _ _ h1
    exact ⟨a, drop_take_one (by simpa using ha), hq⟩
  exact ⟨xs, rfl, by simpa [hn] using hl, hq⟩
theorem cell_ltO {a : Addr} {v : Value} (h : w.cell? a = some v) : a.block < w.heap.size := by
  unfold World.cell? at h
  split at h
  · rename_i h1; exact (Array.getElem?_eq_some_iff.1 h1).1
  · cases h
theorem stableAtTop {a : Addr} {ds : List Value} (h0 : 0 < ds.length) (h : ∀ j x, ds[j]? = some x → w.cell? (a.add j) = some x) : StableAt mTop w a ds := by
  refine ⟨⟨?_, trivial, .inr fun k v hk => by cases hk⟩, h⟩
  have := cell_ltO (h 0 ds[0] (by simp [h0]))
  rwa [add_block] at this
theorem sl_of {α : Type} {E : α → Value} {q : α → Prop} {t e : TypeId} (ht : P.underlying t = some (.slice e)) (hc : P.cellsOf e = 1) (hE : Elt P w e E q)
    (H : Type) (enc : TypeId × Value → H) (base : Nat) (sp : Nat → Bool) (held : Bool) (fuel : Nat) (cs : List Value) (x : DataW H × List MemPlace)
    (h : DataW.trod enc P w base sp held fuel t cs = some x) :
    ∃ (xs : List α) (ad : Option Addr) (cap : Nat), cs = [.slice ad xs.length cap] ∧ xs.length ≤ cap ∧ xs.length ≤ 9223372036854775807 ∧ (0 < xs.length → ∃ a, ad = some a ∧ StableAt mTop w a (xs.map E)) ∧ ∀ x ∈ xs, q x := by
  rcases DataW.trod_slice ht h with ⟨rfl, _⟩ | ⟨a, len, cap, elems, rest, m, rfl, rfl, rfl, _, hl, hm, hlen, hel, _⟩
  · exact ⟨[], none, 0, rfl, by simp, by simp, by simp, by simp⟩
  · have key : ∀ k, k ≤ len → ∃ xs : List α, xs.length = k ∧ (∀ j x, (xs.map E)[j]? = some x → w.cell? (a.add j) = some x) ∧ ∀ x ∈ xs, q x := by
      intro k
      induction k with
      | zero => exact fun _ => ⟨[], rfl, by simp, by simp⟩
      | succ k ih =>
        intro hk
        obtain ⟨xs, h1, h2, h3⟩ := ih (by omega)
        have h4 := hel k (by omega)
        rw [List.getElem?_eq_getElem (by omega), hc, Nat.mul_one, Option.bind_eq_some_iff] at h4
        obtain ⟨cs', hcs, hy⟩ := h4
        obtain ⟨y, rfl, hq⟩ := hE H enc base sp held m _ _ hy
        have hcell := cell_of_cells?_one hcs
        refine ⟨xs ++ [y], by simp [h1], fun j x hj => ?_, fun x hx => ?_⟩
        · rw [List.map_append, List.getElem?_append] at hj
          split at hj
          · exact h2 j x hj
          · rename_i hlt
            simp only [List.length_map] at hj hlt
            have : j = k := by
              have := (List.getElem?_eq_some_iff.1 hj).1
              simp at this
              omega
            subst this
            simp [h1] at hj
            rw [← hj]; exact hcell
        · rcases List.mem_append.1 hx with hx | hx
          · exact h3 x hx
          · simp at hx; rw [hx]; exact hq
    obtain ⟨xs, h1, h2, h3⟩ := key len (Nat.le_refl _)
    refine ⟨xs, some a, cap, by rw [h1], by omega, by simp [maxLen] at hm; omega, fun h0 => ⟨a, rfl, stableAtTop (by simpa using h0) h2⟩, h3⟩
theorem cells_oneO {v : Value} (h : ∀ cs, v ≠ .agg cs) : v.cells.toList = [v] := by
  unfold Value.cells
  split
  · rename_i cs; exact absurd rfl (h cs)
  · rfl
section
variable {H : Type} {enc : TypeId × Value → H} {base b0 : Nat} {sp : Nat → Bool} {held : Bool} {t e : TypeId} {v : Value} {d : DataW H} {ps : List MemPlace} {r : Reach}
theorem openB (ht : P.underlying t = some .bool) (hval : Value.okWide P w r b0 t v) (hd : DataW.Trod enc P w base sp held t v d ps) : ∃ x, RV mTop w (.b x) v := by
  obtain ⟨n, rfl⟩ := okWide_bool ht hval
  exact ⟨n, by simp [RV, CR]⟩
theorem openI (ht : P.underlying t = some (.int .i64)) (hval : Value.okWide P w r b0 t v) (hd : DataW.Trod enc P w base sp held t v d ps) : ∃ x, RV mTop w (.i x) v ∧ -9223372036854775808 ≤ x ∧ x ≤ 9223372036854775807 := by
  obtain ⟨n, rfl⟩ := okWide_int ht hval
  obtain ⟨fuel, hf⟩ := hd
  rw [cells_oneO (by simp)] at hf
  obtain ⟨a, ha, hq⟩ := elt_i64 ht _ _ _ _ _ _ _ _ hf
  exact ⟨a, by simpa [RV, CR] using ha, hq⟩
theorem openS (ht : P.underlying t = some .string) (hval : Value.okWide P w r b0 t v) (hd : DataW.Trod enc P w base sp held t v d ps) : ∃ x, RV mTop w (.s x) v ∧ x.length ≤ 9223372036854775807 := by
  obtain ⟨n, rfl⟩ := okWide_string ht hval
  obtain ⟨fuel, hf⟩ := hd
  rw [cells_oneO (by simp)] at hf
  obtain ⟨a, ha, hq⟩ := elt_str ht _ _ _ _ _ _ _ _ hf
  exact ⟨a, by simpa [RV, CR] using ha, hq⟩
theorem open8 (ht : P.underlying t = some (.int .u8)) (hval : Value.okWide P w r b0 t v) (hd : DataW.Trod enc P w base sp held t v d ps) : ∃ x, RV mTop w (.w8 x) v := by
  obtain ⟨n, rfl⟩ := okWide_int ht hval
  obtain ⟨fuel, hf⟩ := hd
  rw [cells_oneO (by simp)] at hf
  obtain ⟨a, ha, hq⟩ := elt_u8 ht _ _ _ _ _ _ _ _ hf
  exact ⟨a, by simpa [RV, CR] using ha⟩
theorem open16 (ht : P.underlying t = some (.int .u16)) (hval : Value.okWide P w r b0 t v) (hd : DataW.Trod enc P w base sp held t v d ps) : ∃ x, RV mTop w (.w16 x) v := by
  obtain ⟨n, rfl⟩ := okWide_int ht hval
  obtain ⟨fuel, hf⟩ := hd
  rw [cells_oneO (by simp)] at hf
  obtain ⟨a, ha, hq⟩ := elt_u16 ht _ _ _ _ _ _ _ _ hf
  exact ⟨a, by simpa [RV, CR] using ha⟩
theorem open32 (ht : P.underlying t = some (.int .u32)) (hval : Value.okWide P w r b0 t v) (hd : DataW.Trod enc P w base sp held t v d ps) : ∃ x, RV mTop w (.w32 x) v := by
  obtain ⟨n, rfl⟩ := okWide_int ht hval
  obtain ⟨fuel, hf⟩ := hd
  rw [cells_oneO (by simp)] at hf
  obtain ⟨a, ha, hq⟩ := elt_u32 ht _ _ _ _ _ _ _ _ hf
  exact ⟨a, by simpa [RV, CR] using ha⟩
theorem open64 (ht : P.underlying t = some (.int .u64)) (hval : Value.okWide P w r b0 t v) (hd : DataW.Trod enc P w base sp held t v d ps) : ∃ x, RV mTop w (.w64 x) v := by
  obtain ⟨n, rfl⟩ := okWide_int ht hval
  obtain ⟨fuel, hf⟩ := hd
  rw [cells_oneO (by simp)] at hf
  obtain ⟨a, ha, hq⟩ := elt_u64 ht _ _ _ _ _ _ _ _ hf
  exact ⟨a, by simpa [RV, CR] using ha⟩
theorem openA8 {n : Nat} (ht : P.underlying t = some (.array n e)) (he : P.underlying e = some (.int .u8)) (hc : P.cellsOf e = 1) (hn : P.cellsOf t = n) (hval : Value.okWide P w r b0 t v) (hd : DataW.Trod enc P w base sp held t v d ps) :
    ∃ xs : List UInt8, RV mTop w (.ag n (.bt xs)) v ∧ xs.length = n := by
  obtain ⟨cs, rfl, hcs⟩ : ∃ cs, v = .agg cs ∧ cs.size = P.cellsOf t := by
    simp only [Value.okWide, ht] at hval
    obtain ⟨cs, h1, h2, _⟩ := hval
    exact ⟨cs, h1, h2⟩
  obtain ⟨fuel, hf⟩ := hd
  obtain ⟨xs, h1, h2, hq⟩ := arr_of ht hc hn (elt_u8 he) _ _ _ _ _ _ _ _ hf
  refine ⟨xs, ?_, h2⟩
  simp only [RV]
  have h1 : cs.toList = xs.map E8 := h1
  exact ⟨cs.toList, by simp, by simp [h1, h2], by simpa [RC] using h1⟩
theorem openL8 (ht : P.underlying t = some (.slice e)) (he : P.underlying e = some (.int .u8)) (hc : P.cellsOf e = 1) (hval : Value.okWide P w r b0 t v) (hd : DataW.Trod enc P w base sp held t v d ps) :
    ∃ xs : List UInt8, RV mTop w (.rb 1 (.bt xs)) v ∧ xs.length ≤ 9223372036854775807 := by
  obtain ⟨a, len, cap, rfl⟩ := okWide_slice ht hval
  obtain ⟨fuel, hf⟩ := hd
  rw [cells_oneO (by simp)] at hf
  obtain ⟨xs, ad, cap', h1, h2, h3, h4, hq⟩ := sl_of ht hc (elt_u8 he) _ _ _ _ _ _ _ _ hf
  simp only [List.cons.injEq, and_true, Value.slice.injEq] at h1
  obtain ⟨rfl, rfl, rfl⟩ := h1
  refine ⟨xs, ?_, h3⟩
  simp only [RV, CR]
  exact ⟨_, _, _, xs.map E8, rfl, by simp [RC], by simp, h2, h4⟩
theorem openA16 {n : Nat} (ht : P.underlying t = some (.array n e)) (he : P.underlying e = some (.int .u16)) (hc : P.cellsOf e = 1) (hn : P.cellsOf t = n) (hval : Value.okWide P w r b0 t v) (hd : DataW.Trod enc P w base sp held t v d ps) :
    ∃ xs : List UInt16, RV mTop w (.ag n (.wh xs)) v ∧ xs.length = n := by
  obtain ⟨cs, rfl, hcs⟩ : ∃ cs, v = .agg cs ∧ cs.size = P.cellsOf t := by
    simp only [Value.okWide, ht] at hval
    obtain ⟨cs, h1, h2, _⟩ := hval
    exact ⟨cs, h1, h2⟩
  obtain ⟨fuel, hf⟩ := hd
  obtain ⟨xs, h1, h2, hq⟩ := arr_of ht hc hn (elt_u16 he) _ _ _ _ _ _ _ _ hf
  refine ⟨xs, ?_, h2⟩
  simp only [RV]
  have h1 : cs.toList = xs.map E16 := h1
  exact ⟨cs.toList, by simp, by simp [h1, h2], by simpa [RC] using h1⟩
theorem openL16 (ht : P.underlying t = some (.slice e)) (he : P.underlying e = some (.int .u16)) (hc : P.cellsOf e = 1) (hval : Value.okWide P w r b0 t v) (hd : DataW.Trod enc P w base sp held t v d ps) :
    ∃ xs : List UInt16, RV mTop w (.rb 1 (.wh xs)) v ∧ xs.length ≤ 9223372036854775807 := by
  obtain ⟨a, len, cap, rfl⟩ := okWide_slice ht hval
  obtain ⟨fuel, hf⟩ := hd
  rw [cells_oneO (by simp)] at hf
  obtain ⟨xs, ad, cap', h1, h2, h3, h4, hq⟩ := sl_of ht hc (elt_u16 he) _ _ _ _ _ _ _ _ hf
  simp only [List.cons.injEq, and_true, Value.slice.injEq] at h1
  obtain ⟨rfl, rfl, rfl⟩ := h1
  refine ⟨xs, ?_, h3⟩
  simp only [RV, CR]
  exact ⟨_, _, _, xs.map E16, rfl, by simp [RC], by simp, h2, h4⟩
theorem openA32 {n : Nat} (ht : P.underlying t = some (.array n e)) (he : P.underlying e = some (.int .u32)) (hc : P.cellsOf e = 1) (hn : P.cellsOf t = n) (hval : Value.okWide P w r b0 t v) (hd : DataW.Trod enc P w base sp held t v d ps) :
    ∃ xs : List UInt32, RV mTop w (.ag n (.wd xs)) v ∧ xs.length = n := by
  obtain ⟨cs, rfl, hcs⟩ : ∃ cs, v = .agg cs ∧ cs.size = P.cellsOf t := by
    simp only [Value.okWide, ht] at hval
    obtain ⟨cs, h1, h2, _⟩ := hval
    exact ⟨cs, h1, h2⟩
  obtain ⟨fuel, hf⟩ := hd
  obtain ⟨xs, h1, h2, hq⟩ := arr_of ht hc hn (elt_u32 he) _ _ _ _ _ _ _ _ hf
  refine ⟨xs, ?_, h2⟩
  simp only [RV]
  have h1 : cs.toList = xs.map E32 := h1
  exact ⟨cs.toList, by simp, by simp [h1, h2], by simpa [RC] using h1⟩
theorem openL32 (ht : P.underlying t = some (.slice e)) (he : P.underlying e = some (.int .u32)) (hc : P.cellsOf e = 1) (hval : Value.okWide P w r b0 t v) (hd : DataW.Trod enc P w base sp held t v d ps) :
    ∃ xs : List UInt32, RV mTop w (.rb 1 (.wd xs)) v ∧ xs.length ≤ 9223372036854775807 := by
  obtain ⟨a, len, cap, rfl⟩ := okWide_slice ht hval
  obtain ⟨fuel, hf⟩ := hd
  rw [cells_oneO (by simp)] at hf
  obtain ⟨xs, ad, cap', h1, h2, h3, h4, hq⟩ := sl_of ht hc (elt_u32 he) _ _ _ _ _ _ _ _ hf
  simp only [List.cons.injEq, and_true, Value.slice.injEq] at h1
  obtain ⟨rfl, rfl, rfl⟩ := h1
  refine ⟨xs, ?_, h3⟩
  simp only [RV, CR]
  exact ⟨_, _, _, xs.map E32, rfl, by simp [RC], by simp, h2, h4⟩
theorem openA64 {n : Nat} (ht : P.underlying t = some (.array n e)) (he : P.underlying e = some (.int .u64)) (hc : P.cellsOf e = 1) (hn : P.cellsOf t = n) (hval : Value.okWide P w r b0 t v) (hd : DataW.Trod enc P w base sp held t v d ps) :
    ∃ xs : List UInt64, RV mTop w (.ag n (.ww xs)) v ∧ xs.length = n := by
  obtain ⟨cs, rfl, hcs⟩ : ∃ cs, v = .agg cs ∧ cs.size = P.cellsOf t := by
    simp only [Value.okWide, ht] at hval
    obtain ⟨cs, h1, h2, _⟩ := hval
    exact ⟨cs, h1, h2⟩
  obtain ⟨fuel, hf⟩ := hd
  obtain ⟨xs, h1, h2, hq⟩ := arr_of ht hc hn (elt_u64 he) _ _ _ _ _ _ _ _ hf
  refine ⟨xs, ?_, h2⟩
  simp only [RV]
  have h1 : cs.toList = xs.map E64 := h1
  exact ⟨cs.toList, by simp, by simp [h1, h2], by simpa [RC] using h1⟩
theorem openL64 (ht : P.underlying t = some (.slice e)) (he : P.underlying e = some (.int .u64)) (hc : P.cellsOf e = 1) (hval : Value.okWide P w r b0 t v) (hd : DataW.Trod enc P w base sp held t v d ps) :
    ∃ xs : List UInt64, RV mTop w (.rb 1 (.ww xs)) v ∧ xs.length ≤ 9223372036854775807 := by
  obtain ⟨a, len, cap, rfl⟩ := okWide_slice ht hval
  obtain ⟨fuel, hf⟩ := hd
  rw [cells_oneO (by simp)] at hf
  obtain ⟨xs, ad, cap', h1, h2, h3, h4, hq⟩ := sl_of ht hc (elt_u64 he) _ _ _ _ _ _ _ _ hf
  simp only [List.cons.injEq, and_true, Value.slice.injEq] at h1
  obtain ⟨rfl, rfl, rfl⟩ := h1
  refine ⟨xs, ?_, h3⟩
  simp only [RV, CR]
  exact ⟨_, _, _, xs.map E64, rfl, by simp [RC], by simp, h2, h4⟩
theorem openAI {n : Nat} (ht : P.underlying t = some (.array n e)) (he : P.underlying e = some (.int .i64)) (hc : P.cellsOf e = 1) (hn : P.cellsOf t = n) (hval : Value.okWide P w r b0 t v) (hd : DataW.Trod enc P w base sp held t v d ps) :
    ∃ xs : List Int, RV mTop w (.ag n (.is xs)) v ∧ xs.length = n ∧ ∀ x ∈ xs, -9223372036854775808 ≤ x ∧ x ≤ 9223372036854775807 := by
  obtain ⟨cs, rfl, hcs⟩ : ∃ cs, v = .agg cs ∧ cs.size = P.cellsOf t := by
    simp only [Value.okWide, ht] at hval
    obtain ⟨cs, h1, h2, _⟩ := hval
    exact ⟨cs, h1, h2⟩
  obtain ⟨fuel, hf⟩ := hd
  obtain ⟨xs, h1, h2, hq⟩ := arr_of ht hc hn (elt_i64 he) _ _ _ _ _ _ _ _ hf
  refine ⟨xs, ?_, h2, hq⟩
  simp only [RV]
  have h1 : cs.toList = xs.map EI := h1
  exact ⟨cs.toList, by simp, by simp [h1, h2], by simpa [RC] using h1⟩
theorem openLI (ht : P.underlying t = some (.slice e)) (he : P.underlying e = some (.int .i64)) (hc : P.cellsOf e = 1) (hval : Value.okWide P w r b0 t v) (hd : DataW.Trod enc P w base sp held t v d ps) :
    ∃ xs : List Int, RV mTop w (.rb 1 (.is xs)) v ∧ xs.length ≤ 9223372036854775807 ∧ ∀ x ∈ xs, -9223372036854775808 ≤ x ∧ x ≤ 9223372036854775807 := by
  obtain ⟨a, len, cap, rfl⟩ := okWide_slice ht hval
  obtain ⟨fuel, hf⟩ := hd
  rw [cells_oneO (by simp)] at hf
  obtain ⟨xs, ad, cap', h1, h2, h3, h4, hq⟩ := sl_of ht hc (elt_i64 he) _ _ _ _ _ _ _ _ hf
  simp only [List.cons.injEq, and_true, Value.slice.injEq] at h1
  obtain ⟨rfl, rfl, rfl⟩ := h1
  refine ⟨xs, ?_, h3, hq⟩
  simp only [RV, CR]
  exact ⟨_, _, _, xs.map EI, rfl, by simp [RC], by simp, h2, h4⟩
theorem openAS {n : Nat} (ht : P.underlying t = some (.array n e)) (he : P.underlying e = some (.string)) (hc : P.cellsOf e = 1) (hn : P.cellsOf t = n) (hval : Value.okWide P w r b0 t v) (hd : DataW.Trod enc P w base sp held t v d ps) :
    ∃ xs : List (List UInt8), RV mTop w (.ag n (.ss xs)) v ∧ xs.length = n ∧ ∀ x ∈ xs, x.length ≤ 9223372036854775807 := by
  obtain ⟨cs, rfl, hcs⟩ : ∃ cs, v = .agg cs ∧ cs.size = P.cellsOf t := by
    simp only [Value.okWide, ht] at hval
    obtain ⟨cs, h1, h2, _⟩ := hval
    exact ⟨cs, h1, h2⟩
  obtain ⟨fuel, hf⟩ := hd
  obtain ⟨xs, h1, h2, hq⟩ := arr_of ht hc hn (elt_str he) _ _ _ _ _ _ _ _ hf
  refine ⟨xs, ?_, h2, hq⟩
  simp only [RV]
  have h1 : cs.toList = xs.map ES := h1
  exact ⟨cs.toList, by simp, by simp [h1, h2], by simpa [RC] using h1⟩
theorem openLS (ht : P.underlying t = some (.slice e)) (he : P.underlying e = some (.string)) (hc : P.cellsOf e = 1) (hval : Value.okWide P w r b0 t v) (hd : DataW.Trod enc P w base sp held t v d ps) :
    ∃ xs : List (List UInt8), RV mTop w (.rb 1 (.ss xs)) v ∧ xs.length ≤ 9223372036854775807 ∧ ∀ x ∈ xs, x.length ≤ 9223372036854775807 := by
  obtain ⟨a, len, cap, rfl⟩ := okWide_slice ht hval
  obtain ⟨fuel, hf⟩ := hd
  rw [cells_oneO (by simp)] at hf
  obtain ⟨xs, ad, cap', h1, h2, h3, h4, hq⟩ := sl_of ht hc (elt_str he) _ _ _ _ _ _ _ _ hf
  simp only [List.cons.injEq, and_true, Value.slice.injEq] at h1
  obtain ⟨rfl, rfl, rfl⟩ := h1
  refine ⟨xs, ?_, h3, hq⟩
  simp only [RV, CR]
  exact ⟨_, _, _, xs.map ES, rfl, by simp [RC], by simp, h2, h4⟩
end
theorem rvs_cons {m : Hd} {a : AV} {v : Value} {l : List AV} {vs : List Value} (h : RV m w a v) (hs : RVs m w l vs) : RVs m w (a :: l) (v :: vs) := ⟨v, vs, rfl, h, hs⟩
theorem rvs_nil {m : Hd} : RVs m w [] [] := rfl
/-! ## A law's end -/
theorem trodAll_stays {H : Type} {enc : TypeId × Value → H} {W W' : World} (hl : laidOutB P = true) (hb : Below W.heap.size W W') :
    ∀ {ts : List TypeId} {vs : List Value} {ds : List (DataW H)} {ps : List MemPlace}, (ts.all fun t => P.readableRec t && decide (t < P.types.size)) = true →
      DataW.TrodAll enc P W 0 (fun _ => true) true ts vs ds ps → DataW.TrodAll enc P W' 0 (fun b => decide (b < W.heap.size)) true ts vs ds ps
  | [], [], [], _, _, h => h
  | t :: ts, v :: vs, d :: ds, ps, hr, h => by
    have hlt := h.lt
    obtain ⟨p, q, h1, h2, rfl⟩ := h
    simp only [List.all_cons, Bool.and_eq_true, decide_eq_true_eq] at hr
    exact ⟨p, q, Below.trod hl hr.1.1 hr.1.2 h1 hb fun x hx => hlt x (List.mem_append_left _ hx), trodAll_stays hl hb hr.2 h2, rfl⟩
  | [], [], _ :: _, _, _, h => h.elim
  | [], _ :: _, _, _, _, h => h.elim
  | _ :: _, [], _, _, _, h => h.elim
  | _ :: _, _ :: _, [], _, _, h => h.elim
theorem post_true {H : Type} {enc : TypeId × Value → H} {f : Func} {s : ChangeSpec} {W W' : World} {args : Array Value} {ds gs : List (DataW H)} {before : List MemPlace} {tb : TypeId}
    (hl : laidOutB P = true) (hr : (f.params.toList.all fun t => P.readableRec t && decide (t < P.types.size)) = true) (hrt : f.resultTypes = #[tb]) (hb : P.underlying tb = some .bool) (hsv : s.vars = [])
    (hW : DataW.Whole enc P f.params.toList s.vars false W args.toList ds gs before) (hfn : s.fn H (ds ++ []) = ⟨[.lit (.bool true)], ds, []⟩) (hk : Below W.heap.size W W') :
    s.post enc P f false true false false W args (.bool true) W' := by
  have hW' := hW
  obtain ⟨p, q, hA, hV, rfl, _, _⟩ := hW
  rw [hsv] at hV
  obtain ⟨rfl, rfl⟩ := trodVars_none hV
  refine ⟨ds, [], _, [], p, [], hW', ?_, ?_, ?_, hk.frame _, fun h => by cases h⟩
  · rw [hfn, hrt]
    exact trodAll_mk1 (shut_bool hb _)
  · rw [hfn]
    exact trodAll_stays hl hk hr hA
  · rw [hfn, hsv]
    rfl
/-- a law's walk, from the conditions of its code -/
theorem law_walk2 {x : Cx} {an cu : Anns} (hx : XOK P x) (hmx : P.follows .mixedOrders = true) {f : Nat} {fn : Func} {body : Code} (hf : P.funcs[f]? = some fn) (hbd : fn.body = some body) (hn : fn.ntmps = x.nt) (hdr : drawsOk x.tt x.dr body = true)
    {l : List AV} {vals : List Value} {w : World} (hl : llen l ≤ x.nt) (hv : RVs mTop w l vals) (hvc : vc real x an cu body ⟨zipSl 0 l, [], 64⟩ (retOk real x.tt false fn.results.toList [.val (.b true)])) :
    Calls P f vals.toArray w fun e w' => e = .returned (.bool true) ∧ Below w.heap.size w w' := by
  have hlen := RVs_length hv
  rw [llen_eq] at hl
  let E : Env := ⟨w, [], fun _ => True, none, [], fun _ => False⟩
  have hr : StR E x.nt ⟨zipSl 0 l, [], 64⟩ mTop { tmps := vals.toArray ++ Array.replicate (fn.ntmps - vals.toArray.size) undef, defers := [] } w :=
    ⟨entry_sl hv _, ⟨fun k ab h => (by cases h), fun k k' ab ab' v v' b h => (by cases h), fun b h => h.elim, fun k ab v b h => (by cases h), fun k ab v b h => (by cases h), fun _ _ => trivial⟩, fun k v b hk => (by cases hk), fun k _ => rfl, (by simp; omega), rfl,
      ⟨rfl, rfl, rfl, Nat.le_refl _, rfl, fun _ _ _ => rfl, fun k v b hk => (by cases hk), fun m0 w1 he => (by cases he), fun j v hj => (by cases hj), fun b h => h.elim, fun b h => h.elim⟩⟩
  refine calls_of_wp hf hbd (code_mono (vc_sound hx (fun j v hj => (by cases hj)) (.inl rfl) hmx body _ _ hdr hvc _ _ w hr) ?_)
  intro en a w' hp
  refine ends_sound hx.tt (fun l vs s' m1 w1 k1 k2 k3 => ?_) hp
  cases l with
  | nil => simp [retM] at k2
  | cons b r =>
    cases r with
    | cons c r => simp [retM, AV.nk] at k2
    | nil =>
      simp only [retM, AV.nk, and_true] at k2
      simp only [RVs] at k1
      obtain ⟨v, q, rfl, h1, rfl⟩ := k1
      have := RV_le b (.b true) v k2 (fun h => by cases h) h1
      simp only [RV, CR, List.cons.injEq, and_true] at this
      subst this
      exact ⟨rfl, k3.fr.os, k3.fr.tape, k3.fr.output, k3.fr.size, fun b hb => k3.fr.block b hb (fun h => by cases h)⟩
end
end Go.Vc
set_option linter.unusedVariables false
set_option linter.unusedSimpArgs false
namespace Go.Vc
open Go Go.RowKit Go.ChangeShapes Go.WideShapes
/-! ## What is handed, opened by the shape of its type -/
section
variable (P : Program)
mutual
/-- a type of this shape -/
def ShT : Sh → TypeId → Prop
  | .i, t => P.underlying t = some (.int .i64)
  | .w8, t => P.underlying t = some (.int .u8)
  | .w32, t => P.underlying t = some (.int .u32)
  | .w64, t => P.underlying t = some (.int .u64)
  | .b, t => P.underlying t = some .bool
  | .s, t => P.underlying t = some .string
  | .l8 n, t => ∃ e, P.underlying t = some (.array n e) ∧ P.underlying e = some (.int .u8) ∧ P.cellsOf e = 1 ∧ P.cellsOf t = n
  | .ss, t => ∃ e, P.underlying t = some (.slice e) ∧ P.underlying e = some .string ∧ P.cellsOf e = 1
  | .bs, t => ∃ e, P.underlying t = some (.slice e) ∧ P.underlying e = some (.int .u8) ∧ P.cellsOf e = 1
  | .t l, t => ∃ fs, P.underlying t = some (.struct fs) ∧ P.cellsOf t = Sh.lcells l ∧ ShTs l fs.toList 0
  | .sl sh, t => ∃ e, P.underlying t = some (.slice e) ∧ P.cellsOf e = sh.cells ∧ 0 < sh.cells ∧ ShT sh e
def ShTs : List Sh → List Field → Nat → Prop
  | [], [], _ => True
  | a :: l, f :: fs, o => f.offset = o ∧ P.cellsOf f.type = a.cells ∧ ShT a f.type ∧ ShTs l fs (o + a.cells)
  | _, _, _ => False
end
end
mutual
/-- data of this shape, within a machine's bounds -/
def DF : Sh → D → Prop
  | .i, d => ∃ n, d = .i n ∧ -9223372036854775808 ≤ n ∧ n ≤ 9223372036854775807
  | .w8, d => ∃ x, d = .w8 x
  | .w32, d => ∃ x, d = .w32 x
  | .w64, d => ∃ x, d = .w64 x
  | .b, d => ∃ x, d = .b x
  | .s, d => ∃ x, d = .s x ∧ x.length ≤ 9223372036854775807
  | .l8 n, d => ∃ x, d = .l8 x ∧ x.length = n
  | .ss, d => ∃ x, d = .ss x ∧ x.length ≤ 9223372036854775807 ∧ ∀ y ∈ x, y.length ≤ 9223372036854775807
  | .bs, d => ∃ x, d = .l8 x ∧ x.length ≤ 9223372036854775807
  | .t l, d => ∃ ds, d = .t ds ∧ DFs l ds
  | .sl sh, d => ∃ ds, d = .t ds ∧ ds.length ≤ 9223372036854775807 ∧ ∀ x, x ∈ ds → DF sh x
def DFs : List Sh → List D → Prop
  | [], [] => True
  | a :: l, d :: ds => DF a d ∧ DFs l ds
  | _, _ => False
end
section
variable {P : Program} {w : World}
theorem sl_sh {sh : Sh} {t e : TypeId} (ht : P.underlying t = some (.slice e)) (hc : P.cellsOf e = sh.cells) (h0 : 0 < sh.cells)
    (hE : ∀ (H : Type) (enc : TypeId × Value → H) (base : Nat) (sp : Nat → Bool) (held : Bool) (fuel : Nat) (cs : List Value) (x : DataW H × List MemPlace), DataW.trod enc P w base sp held fuel e cs = some x → ∃ d, DF sh d ∧ DR mTop w sh d cs)
    (H : Type) (enc : TypeId × Value → H) (base : Nat) (sp : Nat → Bool) (held : Bool) (fuel : Nat) (cs : List Value) (x : DataW H × List MemPlace)
    (h : DataW.trod enc P w base sp held fuel t cs = some x) :
    ∃ (ds : List D) (ad : Option Addr) (cap : Nat) (css : List (List Value)), cs = [.slice ad ds.length cap] ∧ ds.length ≤ cap ∧ ds.length ≤ 9223372036854775807 ∧ css.length = ds.length ∧
      (∀ (j : Nat) (x : List Value) (y : D), css[j]? = some x → ds[j]? = some y → x.length = sh.cells ∧ DR mTop w sh y x) ∧ css.flatten.length = ds.length * sh.cells ∧ (0 < ds.length → ∃ a, ad = some a ∧ StableAt mTop w a css.flatten) ∧ ∀ x, x ∈ ds → DF sh x := by
  rcases DataW.trod_slice ht h with ⟨rfl, _⟩ | ⟨a, len, cap, elems, rest, m, rfl, rfl, rfl, _, hl, hm, hlen, hel, _⟩
  · exact ⟨[], none, 0, [], rfl, by simp, by simp, rfl, by simp, by simp, by simp, by simp⟩
  · have key : ∀ k, k ≤ len → ∃ (ds : List D) (css : List (List Value)), ds.length = k ∧ css.length = k ∧ (∀ (j : Nat) (x : List Value), css[j]? = some x → x.length = sh.cells) ∧ (∀ (j : Nat) (x : List Value) (y : D), css[j]? = some x → ds[j]? = some y → DR mTop w sh y x) ∧
        (∀ (j : Nat) x, css.flatten[j]? = some x → w.cell? (a.add j) = some x) ∧ ∀ x, x ∈ ds → DF sh x := by
      intro k
      induction k with
      | zero => exact fun _ => ⟨[], [], rfl, rfl, by simp, by simp, by simp, by simp⟩
      | succ k ih =>
        intro hk
        obtain ⟨ds, css, h1, h2, h3, h4, h5, h6⟩ := ih (by omega)
        have h7 := hel k (by omega)
        rw [List.getElem?_eq_getElem (by omega), hc, Option.bind_eq_some_iff] at h7
        obtain ⟨cs', hcs, hy⟩ := h7
        obtain ⟨d, hd1, hd2⟩ := hE H enc base sp held m _ _ hy
        have hdl := DR_len sh d cs' hd2
        obtain ⟨_, hn, hcell⟩ := World.cells?_some hcs
        have hfl := flat_len h3
        refine ⟨ds ++ [d], css ++ [cs'], by simp [h1], by simp [h2], fun j x hj => ?_, fun j x y hj hj' => ?_, fun j x hj => ?_, fun x hx => ?_⟩
        · rw [List.getElem?_append] at hj
          split at hj
          · exact h3 j x hj
          · have := List.mem_of_getElem? hj
            simp at this; rw [this]; exact hdl
        · rw [List.getElem?_append] at hj hj'
          rw [h2] at hj
          rw [h1] at hj'
          by_cases hlt : j < k
          · rw [if_pos hlt] at hj hj'
            exact h4 j x y hj hj'
          · rw [if_neg hlt] at hj hj'
            have e1 := List.mem_of_getElem? hj
            have e2 := List.mem_of_getElem? hj'
            simp at e1 e2
            rw [e1, e2]; exact hd2
        · rw [List.flatten_append, List.getElem?_append] at hj
          split at hj
          · exact h5 j x hj
          · rename_i hlt
            rw [hfl, h2] at hj hlt
            simp only [List.flatten_cons, List.flatten_nil, List.append_nil] at hj
            have hjl := (List.getElem?_eq_some_iff.1 hj).1
            have := hcell (j - k * sh.cells) (by omega)
            rw [hj, add_add_at, show k * sh.cells + (j - k * sh.cells) = j by omega] at this
            exact this
        · rcases List.mem_append.1 hx with hx | hx
          · exact h6 x hx
          · simp at hx; rw [hx]; exact hd1
    obtain ⟨ds, css, h1, h2, h3, h4, h5, h6⟩ := key len (Nat.le_refl _)
    have hfl := flat_len h3
    refine ⟨ds, some a, cap, css, by rw [h1], by omega, by simp [maxLen] at hm; omega, by omega, fun j x y hx hy => ⟨h3 j x hx, h4 j x y hx hy⟩, by rw [hfl, h2, h1], fun hn => ⟨a, rfl, stableAtTop ?_ h5⟩, h6⟩
    rw [hfl, h2]
    exact Nat.mul_pos (by omega) h0
mutual
theorem elt_sh : ∀ (sh : Sh) (t : TypeId), ShT P sh t → ∀ (H : Type) (enc : TypeId × Value → H) (base : Nat) (sp : Nat → Bool) (held : Bool) (fuel : Nat) (cs : List Value) (x : DataW H × List MemPlace),
    DataW.trod enc P w base sp held fuel t cs = some x → ∃ d, DF sh d ∧ DR mTop w sh d cs
  | .i, t, ht, H, enc, base, sp, held, fuel, cs, x, h => by
    obtain ⟨a, rfl, hq⟩ := elt_i64 (w := w) ht _ _ _ _ _ _ _ _ h
    exact ⟨.i a, ⟨a, rfl, hq⟩, by simp [DR, D.gi]⟩
  | .w8, t, ht, H, enc, base, sp, held, fuel, cs, x, h => by
    obtain ⟨a, rfl, hq⟩ := elt_u8 (w := w) ht _ _ _ _ _ _ _ _ h
    exact ⟨.w8 a, ⟨a, rfl⟩, by simp [DR, D.g8]⟩
  | .w32, t, ht, H, enc, base, sp, held, fuel, cs, x, h => by
    obtain ⟨a, rfl, hq⟩ := elt_u32 (w := w) ht _ _ _ _ _ _ _ _ h
    exact ⟨.w32 a, ⟨a, rfl⟩, by simp [DR, D.g32]⟩
  | .w64, t, ht, H, enc, base, sp, held, fuel, cs, x, h => by
    obtain ⟨a, rfl, hq⟩ := elt_u64 (w := w) ht _ _ _ _ _ _ _ _ h
    exact ⟨.w64 a, ⟨a, rfl⟩, by simp [DR, D.g64]⟩
  | .b, t, ht, H, enc, base, sp, held, fuel, cs, x, h => by
    obtain ⟨a, rfl, hq⟩ := elt_bool (w := w) ht _ _ _ _ _ _ _ _ h
    exact ⟨.b a, ⟨a, rfl⟩, by simp [DR, D.gb]⟩
  | .s, t, ht, H, enc, base, sp, held, fuel, cs, x, h => by
    obtain ⟨a, rfl, hq⟩ := elt_str (w := w) ht _ _ _ _ _ _ _ _ h
    exact ⟨.s a, ⟨a, rfl, hq⟩, by simp [DR, D.gs]⟩
  | .l8 n, t, ht, H, enc, base, sp, held, fuel, cs, x, h => by
    obtain ⟨e, h1, h2, h3, h4⟩ := ht
    obtain ⟨xs, rfl, hl, _⟩ := arr_of (w := w) h1 h3 h4 (elt_u8 h2) _ _ _ _ _ _ _ _ h
    exact ⟨.l8 xs, ⟨xs, rfl, hl⟩, by simp [DR, D.gl8, hl]⟩
  | .ss, t, ht, H, enc, base, sp, held, fuel, cs, x, h => by
    obtain ⟨e, h1, h2, h3⟩ := ht
    obtain ⟨xs, ad, cap, rfl, h4, h5, h6, h7⟩ := sl_of (w := w) h1 h3 (elt_str h2) _ _ _ _ _ _ _ _ h
    exact ⟨.ss xs, ⟨xs, rfl, h5, h7⟩, by simp only [DR, D.gss]; exact ⟨ad, _, cap, _, rfl, rfl, by simp, h4, h6⟩⟩
  | .bs, t, ht, H, enc, base, sp, held, fuel, cs, x, h => by
    obtain ⟨e, h1, h2, h3⟩ := ht
    obtain ⟨xs, ad, cap, rfl, h4, h5, h6, h7⟩ := sl_of (w := w) h1 h3 (elt_u8 h2) _ _ _ _ _ _ _ _ h
    exact ⟨.l8 xs, ⟨xs, rfl, h5⟩, by simp only [DR, D.gl8]; exact ⟨ad, _, cap, _, rfl, rfl, by simp, h4, h6⟩⟩
  | .t l, t, ht, H, enc, base, sp, held, fuel, cs, x, h => by
    obtain ⟨fs, h1, h2, h3⟩ := ht
    obtain ⟨xs, n, rfl, rfl, hl, hlen, hf⟩ := DataW.trod_struct h1 h
    obtain ⟨ds, g1, g2⟩ := elts_sh l fs.toList 0 h3 H enc base sp held n cs (fun i f hi => by
      have hi' : fs[i]? = some f := by simpa using hi
      have := hf i f hi'
      have hif := (Array.getElem?_eq_some_iff.1 hi').1
      exact ⟨xs[i]'(by omega), by rw [this, List.getElem?_eq_getElem (by omega)]⟩)
    refine ⟨.t ds, ⟨ds, rfl, g1⟩, ?_⟩
    have := g2 (.t ds) 0 (fun i => by simp [D.fld, D.gt])
    rw [List.drop_zero, List.take_of_length_le (by omega)] at this
    simpa only [DR] using this
  | .sl sh, t, ht, H, enc, base, sp, held, fuel, cs, x, h => by
    obtain ⟨e, h1, h2, h3, h4⟩ := ht
    obtain ⟨ds, ad, cap, css, rfl, g1, g2, g3, g4, g5, g6, g7⟩ := sl_sh (w := w) h1 h2 h3 (elt_sh sh e h4) _ _ _ _ _ _ _ _ h
    refine ⟨.t ds, ⟨ds, rfl, g2, g7⟩, ?_⟩
    simp only [DR, D.gt]
    exact ⟨ad, _, cap, _, rfl, ⟨css, g3, rfl, g4⟩, g5, g1, g6⟩
theorem elts_sh : ∀ (l : List Sh) (fs : List Field) (o : Nat), ShTs P l fs o → ∀ (H : Type) (enc : TypeId × Value → H) (base : Nat) (sp : Nat → Bool) (held : Bool) (fuel : Nat) (cs : List Value),
    (∀ (i : Nat) (f : Field), fs[i]? = some f → ∃ y, DataW.trod enc P w base sp held fuel f.type ((cs.drop f.offset).take (P.cellsOf f.type)) = some y) →
    ∃ ds, DFs l ds ∧ ∀ (d : D) (j0 : Nat), (∀ i, d.fld (j0 + i) = ds.getD i D.no) → DRs mTop w l d j0 ((cs.drop o).take (Sh.lcells l))
  | [], fs, o, ht, H, enc, base, sp, held, fuel, cs, h => ⟨[], by simp [DFs], fun d j0 _ => by simp [DRs, Sh.lcells]⟩
  | a :: l, fs, o, ht, H, enc, base, sp, held, fuel, cs, h => by
    cases fs with
    | nil => exact (show False from ht).elim
    | cons f fs =>
      obtain ⟨h1, h2, h3, h4⟩ := ht
      obtain ⟨y, hy⟩ := h 0 f rfl
      rw [h1, h2] at hy
      obtain ⟨d, g1, g2⟩ := elt_sh a f.type h3 H enc base sp held fuel _ _ hy
      obtain ⟨ds, k1, k2⟩ := elts_sh l fs (o + a.cells) h4 H enc base sp held fuel cs (fun i f' hi => h (i + 1) f' (by simpa using hi))
      refine ⟨d :: ds, ⟨g1, k1⟩, fun d0 j0 hd => ?_⟩
      simp only [DRs, Sh.lcells]
      refine ⟨(cs.drop o).take a.cells, (cs.drop (o + a.cells)).take (Sh.lcells l), ?_, ?_, ?_⟩
      · rw [List.take_add, List.drop_drop]
      · have := hd 0
        rw [Nat.add_zero] at this
        rw [this]; exact g2
      · refine k2 d0 (j0 + 1) (fun i => ?_)
        have := hd (i + 1)
        rw [show j0 + 1 + i = j0 + (i + 1) by omega, this]
        simp
end
section
variable {H : Type} {enc : TypeId × Value → H} {base b0 : Nat} {sp : Nat → Bool} {held : Bool} {t e : TypeId} {v : Value} {d : DataW H} {ps : List MemPlace} {r : Reach}
/-- a slice of elements of a shape -/
theorem openLD {sh : Sh} (ht : P.underlying t = some (.slice e)) (hc : P.cellsOf e = sh.cells) (h0 : 0 < sh.cells) (hs : ShT P sh e) (hval : Value.okWide P w r b0 t v) (hd : DataW.Trod enc P w base sp held t v d ps) :
    ∃ xs : List D, RV mTop w (.rb sh.cells (.ds sh xs)) v ∧ xs.length ≤ 9223372036854775807 ∧ ∀ x ∈ xs, DF sh x := by
  obtain ⟨a, len, cap, rfl⟩ := okWide_slice ht hval
  obtain ⟨fuel, hf⟩ := hd
  rw [cells_oneO (by simp)] at hf
  obtain ⟨ds, ad, cap', css, h1, h2, h3, h4, h5, h6, h7, h8⟩ := sl_sh (w := w) ht hc h0 (elt_sh sh e hs) _ _ _ _ _ _ _ _ hf
  simp only [List.cons.injEq, and_true, Value.slice.injEq] at h1
  obtain ⟨rfl, rfl, rfl⟩ := h1
  refine ⟨ds, ?_, h3, h8⟩
  simp only [RV, CR]
  exact ⟨_, _, _, css.flatten, rfl, by simp only [RC]; exact ⟨css, h4, rfl, h5⟩, h6, h2, h7⟩
end
end
end Go.Vc
set_option linter.unusedVariables false
set_option linter.unusedSimpArgs false
set_option maxRecDepth 100000
set_option maxHeartbeats 1000000
namespace Go.Proofs.Ytmldccfchnlpgaa
open Go Go.Vc
theorem prs_self (l : List D) : us.prs l l = true := by
  show u_prs l l = true
  unfold u_prs
  rw [decide_eq_true rfl, Bool.true_and, List.all_eq_true]
  intro j _
  unfold pairEq
  simp
theorem sam_self (a : List (List UInt8)) (x : List UInt32) : us.sam a x a x = true := (sam_yes rfl rfl).symm
theorem rl_two (b : List UInt8) : (us.rlE b = 0 ∨ us.rlE b = 90) ∧ (us.rlB b).length ≤ 1000000000000 := by
  by_cases h : ∃ l, goodL l b
  · obtain ⟨l, hl⟩ := h
    refine ⟨.inl (l_some hl).2, ?_⟩
    rw [(l_some hl).1]
    have h1 := (good_run hl).1
    have h2 := (good_head hl).2.2.2
    omega
  · have h2 := l_none (b := b) (fun l hl => h ⟨l, hl⟩)
    refine ⟨.inr h2.2.symm, ?_⟩
    rw [h2.1]; exact Nat.zero_le _
theorem rb_two (b : List UInt8) : (us.rbE b = 0 ∨ us.rbE b = 90) ∧ (us.rbK b).length ≤ 1000000000000 ∧ (us.rbQ b).length ≤ 1000000000000 := by
  by_cases h : ∃ l, goodB l b
  · obtain ⟨l, hl⟩ := h
    have h1 := (goodB_run hl).1
    have h2 := (goodB_head hl).2.2.2
    have h3 := (goodB_run hl).2.1
    refine ⟨.inl (b_some hl).2.2, ?_, ?_⟩
    · rw [(b_some hl).1]; omega
    · rw [(b_some hl).2.1]; omega
  · have h2 := b_none (b := b) (fun l hl => h ⟨l, hl⟩)
    refine ⟨.inr h2.2.2.symm, ?_, ?_⟩
    · rw [h2.1]; exact Nat.zero_le _
    · rw [h2.2.1]; exact Nat.zero_le _
theorem two_e {e : Int} (h : e = 0 ∨ e = 90) (h1 : ¬ real.pB (real.eqi e (real.int 0)) true) : real.pB (real.eqi e (real.int 90)) true := by
  rcases h with rfl | rfl
  · exact absurd rfl h1
  · rfl
theorem eqb_self (x : Bool) : real.pB (real.eqb x x) true := by cases x <;> rfl
theorem isPair_of {l : List D} (h : ∀ x, x ∈ l → DF (.t [.s, .s]) x) : ∀ x ∈ l, isPair x := by
  intro x hx
  obtain ⟨ds, rfl, h1⟩ := h x hx
  match ds, h1 with
  | [a, b], h1 =>
    obtain ⟨⟨k, rfl, _⟩, ⟨v, rfl, _⟩, _⟩ := h1
    exact ⟨k, v, rfl⟩
theorem bno_e {e : Int} (h : real.int 90 = e) : real.pB (real.notb (real.eqi e (real.int 0))) true := by rw [← h]; rfl
theorem leaf_long (l : List D) : (u_leafB l).length ≤ 480 := by
  unfold u_leafB
  split
  · rename_i h
    obtain ⟨hok, hs, hn⟩ := leaf_parts h
    have := leafP_len l.length hok (by omega)
    omega
  · exact Nat.zero_le _
theorem br_long (ks : List (List UInt8)) (kids : List UInt32) : (u_brB ks kids).length ≤ 480 := by
  by_cases h : u_brE ks kids = 0
  · exact (goodB_head (p := (ks, kids)) ⟨h, rfl⟩).2.1
  · unfold u_brB
    rw [if_neg h]; exact Nat.zero_le _
/-- what is written is read; a byte more, a byte less is none -/
theorem leaf_back {l : List D} (hp : ∀ x ∈ l, isPair x) (hE : u_leafE l = 0) (more : UInt8) : us.rlE (u_leafB l) = 0 ∧ us.rlB (u_leafB l) = l ∧ us.rlE (u_leafB l ++ [more]) = 90 ∧ us.rlE ((u_leafB l).take ((u_leafB l).length - 1)) = 90 ∧ us.rbE (u_leafB l) = 90 ∧ ((u_leafB l).length : Int) = u_nsz l l.length ∧ 3 ≤ (u_leafB l).length := by
  have g : goodL l (u_leafB l) := ⟨hp, hE, rfl⟩
  have hh := good_head g
  refine ⟨(l_some g).2, (l_some g).1, ?_, ?_, ?_, ?_, hh.2.2.1⟩
  · exact (l_none (b := u_leafB l ++ [more]) fun m hm => by
      have := (leaf_pre hp hm.1 hE hm.2.1 hm.2.2).2
      cases this).2.symm
  · refine (l_none (b := (u_leafB l).take ((u_leafB l).length - 1)) fun m hm => ?_).2.symm
    have e : u_leafB l = u_leafB m ++ (u_leafB l).drop ((u_leafB l).length - 1) := by rw [hm.2.2, List.take_append_drop]
    have h2 := (leaf_pre hm.1 hp hm.2.1 hE e).2
    have h3 := congrArg List.length h2
    rw [List.length_drop] at h3
    have := hh.2.2.1
    simp at h3
    omega
  · exact (b_none (b := u_leafB l) fun p hm => by
      have h1 := (goodB_head hm).1
      rw [hh.1] at h1
      cases h1).2.2.symm
  · obtain ⟨hok, hs, hn⟩ := leaf_parts hE
    rw [leafB_eq hE]
    exact leafP_len l.length hok (by omega)
theorem br_back {ks : List (List UInt8)} {kids : List UInt32} (hE : u_brE ks kids = 0) : us.rbE (u_brB ks kids) = 0 ∧ us.rbK (u_brB ks kids) = ks ∧ us.rbQ (u_brB ks kids) = kids ∧ us.rlE (u_brB ks kids) = 90 := by
  have g : goodB (ks, kids) (u_brB ks kids) := ⟨hE, rfl⟩
  have hh := goodB_head g
  refine ⟨(b_some g).2.2, (b_some g).1, (b_some g).2.1, ?_⟩
  exact (l_none (b := u_brB ks kids) fun p hm => by
      have h1 := (good_head hm).1
      rw [hh.1] at h1
      cases h1).2.symm
theorem prs_iff {l m : List D} (hl : ∀ x ∈ l, isPair x) (hm : ∀ x ∈ m, isPair x) : u_prs l m = true ↔ l = m := by
  constructor
  · intro h
    unfold u_prs at h
    simp only [Bool.and_eq_true, decide_eq_true_eq, List.all_eq_true, List.mem_range] at h
    refine ext_getD (d := D.no) h.1 fun j hj => ?_
    have h2 := h.2 j hj
    have a1 : l.getD j D.no = l[j] := by rw [List.getD_eq_getElem?_getD, List.getElem?_eq_getElem hj]; rfl
    have a2 : m.getD j D.no = m[j]'(by omega) := by rw [List.getD_eq_getElem?_getD, List.getElem?_eq_getElem (by omega)]; rfl
    obtain ⟨k1, v1, e1⟩ := hl _ (List.getElem_mem hj)
    obtain ⟨k2, v2, e2⟩ := hm _ (List.getElem_mem (show j < m.length by omega))
    rw [a1, a2, e1, e2] at h2 ⊢
    have h3 : (k1 == k2 && (v1 == v2 && true)) = true := h2
    simp at h3
    rw [h3.1, h3.2]
  · intro h
    subst h
    exact prs_self l
theorem leaf_same {l m : List D} (hl : ∀ x ∈ l, isPair x) (hm : ∀ x ∈ m, isPair x) (el : u_leafE l = 0) (em : u_leafE m = 0) : (u_leafB l == u_leafB m) = u_prs l m := by
  have h : (u_leafB l == u_leafB m) = true ↔ u_prs l m = true := by
    rw [prs_iff hl hm, beq_iff_eq]
    constructor
    · intro e
      exact (leaf_pre (t := []) hm hl em el (by rw [List.append_nil]; exact e)).1.symm
    · intro e; rw [e]
  cases h1 : (u_leafB l == u_leafB m) <;> cases h2 : u_prs l m <;> simp_all
end Go.Proofs.Ytmldccfchnlpgaa
set_option linter.unusedVariables false
namespace Go.Vc
open Go Go.RowKit
/-- the closed facts of a row: what is asked of the whole program is handed in, the rest goes by reckoning -/
theorem joined_of {P : Program} {f : FuncId} {fn : Func} {s : ChangeSpec} {c : OpenClaim} (p1 : laidOutB P = true) (p2 : mapsRowed P = true) (p6 : P.stops = []) (p8 : P.stopKnobs = []) (p24 : P.stopsHeard = true) (p25 : P.mayEnter = true) (p26 : P.liftsFinal = false) (p27 : P.make = some .cut) (c26 : c.lifted = false) (c27 : c.make = .cut) (h0 : (c.wf (OpenSpec.ofChange s)) = true) (h3 : (fn.params.all (P.readableRec ·)) = true) (h4 : (namedTie P c.named s.vars) = true) (h5 : ((c.stops == [])) = true) (h7 : ((c.knobs == [])) = true) (h9 : ((c.inPlace == P.inPlace f)) = true) (h10 : ((c.unfollowed == P.unfollowed f)) = true) (h11 : ((c.recurses == P.recurses f)) = true) (h12 : ((c.named == P.varsNamed f)) = true) (h13 : ((c.maps == (fn.params.toList ++ s.plain.varTypes P).any (P.mapsRec ·))) = true) (h14 : ((c.ifaces == (fn.params.toList ++ s.plain.varTypes P).any (P.ifacesRec ·))) = true) (h15 : ((c.mapsOut == P.mapsAmong fn.resultTypes.toList)) = true) (h16 : ((c.loops == (fn.params.toList ++ s.plain.varTypes P).any (P.loopsFrom ·))) = true) (h17 : ((c.wideKeys == (fn.params.toList ++ s.plain.varTypes P ++ fn.resultTypes.toList).any (P.wideKeysFrom ·))) = true) (h18 : (s.vars.all (P.varReadable ·)) = true) (h19 : (fn.resultTypes.all (fun t => P.readableRec t && decide (t < P.types.size))) = true) (h20 : ((c.ifacesOut == fn.resultTypes.toList.any (P.ifacesRec ·))) = true) (h21 : ((c.loopsOut == fn.resultTypes.toList.any (P.loopsFrom ·))) = true) (h22 : ((c.plainKeys == P.plainKeys)) = true) (h23 : (c.shortTexts.isNone) = true) (h28 : ((c.kinds == (if c.domain.isEmpty then [] else fn.params.toList.map fun t => match P.underlying t with | some (.int k) => some k | _ => none))) = true) (h29 : ((c.pinned == c.pinnedBy)) = true) (h30 : ((c.veiled == (fn.params.toList ++ s.plain.varTypes P ++ fn.resultTypes.toList).any (P.veiledRec ·))) = true) (h31 : (c.veiledFits P fn.params.toList (fn.params.toList ++ s.plain.varTypes P ++ fn.resultTypes.toList)) = true) : joinedFacts P f fn s c = true := by
  unfold joinedFacts
  exact Bool.and_eq_true_iff.2 ⟨Bool.and_eq_true_iff.2 ⟨Bool.and_eq_true_iff.2 ⟨Bool.and_eq_true_iff.2 ⟨Bool.and_eq_true_iff.2 ⟨Bool.and_eq_true_iff.2 ⟨Bool.and_eq_true_iff.2 ⟨Bool.and_eq_true_iff.2 ⟨Bool.and_eq_true_iff.2 ⟨Bool.and_eq_true_iff.2 ⟨Bool.and_eq_true_iff.2 ⟨Bool.and_eq_true_iff.2 ⟨Bool.and_eq_true_iff.2 ⟨Bool.and_eq_true_iff.2 ⟨Bool.and_eq_true_iff.2 ⟨Bool.and_eq_true_iff.2 ⟨Bool.and_eq_true_iff.2 ⟨Bool.and_eq_true_iff.2 ⟨Bool.and_eq_true_iff.2 ⟨Bool.and_eq_true_iff.2 ⟨Bool.and_eq_true_iff.2 ⟨Bool.and_eq_true_iff.2 ⟨Bool.and_eq_true_iff.2 ⟨Bool.and_eq_true_iff.2 ⟨Bool.and_eq_true_iff.2 ⟨Bool.and_eq_true_iff.2 ⟨Bool.and_eq_true_iff.2 ⟨Bool.and_eq_true_iff.2 ⟨Bool.and_eq_true_iff.2 ⟨Bool.and_eq_true_iff.2 ⟨Bool.and_eq_true_iff.2 ⟨h0, p1⟩, p2⟩, h3⟩, h4⟩, h5⟩, (by rw [p6]; rfl)⟩, h7⟩, (by rw [p8]; rfl)⟩, h9⟩, h10⟩, h11⟩, h12⟩, h13⟩, h14⟩, h15⟩, h16⟩, h17⟩, h18⟩, h19⟩, h20⟩, h21⟩, h22⟩, h23⟩, p24⟩, p25⟩, (by rw [c26, p26]; rfl)⟩, (by rw [c27, p27]; rfl)⟩, h28⟩, h29⟩, h30⟩, h31⟩
end Go.Vc
set_option maxRecDepth 100000
namespace Go.Proofs.Ytmldccfchnlpgaa
open Go
/-- a sign by its number -/
abbrev kc (n : Nat) : Char := Char.ofNat n
theorem io_eq : Try.prog.initOrder = String.ofList [kc 104, kc 97, kc 114, kc 110, kc 101, kc 115, kc 115, kc 32, kc 97, kc 56, kc 50, kc 99, kc 49, kc 50, kc 50, kc 98, kc 48, kc 49, kc 102, kc 102, kc 56, kc 56, kc 99, kc 49, kc 51, kc 100, kc 97, kc 56, kc 53, kc 55, kc 54, kc 100, kc 56, kc 54, kc 52, kc 48, kc 102, kc 97, kc 48, kc 100, kc 54, kc 52, kc 57, kc 54, kc 50, kc 100, kc 54, kc 48, kc 48, kc 54, kc 98, kc 55, kc 101, kc 97, kc 53, kc 99, kc 98, kc 50, kc 97, kc 100, kc 98, kc 50, kc 49, kc 49, kc 56, kc 97, kc 48, kc 48, kc 48, kc 99, kc 48, kc 48, kc 32, kc 99, kc 117, kc 116, kc 32, kc 97, kc 116, kc 32, kc 115, kc 97, kc 99, kc 114, kc 105, kc 115, kc 116, kc 121, kc 47, kc 115, kc 97, kc 99, kc 114, kc 105, kc 115, kc 116, kc 121, kc 108, kc 97, kc 119, kc 52, kc 46, kc 83, kc 116, kc 114, kc 101, kc 97, kc 109, kc 84, kc 101, kc 108, kc 108, kc 115, kc 32, kc 115, kc 97, kc 99, kc 114, kc 105, kc 115, kc 116, kc 121, kc 47, kc 115, kc 97, kc 99, kc 114, kc 105, kc 115, kc 116, kc 121, kc 108, kc 97, kc 119, kc 50, kc 46, kc 83, kc 104, kc 97, kc 84, kc 101, kc 108, kc 108, kc 115, kc 32, kc 115, kc 97, kc 99, kc 114, kc 105, kc 115, kc 116, kc 121, kc 47, kc 115, kc 97, kc 99, kc 114, kc 105, kc 115, kc 116, kc 121, kc 108, kc 97, kc 119, kc 50, kc 46, kc 83, kc 104, kc 97, kc 72, kc 101, kc 120, kc 32, kc 115, kc 97, kc 99, kc 114, kc 105, kc 115, kc 116, kc 121, kc 47, kc 115, kc 97, kc 99, kc 114, kc 105, kc 115, kc 116, kc 121, kc 108, kc 97, kc 119, kc 50, kc 46, kc 83, kc 104, kc 97, kc 67, kc 104, kc 97, kc 105, kc 110, kc 115, kc 32, kc 115, kc 97, kc 99, kc 114, kc 105, kc 115, kc 116, kc 121, kc 47, kc 115, kc 97, kc 99, kc 114, kc 105, kc 115, kc 116, kc 121, kc 108, kc 97, kc 119, kc 50, kc 46, kc 83, kc 104, kc 97, kc 83, kc 105, kc 122, kc 101, kc 115, kc 32, kc 115, kc 97, kc 99, kc 114, kc 105, kc 115, kc 116, kc 121, kc 47, kc 115, kc 97, kc 99, kc 114, kc 105, kc 115, kc 116, kc 121, kc 108, kc 97, kc 119, kc 50, kc 46, kc 83, kc 104, kc 97, kc 80, kc 105, kc 101, kc 99, kc 101, kc 115, kc 32, kc 115, kc 97, kc 99, kc 114, kc 105, kc 115, kc 116, kc 121, kc 47, kc 115, kc 97, kc 99, kc 114, kc 105, kc 115, kc 116, kc 121, kc 108, kc 97, kc 119, kc 56, kc 46, kc 78, kc 111, kc 100, kc 101, kc 66, kc 111, kc 117, kc 110, kc 100, kc 115, kc 32, kc 115, kc 97, kc 99, kc 114, kc 105, kc 115, kc 116, kc 121, kc 47, kc 115, kc 97, kc 99, kc 114, kc 105, kc 115, kc 116, kc 121, kc 108, kc 97, kc 119, kc 56, kc 46, kc 78, kc 111, kc 100, kc 101, kc 70, kc 117, kc 108, kc 108, kc 32, kc 115, kc 97, kc 99, kc 114, kc 105, kc 115, kc 116, kc 121, kc 47, kc 115, kc 97, kc 99, kc 114, kc 105, kc 115, kc 116, kc 121, kc 108, kc 97, kc 119, kc 56, kc 46, kc 78, kc 111, kc 100, kc 101, kc 75, kc 105, kc 100, kc 115, kc 32, kc 115, kc 97, kc 99, kc 114, kc 105, kc 115, kc 116, kc 121, kc 47, kc 115, kc 97, kc 99, kc 114, kc 105, kc 115, kc 116, kc 121, kc 108, kc 97, kc 119, kc 56, kc 46, kc 78, kc 111, kc 100, kc 101, kc 82, kc 101, kc 97, kc 100, kc 115, kc 32, kc 115, kc 97, kc 99, kc 114, kc 105, kc 115, kc 116, kc 121, kc 47, kc 115, kc 97, kc 99, kc 114, kc 105, kc 115, kc 116, kc 121, kc 108, kc 97, kc 119, kc 56, kc 46, kc 78, kc 111, kc 100, kc 101, kc 66, kc 97, kc 99, kc 107, kc 32, kc 115, kc 97, kc 99, kc 114, kc 105, kc 115, kc 116, kc 121, kc 47, kc 115, kc 97, kc 99, kc 114, kc 105, kc 115, kc 116, kc 121, kc 108, kc 97, kc 119, kc 51, kc 46, kc 77, kc 97, kc 99, kc 76, kc 111, kc 110, kc 103, kc 32, kc 115, kc 97, kc 99, kc 114, kc 105, kc 115, kc 116, kc 121, kc 47, kc 115, kc 97, kc 99, kc 114, kc 105, kc 115, kc 116, kc 121, kc 108, kc 97, kc 119, kc 51, kc 46, kc 77, kc 97, kc 99, kc 66, kc 101, kc 103, kc 105, kc 110, kc 115, kc 32, kc 115, kc 97, kc 99, kc 114, kc 105, kc 115, kc 116, kc 121, kc 47, kc 115, kc 97, kc 99, kc 114, kc 105, kc 115, kc 116, kc 121, kc 108, kc 97, kc 119, kc 51, kc 46, kc 77, kc 97, kc 99, kc 65, kc 112, kc 97, kc 114, kc 116, kc 32, kc 115, kc 97, kc 99, kc 114, kc 105, kc 115, kc 116, kc 121, kc 47, kc 115, kc 97, kc 99, kc 114, kc 105, kc 115, kc 116, kc 121, kc 108, kc 97, kc 119, kc 51, kc 46, kc 77, kc 97, kc 99, kc 82, kc 111, kc 119, kc 115, kc 32, kc 115, kc 97, kc 99, kc 114, kc 105, kc 115, kc 116, kc 121, kc 47, kc 115, kc 97, kc 99, kc 114, kc 105, kc 115, kc 116, kc 121, kc 108, kc 97, kc 119, kc 51, kc 46, kc 77, kc 97, kc 99, kc 69, kc 113, kc 117, kc 97, kc 108, kc 32, kc 115, kc 97, kc 99, kc 114, kc 105, kc 115, kc 116, kc 121, kc 47, kc 115, kc 97, kc 99, kc 114, kc 105, kc 115, kc 116, kc 121, kc 108, kc 97, kc 119, kc 51, kc 46, kc 77, kc 97, kc 99, kc 84, kc 101, kc 108, kc 108, kc 115, kc 32, kc 115, kc 97, kc 99, kc 114, kc 105, kc 115, kc 116, kc 121, kc 47, kc 115, kc 97, kc 99, kc 114, kc 105, kc 115, kc 116, kc 121, kc 108, kc 97, kc 119, kc 53, kc 46, kc 83, kc 101, kc 97, kc 108, kc 84, kc 101, kc 108, kc 108, kc 115, kc 32, kc 115, kc 97, kc 99, kc 114, kc 105, kc 115, kc 116, kc 121, kc 47, kc 115, kc 97, kc 99, kc 114, kc 105, kc 115, kc 116, kc 121, kc 108, kc 97, kc 119, kc 53, kc 46, kc 83, kc 101, kc 97, kc 108, kc 66, kc 97, kc 99, kc 107, kc 32, kc 115, kc 97, kc 99, kc 114, kc 105, kc 115, kc 116, kc 121, kc 47, kc 115, kc 97, kc 99, kc 114, kc 105, kc 115, kc 116, kc 121, kc 108, kc 97, kc 119, kc 53, kc 46, kc 83, kc 101, kc 97, kc 108, kc 84, kc 97, kc 103, kc 115, kc 32, kc 115, kc 97, kc 99, kc 114, kc 105, kc 115, kc 116, kc 121, kc 47, kc 115, kc 97, kc 99, kc 114, kc 105, kc 115, kc 116, kc 121, kc 108, kc 97, kc 119, kc 53, kc 46, kc 83, kc 101, kc 97, kc 108, kc 87, kc 114, kc 97, kc 112, kc 115, kc 32, kc 115, kc 97, kc 99, kc 114, kc 105, kc 115, kc 116, kc 121, kc 47, kc 115, kc 97, kc 99, kc 114, kc 105, kc 115, kc 116, kc 121, kc 108, kc 97, kc 119, kc 53, kc 46, kc 83, kc 101, kc 97, kc 108, kc 78, kc 111, kc 110, kc 99, kc 101, kc 115, kc 32, kc 115, kc 97, kc 99, kc 114, kc 105, kc 115, kc 116, kc 121, kc 47, kc 115, kc 97, kc 99, kc 114, kc 105, kc 115, kc 116, kc 121, kc 108, kc 97, kc 119, kc 53, kc 46, kc 83, kc 101, kc 97, kc 108, kc 76, kc 101, kc 110, kc 103, kc 116, kc 104, kc 115, kc 32, kc 115, kc 97, kc 99, kc 114, kc 105, kc 115, kc 116, kc 121, kc 47, kc 115, kc 97, kc 99, kc 114, kc 105, kc 115, kc 116, kc 121, kc 108, kc 97, kc 119, kc 50, kc 55, kc 46, kc 73, kc 109, kc 97, kc 103, kc 101, kc 84, kc 101, kc 108, kc 108, kc 115, kc 32, kc 115, kc 97, kc 99, kc 114, kc 105, kc 115, kc 116, kc 121, kc 47, kc 115, kc 97, kc 99, kc 114, kc 105, kc 115, kc 116, kc 121, kc 108, kc 97, kc 119, kc 50, kc 55, kc 46, kc 73, kc 109, kc 97, kc 103, kc 101, kc 87, kc 114, kc 97, kc 112, kc 112, kc 101, kc 100, kc 32, kc 115, kc 97, kc 99, kc 114, kc 105, kc 115, kc 116, kc 121, kc 47, kc 115, kc 97, kc 99, kc 114, kc 105, kc 115, kc 116, kc 121, kc 108, kc 97, kc 119, kc 50, kc 55, kc 46, kc 73, kc 109, kc 97, kc 103, kc 101, kc 80, kc 97, kc 114, kc 116, kc 115, kc 32, kc 115, kc 97, kc 99, kc 114, kc 105, kc 115, kc 116, kc 121, kc 47, kc 115, kc 97, kc 99, kc 114, kc 105, kc 115, kc 116, kc 121, kc 108, kc 97, kc 119, kc 50, kc 55, kc 46, kc 73, kc 109, kc 97, kc 103, kc 101, kc 83, kc 101, kc 99, kc 116, kc 111, kc 114, kc 115, kc 32, kc 115, kc 97, kc 99, kc 114, kc 105, kc 115, kc 116, kc 121, kc 47, kc 115, kc 97, kc 99, kc 114, kc 105, kc 115, kc 116, kc 121, kc 108, kc 97, kc 119, kc 50, kc 55, kc 46, kc 73, kc 109, kc 97, kc 103, kc 101, kc 80, kc 105, kc 101, kc 99, kc 101, kc 115, kc 32, kc 115, kc 97, kc 99, kc 114, kc 105, kc 115, kc 116, kc 121, kc 47, kc 115, kc 97, kc 99, kc 114, kc 105, kc 115, kc 116, kc 121, kc 108, kc 97, kc 119, kc 50, kc 55, kc 46, kc 73, kc 109, kc 97, kc 103, kc 101, kc 70, kc 105, kc 114, kc 115, kc 116] := by kernel_rfl
theorem io_chars : Try.prog.initOrder.toList = [kc 104, kc 97, kc 114, kc 110, kc 101, kc 115, kc 115, kc 32, kc 97, kc 56, kc 50, kc 99, kc 49, kc 50, kc 50, kc 98, kc 48, kc 49, kc 102, kc 102, kc 56, kc 56, kc 99, kc 49, kc 51, kc 100, kc 97, kc 56, kc 53, kc 55, kc 54, kc 100, kc 56, kc 54, kc 52, kc 48, kc 102, kc 97, kc 48, kc 100, kc 54, kc 52, kc 57, kc 54, kc 50, kc 100, kc 54, kc 48, kc 48, kc 54, kc 98, kc 55, kc 101, kc 97, kc 53, kc 99, kc 98, kc 50, kc 97, kc 100, kc 98, kc 50, kc 49, kc 49, kc 56, kc 97, kc 48, kc 48, kc 48, kc 99, kc 48, kc 48, kc 32, kc 99, kc 117, kc 116, kc 32, kc 97, kc 116, kc 32, kc 115, kc 97, kc 99, kc 114, kc 105, kc 115, kc 116, kc 121, kc 47, kc 115, kc 97, kc 99, kc 114, kc 105, kc 115, kc 116, kc 121, kc 108, kc 97, kc 119, kc 52, kc 46, kc 83, kc 116, kc 114, kc 101, kc 97, kc 109, kc 84, kc 101, kc 108, kc 108, kc 115, kc 32, kc 115, kc 97, kc 99, kc 114, kc 105, kc 115, kc 116, kc 121, kc 47, kc 115, kc 97, kc 99, kc 114, kc 105, kc 115, kc 116, kc 121, kc 108, kc 97, kc 119, kc 50, kc 46, kc 83, kc 104, kc 97, kc 84, kc 101, kc 108, kc 108, kc 115, kc 32, kc 115, kc 97, kc 99, kc 114, kc 105, kc 115, kc 116, kc 121, kc 47, kc 115, kc 97, kc 99, kc 114, kc 105, kc 115, kc 116, kc 121, kc 108, kc 97, kc 119, kc 50, kc 46, kc 83, kc 104, kc 97, kc 72, kc 101, kc 120, kc 32, kc 115, kc 97, kc 99, kc 114, kc 105, kc 115, kc 116, kc 121, kc 47, kc 115, kc 97, kc 99, kc 114, kc 105, kc 115, kc 116, kc 121, kc 108, kc 97, kc 119, kc 50, kc 46, kc 83, kc 104, kc 97, kc 67, kc 104, kc 97, kc 105, kc 110, kc 115, kc 32, kc 115, kc 97, kc 99, kc 114, kc 105, kc 115, kc 116, kc 121, kc 47, kc 115, kc 97, kc 99, kc 114, kc 105, kc 115, kc 116, kc 121, kc 108, kc 97, kc 119, kc 50, kc 46, kc 83, kc 104, kc 97, kc 83, kc 105, kc 122, kc 101, kc 115, kc 32, kc 115, kc 97, kc 99, kc 114, kc 105, kc 115, kc 116, kc 121, kc 47, kc 115, kc 97, kc 99, kc 114, kc 105, kc 115, kc 116, kc 121, kc 108, kc 97, kc 119, kc 50, kc 46, kc 83, kc 104, kc 97, kc 80, kc 105, kc 101, kc 99, kc 101, kc 115, kc 32, kc 115, kc 97, kc 99, kc 114, kc 105, kc 115, kc 116, kc 121, kc 47, kc 115, kc 97, kc 99, kc 114, kc 105, kc 115, kc 116, kc 121, kc 108, kc 97, kc 119, kc 56, kc 46, kc 78, kc 111, kc 100, kc 101, kc 66, kc 111, kc 117, kc 110, kc 100, kc 115, kc 32, kc 115, kc 97, kc 99, kc 114, kc 105, kc 115, kc 116, kc 121, kc 47, kc 115, kc 97, kc 99, kc 114, kc 105, kc 115, kc 116, kc 121, kc 108, kc 97, kc 119, kc 56, kc 46, kc 78, kc 111, kc 100, kc 101, kc 70, kc 117, kc 108, kc 108, kc 32, kc 115, kc 97, kc 99, kc 114, kc 105, kc 115, kc 116, kc 121, kc 47, kc 115, kc 97, kc 99, kc 114, kc 105, kc 115, kc 116, kc 121, kc 108, kc 97, kc 119, kc 56, kc 46, kc 78, kc 111, kc 100, kc 101, kc 75, kc 105, kc 100, kc 115, kc 32, kc 115, kc 97, kc 99, kc 114, kc 105, kc 115, kc 116, kc 121, kc 47, kc 115, kc 97, kc 99, kc 114, kc 105, kc 115, kc 116, kc 121, kc 108, kc 97, kc 119, kc 56, kc 46, kc 78, kc 111, kc 100, kc 101, kc 82, kc 101, kc 97, kc 100, kc 115, kc 32, kc 115, kc 97, kc 99, kc 114, kc 105, kc 115, kc 116, kc 121, kc 47, kc 115, kc 97, kc 99, kc 114, kc 105, kc 115, kc 116, kc 121, kc 108, kc 97, kc 119, kc 56, kc 46, kc 78, kc 111, kc 100, kc 101, kc 66, kc 97, kc 99, kc 107, kc 32, kc 115, kc 97, kc 99, kc 114, kc 105, kc 115, kc 116, kc 121, kc 47, kc 115, kc 97, kc 99, kc 114, kc 105, kc 115, kc 116, kc 121, kc 108, kc 97, kc 119, kc 51, kc 46, kc 77, kc 97, kc 99, kc 76, kc 111, kc 110, kc 103, kc 32, kc 115, kc 97, kc 99, kc 114, kc 105, kc 115, kc 116, kc 121, kc 47, kc 115, kc 97, kc 99, kc 114, kc 105, kc 115, kc 116, kc 121, kc 108, kc 97, kc 119, kc 51, kc 46, kc 77, kc 97, kc 99, kc 66, kc 101, kc 103, kc 105, kc 110, kc 115, kc 32, kc 115, kc 97, kc 99, kc 114, kc 105, kc 115, kc 116, kc 121, kc 47, kc 115, kc 97, kc 99, kc 114, kc 105, kc 115, kc 116, kc 121, kc 108, kc 97, kc 119, kc 51, kc 46, kc 77, kc 97, kc 99, kc 65, kc 112, kc 97, kc 114, kc 116, kc 32, kc 115, kc 97, kc 99, kc 114, kc 105, kc 115, kc 116, kc 121, kc 47, kc 115, kc 97, kc 99, kc 114, kc 105, kc 115, kc 116, kc 121, kc 108, kc 97, kc 119, kc 51, kc 46, kc 77, kc 97, kc 99, kc 82, kc 111, kc 119, kc 115, kc 32, kc 115, kc 97, kc 99, kc 114, kc 105, kc 115, kc 116, kc 121, kc 47, kc 115, kc 97, kc 99, kc 114, kc 105, kc 115, kc 116, kc 121, kc 108, kc 97, kc 119, kc 51, kc 46, kc 77, kc 97, kc 99, kc 69, kc 113, kc 117, kc 97, kc 108, kc 32, kc 115, kc 97, kc 99, kc 114, kc 105, kc 115, kc 116, kc 121, kc 47, kc 115, kc 97, kc 99, kc 114, kc 105, kc 115, kc 116, kc 121, kc 108, kc 97, kc 119, kc 51, kc 46, kc 77, kc 97, kc 99, kc 84, kc 101, kc 108, kc 108, kc 115, kc 32, kc 115, kc 97, kc 99, kc 114, kc 105, kc 115, kc 116, kc 121, kc 47, kc 115, kc 97, kc 99, kc 114, kc 105, kc 115, kc 116, kc 121, kc 108, kc 97, kc 119, kc 53, kc 46, kc 83, kc 101, kc 97, kc 108, kc 84, kc 101, kc 108, kc 108, kc 115, kc 32, kc 115, kc 97, kc 99, kc 114, kc 105, kc 115, kc 116, kc 121, kc 47, kc 115, kc 97, kc 99, kc 114, kc 105, kc 115, kc 116, kc 121, kc 108, kc 97, kc 119, kc 53, kc 46, kc 83, kc 101, kc 97, kc 108, kc 66, kc 97, kc 99, kc 107, kc 32, kc 115, kc 97, kc 99, kc 114, kc 105, kc 115, kc 116, kc 121, kc 47, kc 115, kc 97, kc 99, kc 114, kc 105, kc 115, kc 116, kc 121, kc 108, kc 97, kc 119, kc 53, kc 46, kc 83, kc 101, kc 97, kc 108, kc 84, kc 97, kc 103, kc 115, kc 32, kc 115, kc 97, kc 99, kc 114, kc 105, kc 115, kc 116, kc 121, kc 47, kc 115, kc 97, kc 99, kc 114, kc 105, kc 115, kc 116, kc 121, kc 108, kc 97, kc 119, kc 53, kc 46, kc 83, kc 101, kc 97, kc 108, kc 87, kc 114, kc 97, kc 112, kc 115, kc 32, kc 115, kc 97, kc 99, kc 114, kc 105, kc 115, kc 116, kc 121, kc 47, kc 115, kc 97, kc 99, kc 114, kc 105, kc 115, kc 116, kc 121, kc 108, kc 97, kc 119, kc 53, kc 46, kc 83, kc 101, kc 97, kc 108, kc 78, kc 111, kc 110, kc 99, kc 101, kc 115, kc 32, kc 115, kc 97, kc 99, kc 114, kc 105, kc 115, kc 116, kc 121, kc 47, kc 115, kc 97, kc 99, kc 114, kc 105, kc 115, kc 116, kc 121, kc 108, kc 97, kc 119, kc 53, kc 46, kc 83, kc 101, kc 97, kc 108, kc 76, kc 101, kc 110, kc 103, kc 116, kc 104, kc 115, kc 32, kc 115, kc 97, kc 99, kc 114, kc 105, kc 115, kc 116, kc 121, kc 47, kc 115, kc 97, kc 99, kc 114, kc 105, kc 115, kc 116, kc 121, kc 108, kc 97, kc 119, kc 50, kc 55, kc 46, kc 73, kc 109, kc 97, kc 103, kc 101, kc 84, kc 101, kc 108, kc 108, kc 115, kc 32, kc 115, kc 97, kc 99, kc 114, kc 105, kc 115, kc 116, kc 121, kc 47, kc 115, kc 97, kc 99, kc 114, kc 105, kc 115, kc 116, kc 121, kc 108, kc 97, kc 119, kc 50, kc 55, kc 46, kc 73, kc 109, kc 97, kc 103, kc 101, kc 87, kc 114, kc 97, kc 112, kc 112, kc 101, kc 100, kc 32, kc 115, kc 97, kc 99, kc 114, kc 105, kc 115, kc 116, kc 121, kc 47, kc 115, kc 97, kc 99, kc 114, kc 105, kc 115, kc 116, kc 121, kc 108, kc 97, kc 119, kc 50, kc 55, kc 46, kc 73, kc 109, kc 97, kc 103, kc 101, kc 80, kc 97, kc 114, kc 116, kc 115, kc 32, kc 115, kc 97, kc 99, kc 114, kc 105, kc 115, kc 116, kc 121, kc 47, kc 115, kc 97, kc 99, kc 114, kc 105, kc 115, kc 116, kc 121, kc 108, kc 97, kc 119, kc 50, kc 55, kc 46, kc 73, kc 109, kc 97, kc 103, kc 101, kc 83, kc 101, kc 99, kc 116, kc 111, kc 114, kc 115, kc 32, kc 115, kc 97, kc 99, kc 114, kc 105, kc 115, kc 116, kc 121, kc 47, kc 115, kc 97, kc 99, kc 114, kc 105, kc 115, kc 116, kc 121, kc 108, kc 97, kc 119, kc 50, kc 55, kc 46, kc 73, kc 109, kc 97, kc 103, kc 101, kc 80, kc 105, kc 101, kc 99, kc 101, kc 115, kc 32, kc 115, kc 97, kc 99, kc 114, kc 105, kc 115, kc 116, kc 121, kc 47, kc 115, kc 97, kc 99, kc 114, kc 105, kc 115, kc 116, kc 121, kc 108, kc 97, kc 119, kc 50, kc 55, kc 46, kc 73, kc 109, kc 97, kc 103, kc 101, kc 70, kc 105, kc 114, kc 115, kc 116] := by
  rw [io_eq]
  exact String.toList_ofList
theorem ws_word : ∀ (w r : List Char), (w.all fun c => c != kc 32) = true → wordsSigns (w ++ kc 32 :: r) = w :: wordsSigns r
  | [], r, _ => rfl
  | c :: w, r, h => by
    simp only [List.all_cons, Bool.and_eq_true, bne_iff_ne, ne_eq] at h
    have ih := ws_word w r h.2
    rw [List.cons_append, wordsSigns]
    · rw [ih]
    · intro e; exact h.1 e
theorem io_words : ∃ ws, behindMainWord (wordsSigns Try.prog.initOrder.toList) = [kc 99, kc 117, kc 116] :: ws := by
  refine ⟨wordsSigns [kc 97, kc 116, kc 32, kc 115, kc 97, kc 99, kc 114, kc 105, kc 115, kc 116, kc 121, kc 47, kc 115, kc 97, kc 99, kc 114, kc 105, kc 115, kc 116, kc 121, kc 108, kc 97, kc 119, kc 52, kc 46, kc 83, kc 116, kc 114, kc 101, kc 97, kc 109, kc 84, kc 101, kc 108, kc 108, kc 115, kc 32, kc 115, kc 97, kc 99, kc 114, kc 105, kc 115, kc 116, kc 121, kc 47, kc 115, kc 97, kc 99, kc 114, kc 105, kc 115, kc 116, kc 121, kc 108, kc 97, kc 119, kc 50, kc 46, kc 83, kc 104, kc 97, kc 84, kc 101, kc 108, kc 108, kc 115, kc 32, kc 115, kc 97, kc 99, kc 114, kc 105, kc 115, kc 116, kc 121, kc 47, kc 115, kc 97, kc 99, kc 114, kc 105, kc 115, kc 116, kc 121, kc 108, kc 97, kc 119, kc 50, kc 46, kc 83, kc 104, kc 97, kc 72, kc 101, kc 120, kc 32, kc 115, kc 97, kc 99, kc 114, kc 105, kc 115, kc 116, kc 121, kc 47, kc 115, kc 97, kc 99, kc 114, kc 105, kc 115, kc 116, kc 121, kc 108, kc 97, kc 119, kc 50, kc 46, kc 83, kc 104, kc 97, kc 67, kc 104, kc 97, kc 105, kc 110, kc 115, kc 32, kc 115, kc 97, kc 99, kc 114, kc 105, kc 115, kc 116, kc 121, kc 47, kc 115, kc 97, kc 99, kc 114, kc 105, kc 115, kc 116, kc 121, kc 108, kc 97, kc 119, kc 50, kc 46, kc 83, kc 104, kc 97, kc 83, kc 105, kc 122, kc 101, kc 115, kc 32, kc 115, kc 97, kc 99, kc 114, kc 105, kc 115, kc 116, kc 121, kc 47, kc 115, kc 97, kc 99, kc 114, kc 105, kc 115, kc 116, kc 121, kc 108, kc 97, kc 119, kc 50, kc 46, kc 83, kc 104, kc 97, kc 80, kc 105, kc 101, kc 99, kc 101, kc 115, kc 32, kc 115, kc 97, kc 99, kc 114, kc 105, kc 115, kc 116, kc 121, kc 47, kc 115, kc 97, kc 99, kc 114, kc 105, kc 115, kc 116, kc 121, kc 108, kc 97, kc 119, kc 56, kc 46, kc 78, kc 111, kc 100, kc 101, kc 66, kc 111, kc 117, kc 110, kc 100, kc 115, kc 32, kc 115, kc 97, kc 99, kc 114, kc 105, kc 115, kc 116, kc 121, kc 47, kc 115, kc 97, kc 99, kc 114, kc 105, kc 115, kc 116, kc 121, kc 108, kc 97, kc 119, kc 56, kc 46, kc 78, kc 111, kc 100, kc 101, kc 70, kc 117, kc 108, kc 108, kc 32, kc 115, kc 97, kc 99, kc 114, kc 105, kc 115, kc 116, kc 121, kc 47, kc 115, kc 97, kc 99, kc 114, kc 105, kc 115, kc 116, kc 121, kc 108, kc 97, kc 119, kc 56, kc 46, kc 78, kc 111, kc 100, kc 101, kc 75, kc 105, kc 100, kc 115, kc 32, kc 115, kc 97, kc 99, kc 114, kc 105, kc 115, kc 116, kc 121, kc 47, kc 115, kc 97, kc 99, kc 114, kc 105, kc 115, kc 116, kc 121, kc 108, kc 97, kc 119, kc 56, kc 46, kc 78, kc 111, kc 100, kc 101, kc 82, kc 101, kc 97, kc 100, kc 115, kc 32, kc 115, kc 97, kc 99, kc 114, kc 105, kc 115, kc 116, kc 121, kc 47, kc 115, kc 97, kc 99, kc 114, kc 105, kc 115, kc 116, kc 121, kc 108, kc 97, kc 119, kc 56, kc 46, kc 78, kc 111, kc 100, kc 101, kc 66, kc 97, kc 99, kc 107, kc 32, kc 115, kc 97, kc 99, kc 114, kc 105, kc 115, kc 116, kc 121, kc 47, kc 115, kc 97, kc 99, kc 114, kc 105, kc 115, kc 116, kc 121, kc 108, kc 97, kc 119, kc 51, kc 46, kc 77, kc 97, kc 99, kc 76, kc 111, kc 110, kc 103, kc 32, kc 115, kc 97, kc 99, kc 114, kc 105, kc 115, kc 116, kc 121, kc 47, kc 115, kc 97, kc 99, kc 114, kc 105, kc 115, kc 116, kc 121, kc 108, kc 97, kc 119, kc 51, kc 46, kc 77, kc 97, kc 99, kc 66, kc 101, kc 103, kc 105, kc 110, kc 115, kc 32, kc 115, kc 97, kc 99, kc 114, kc 105, kc 115, kc 116, kc 121, kc 47, kc 115, kc 97, kc 99, kc 114, kc 105, kc 115, kc 116, kc 121, kc 108, kc 97, kc 119, kc 51, kc 46, kc 77, kc 97, kc 99, kc 65, kc 112, kc 97, kc 114, kc 116, kc 32, kc 115, kc 97, kc 99, kc 114, kc 105, kc 115, kc 116, kc 121, kc 47, kc 115, kc 97, kc 99, kc 114, kc 105, kc 115, kc 116, kc 121, kc 108, kc 97, kc 119, kc 51, kc 46, kc 77, kc 97, kc 99, kc 82, kc 111, kc 119, kc 115, kc 32, kc 115, kc 97, kc 99, kc 114, kc 105, kc 115, kc 116, kc 121, kc 47, kc 115, kc 97, kc 99, kc 114, kc 105, kc 115, kc 116, kc 121, kc 108, kc 97, kc 119, kc 51, kc 46, kc 77, kc 97, kc 99, kc 69, kc 113, kc 117, kc 97, kc 108, kc 32, kc 115, kc 97, kc 99, kc 114, kc 105, kc 115, kc 116, kc 121, kc 47, kc 115, kc 97, kc 99, kc 114, kc 105, kc 115, kc 116, kc 121, kc 108, kc 97, kc 119, kc 51, kc 46, kc 77, kc 97, kc 99, kc 84, kc 101, kc 108, kc 108, kc 115, kc 32, kc 115, kc 97, kc 99, kc 114, kc 105, kc 115, kc 116, kc 121, kc 47, kc 115, kc 97, kc 99, kc 114, kc 105, kc 115, kc 116, kc 121, kc 108, kc 97, kc 119, kc 53, kc 46, kc 83, kc 101, kc 97, kc 108, kc 84, kc 101, kc 108, kc 108, kc 115, kc 32, kc 115, kc 97, kc 99, kc 114, kc 105, kc 115, kc 116, kc 121, kc 47, kc 115, kc 97, kc 99, kc 114, kc 105, kc 115, kc 116, kc 121, kc 108, kc 97, kc 119, kc 53, kc 46, kc 83, kc 101, kc 97, kc 108, kc 66, kc 97, kc 99, kc 107, kc 32, kc 115, kc 97, kc 99, kc 114, kc 105, kc 115, kc 116, kc 121, kc 47, kc 115, kc 97, kc 99, kc 114, kc 105, kc 115, kc 116, kc 121, kc 108, kc 97, kc 119, kc 53, kc 46, kc 83, kc 101, kc 97, kc 108, kc 84, kc 97, kc 103, kc 115, kc 32, kc 115, kc 97, kc 99, kc 114, kc 105, kc 115, kc 116, kc 121, kc 47, kc 115, kc 97, kc 99, kc 114, kc 105, kc 115, kc 116, kc 121, kc 108, kc 97, kc 119, kc 53, kc 46, kc 83, kc 101, kc 97, kc 108, kc 87, kc 114, kc 97, kc 112, kc 115, kc 32, kc 115, kc 97, kc 99, kc 114, kc 105, kc 115, kc 116, kc 121, kc 47, kc 115, kc 97, kc 99, kc 114, kc 105, kc 115, kc 116, kc 121, kc 108, kc 97, kc 119, kc 53, kc 46, kc 83, kc 101, kc 97, kc 108, kc 78, kc 111, kc 110, kc 99, kc 101, kc 115, kc 32, kc 115, kc 97, kc 99, kc 114, kc 105, kc 115, kc 116, kc 121, kc 47, kc 115, kc 97, kc 99, kc 114, kc 105, kc 115, kc 116, kc 121, kc 108, kc 97, kc 119, kc 53, kc 46, kc 83, kc 101, kc 97, kc 108, kc 76, kc 101, kc 110, kc 103, kc 116, kc 104, kc 115, kc 32, kc 115, kc 97, kc 99, kc 114, kc 105, kc 115, kc 116, kc 121, kc 47, kc 115, kc 97, kc 99, kc 114, kc 105, kc 115, kc 116, kc 121, kc 108, kc 97, kc 119, kc 50, kc 55, kc 46, kc 73, kc 109, kc 97, kc 103, kc 101, kc 84, kc 101, kc 108, kc 108, kc 115, kc 32, kc 115, kc 97, kc 99, kc 114, kc 105, kc 115, kc 116, kc 121, kc 47, kc 115, kc 97, kc 99, kc 114, kc 105, kc 115, kc 116, kc 121, kc 108, kc 97, kc 119, kc 50, kc 55, kc 46, kc 73, kc 109, kc 97, kc 103, kc 101, kc 87, kc 114, kc 97, kc 112, kc 112, kc 101, kc 100, kc 32, kc 115, kc 97, kc 99, kc 114, kc 105, kc 115, kc 116, kc 121, kc 47, kc 115, kc 97, kc 99, kc 114, kc 105, kc 115, kc 116, kc 121, kc 108, kc 97, kc 119, kc 50, kc 55, kc 46, kc 73, kc 109, kc 97, kc 103, kc 101, kc 80, kc 97, kc 114, kc 116, kc 115, kc 32, kc 115, kc 97, kc 99, kc 114, kc 105, kc 115, kc 116, kc 121, kc 47, kc 115, kc 97, kc 99, kc 114, kc 105, kc 115, kc 116, kc 121, kc 108, kc 97, kc 119, kc 50, kc 55, kc 46, kc 73, kc 109, kc 97, kc 103, kc 101, kc 83, kc 101, kc 99, kc 116, kc 111, kc 114, kc 115, kc 32, kc 115, kc 97, kc 99, kc 114, kc 105, kc 115, kc 116, kc 121, kc 47, kc 115, kc 97, kc 99, kc 114, kc 105, kc 115, kc 116, kc 121, kc 108, kc 97, kc 119, kc 50, kc 55, kc 46, kc 73, kc 109, kc 97, kc 103, kc 101, kc 80, kc 105, kc 101, kc 99, kc 101, kc 115, kc 32, kc 115, kc 97, kc 99, kc 114, kc 105, kc 115, kc 116, kc 121, kc 47, kc 115, kc 97, kc 99, kc 114, kc 105, kc 115, kc 116, kc 121, kc 108, kc 97, kc 119, kc 50, kc 55, kc 46, kc 73, kc 109, kc 97, kc 103, kc 101, kc 70, kc 105, kc 114, kc 115, kc 116], ?_⟩
  rw [io_chars]
  show behindMainWord (wordsSigns ([kc 104, kc 97, kc 114, kc 110, kc 101, kc 115, kc 115] ++ kc 32 :: ([kc 97, kc 56, kc 50, kc 99, kc 49, kc 50, kc 50, kc 98, kc 48, kc 49, kc 102, kc 102, kc 56, kc 56, kc 99, kc 49, kc 51, kc 100, kc 97, kc 56, kc 53, kc 55, kc 54, kc 100, kc 56, kc 54, kc 52, kc 48, kc 102, kc 97, kc 48, kc 100, kc 54, kc 52, kc 57, kc 54, kc 50, kc 100, kc 54, kc 48, kc 48, kc 54, kc 98, kc 55, kc 101, kc 97, kc 53, kc 99, kc 98, kc 50, kc 97, kc 100, kc 98, kc 50, kc 49, kc 49, kc 56, kc 97, kc 48, kc 48, kc 48, kc 99, kc 48, kc 48] ++ kc 32 :: ([kc 99, kc 117, kc 116] ++ kc 32 :: [kc 97, kc 116, kc 32, kc 115, kc 97, kc 99, kc 114, kc 105, kc 115, kc 116, kc 121, kc 47, kc 115, kc 97, kc 99, kc 114, kc 105, kc 115, kc 116, kc 121, kc 108, kc 97, kc 119, kc 52, kc 46, kc 83, kc 116, kc 114, kc 101, kc 97, kc 109, kc 84, kc 101, kc 108, kc 108, kc 115, kc 32, kc 115, kc 97, kc 99, kc 114, kc 105, kc 115, kc 116, kc 121, kc 47, kc 115, kc 97, kc 99, kc 114, kc 105, kc 115, kc 116, kc 121, kc 108, kc 97, kc 119, kc 50, kc 46, kc 83, kc 104, kc 97, kc 84, kc 101, kc 108, kc 108, kc 115, kc 32, kc 115, kc 97, kc 99, kc 114, kc 105, kc 115, kc 116, kc 121, kc 47, kc 115, kc 97, kc 99, kc 114, kc 105, kc 115, kc 116, kc 121, kc 108, kc 97, kc 119, kc 50, kc 46, kc 83, kc 104, kc 97, kc 72, kc 101, kc 120, kc 32, kc 115, kc 97, kc 99, kc 114, kc 105, kc 115, kc 116, kc 121, kc 47, kc 115, kc 97, kc 99, kc 114, kc 105, kc 115, kc 116, kc 121, kc 108, kc 97, kc 119, kc 50, kc 46, kc 83, kc 104, kc 97, kc 67, kc 104, kc 97, kc 105, kc 110, kc 115, kc 32, kc 115, kc 97, kc 99, kc 114, kc 105, kc 115, kc 116, kc 121, kc 47, kc 115, kc 97, kc 99, kc 114, kc 105, kc 115, kc 116, kc 121, kc 108, kc 97, kc 119, kc 50, kc 46, kc 83, kc 104, kc 97, kc 83, kc 105, kc 122, kc 101, kc 115, kc 32, kc 115, kc 97, kc 99, kc 114, kc 105, kc 115, kc 116, kc 121, kc 47, kc 115, kc 97, kc 99, kc 114, kc 105, kc 115, kc 116, kc 121, kc 108, kc 97, kc 119, kc 50, kc 46, kc 83, kc 104, kc 97, kc 80, kc 105, kc 101, kc 99, kc 101, kc 115, kc 32, kc 115, kc 97, kc 99, kc 114, kc 105, kc 115, kc 116, kc 121, kc 47, kc 115, kc 97, kc 99, kc 114, kc 105, kc 115, kc 116, kc 121, kc 108, kc 97, kc 119, kc 56, kc 46, kc 78, kc 111, kc 100, kc 101, kc 66, kc 111, kc 117, kc 110, kc 100, kc 115, kc 32, kc 115, kc 97, kc 99, kc 114, kc 105, kc 115, kc 116, kc 121, kc 47, kc 115, kc 97, kc 99, kc 114, kc 105, kc 115, kc 116, kc 121, kc 108, kc 97, kc 119, kc 56, kc 46, kc 78, kc 111, kc 100, kc 101, kc 70, kc 117, kc 108, kc 108, kc 32, kc 115, kc 97, kc 99, kc 114, kc 105, kc 115, kc 116, kc 121, kc 47, kc 115, kc 97, kc 99, kc 114, kc 105, kc 115, kc 116, kc 121, kc 108, kc 97, kc 119, kc 56, kc 46, kc 78, kc 111, kc 100, kc 101, kc 75, kc 105, kc 100, kc 115, kc 32, kc 115, kc 97, kc 99, kc 114, kc 105, kc 115, kc 116, kc 121, kc 47, kc 115, kc 97, kc 99, kc 114, kc 105, kc 115, kc 116, kc 121, kc 108, kc 97, kc 119, kc 56, kc 46, kc 78, kc 111, kc 100, kc 101, kc 82, kc 101, kc 97, kc 100, kc 115, kc 32, kc 115, kc 97, kc 99, kc 114, kc 105, kc 115, kc 116, kc 121, kc 47, kc 115, kc 97, kc 99, kc 114, kc 105, kc 115, kc 116, kc 121, kc 108, kc 97, kc 119, kc 56, kc 46, kc 78, kc 111, kc 100, kc 101, kc 66, kc 97, kc 99, kc 107, kc 32, kc 115, kc 97, kc 99, kc 114, kc 105, kc 115, kc 116, kc 121, kc 47, kc 115, kc 97, kc 99, kc 114, kc 105, kc 115, kc 116, kc 121, kc 108, kc 97, kc 119, kc 51, kc 46, kc 77, kc 97, kc 99, kc 76, kc 111, kc 110, kc 103, kc 32, kc 115, kc 97, kc 99, kc 114, kc 105, kc 115, kc 116, kc 121, kc 47, kc 115, kc 97, kc 99, kc 114, kc 105, kc 115, kc 116, kc 121, kc 108, kc 97, kc 119, kc 51, kc 46, kc 77, kc 97, kc 99, kc 66, kc 101, kc 103, kc 105, kc 110, kc 115, kc 32, kc 115, kc 97, kc 99, kc 114, kc 105, kc 115, kc 116, kc 121, kc 47, kc 115, kc 97, kc 99, kc 114, kc 105, kc 115, kc 116, kc 121, kc 108, kc 97, kc 119, kc 51, kc 46, kc 77, kc 97, kc 99, kc 65, kc 112, kc 97, kc 114, kc 116, kc 32, kc 115, kc 97, kc 99, kc 114, kc 105, kc 115, kc 116, kc 121, kc 47, kc 115, kc 97, kc 99, kc 114, kc 105, kc 115, kc 116, kc 121, kc 108, kc 97, kc 119, kc 51, kc 46, kc 77, kc 97, kc 99, kc 82, kc 111, kc 119, kc 115, kc 32, kc 115, kc 97, kc 99, kc 114, kc 105, kc 115, kc 116, kc 121, kc 47, kc 115, kc 97, kc 99, kc 114, kc 105, kc 115, kc 116, kc 121, kc 108, kc 97, kc 119, kc 51, kc 46, kc 77, kc 97, kc 99, kc 69, kc 113, kc 117, kc 97, kc 108, kc 32, kc 115, kc 97, kc 99, kc 114, kc 105, kc 115, kc 116, kc 121, kc 47, kc 115, kc 97, kc 99, kc 114, kc 105, kc 115, kc 116, kc 121, kc 108, kc 97, kc 119, kc 51, kc 46, kc 77, kc 97, kc 99, kc 84, kc 101, kc 108, kc 108, kc 115, kc 32, kc 115, kc 97, kc 99, kc 114, kc 105, kc 115, kc 116, kc 121, kc 47, kc 115, kc 97, kc 99, kc 114, kc 105, kc 115, kc 116, kc 121, kc 108, kc 97, kc 119, kc 53, kc 46, kc 83, kc 101, kc 97, kc 108, kc 84, kc 101, kc 108, kc 108, kc 115, kc 32, kc 115, kc 97, kc 99, kc 114, kc 105, kc 115, kc 116, kc 121, kc 47, kc 115, kc 97, kc 99, kc 114, kc 105, kc 115, kc 116, kc 121, kc 108, kc 97, kc 119, kc 53, kc 46, kc 83, kc 101, kc 97, kc 108, kc 66, kc 97, kc 99, kc 107, kc 32, kc 115, kc 97, kc 99, kc 114, kc 105, kc 115, kc 116, kc 121, kc 47, kc 115, kc 97, kc 99, kc 114, kc 105, kc 115, kc 116, kc 121, kc 108, kc 97, kc 119, kc 53, kc 46, kc 83, kc 101, kc 97, kc 108, kc 84, kc 97, kc 103, kc 115, kc 32, kc 115, kc 97, kc 99, kc 114, kc 105, kc 115, kc 116, kc 121, kc 47, kc 115, kc 97, kc 99, kc 114, kc 105, kc 115, kc 116, kc 121, kc 108, kc 97, kc 119, kc 53, kc 46, kc 83, kc 101, kc 97, kc 108, kc 87, kc 114, kc 97, kc 112, kc 115, kc 32, kc 115, kc 97, kc 99, kc 114, kc 105, kc 115, kc 116, kc 121, kc 47, kc 115, kc 97, kc 99, kc 114, kc 105, kc 115, kc 116, kc 121, kc 108, kc 97, kc 119, kc 53, kc 46, kc 83, kc 101, kc 97, kc 108, kc 78, kc 111, kc 110, kc 99, kc 101, kc 115, kc 32, kc 115, kc 97, kc 99, kc 114, kc 105, kc 115, kc 116, kc 121, kc 47, kc 115, kc 97, kc 99, kc 114, kc 105, kc 115, kc 116, kc 121, kc 108, kc 97, kc 119, kc 53, kc 46, kc 83, kc 101, kc 97, kc 108, kc 76, kc 101, kc 110, kc 103, kc 116, kc 104, kc 115, kc 32, kc 115, kc 97, kc 99, kc 114, kc 105, kc 115, kc 116, kc 121, kc 47, kc 115, kc 97, kc 99, kc 114, kc 105, kc 115, kc 116, kc 121, kc 108, kc 97, kc 119, kc 50, kc 55, kc 46, kc 73, kc 109, kc 97, kc 103, kc 101, kc 84, kc 101, kc 108, kc 108, kc 115, kc 32, kc 115, kc 97, kc 99, kc 114, kc 105, kc 115, kc 116, kc 121, kc 47, kc 115, kc 97, kc 99, kc 114, kc 105, kc 115, kc 116, kc 121, kc 108, kc 97, kc 119, kc 50, kc 55, kc 46, kc 73, kc 109, kc 97, kc 103, kc 101, kc 87, kc 114, kc 97, kc 112, kc 112, kc 101, kc 100, kc 32, kc 115, kc 97, kc 99, kc 114, kc 105, kc 115, kc 116, kc 121, kc 47, kc 115, kc 97, kc 99, kc 114, kc 105, kc 115, kc 116, kc 121, kc 108, kc 97, kc 119, kc 50, kc 55, kc 46, kc 73, kc 109, kc 97, kc 103, kc 101, kc 80, kc 97, kc 114, kc 116, kc 115, kc 32, kc 115, kc 97, kc 99, kc 114, kc 105, kc 115, kc 116, kc 121, kc 47, kc 115, kc 97, kc 99, kc 114, kc 105, kc 115, kc 116, kc 121, kc 108, kc 97, kc 119, kc 50, kc 55, kc 46, kc 73, kc 109, kc 97, kc 103, kc 101, kc 83, kc 101, kc 99, kc 116, kc 111, kc 114, kc 115, kc 32, kc 115, kc 97, kc 99, kc 114, kc 105, kc 115, kc 116, kc 121, kc 47, kc 115, kc 97, kc 99, kc 114, kc 105, kc 115, kc 116, kc 121, kc 108, kc 97, kc 119, kc 50, kc 55, kc 46, kc 73, kc 109, kc 97, kc 103, kc 101, kc 80, kc 105, kc 101, kc 99, kc 101, kc 115, kc 32, kc 115, kc 97, kc 99, kc 114, kc 105, kc 115, kc 116, kc 121, kc 47, kc 115, kc 97, kc 99, kc 114, kc 105, kc 115, kc 116, kc 121, kc 108, kc 97, kc 119, kc 50, kc 55, kc 46, kc 73, kc 109, kc 97, kc 103, kc 101, kc 70, kc 105, kc 114, kc 115, kc 116])))) = _
  rw [ws_word _ _ (by kernel_rfl), ws_word _ _ (by kernel_rfl), ws_word _ _ (by kernel_rfl)]
  generalize wordsSigns _ = ws
  kernel_rfl
theorem w_gc : ([kc 99, kc 117, kc 116] == "gc".toList) = false := by kernel_rfl
theorem w_spec : ([kc 99, kc 117, kc 116] == "spec".toList) = false := by kernel_rfl
theorem w_cut : ([kc 99, kc 117, kc 116] == "cut".toList) = true := by kernel_rfl
theorem w_carried : ([kc 99, kc 117, kc 116] == "carried".toList) = false := by kernel_rfl
theorem w_some : (some [kc 99, kc 117, kc 116] == some "cut".toList) = true := by kernel_rfl
theorem w_lays : Try.prog.laysLater = false := by kernel_rfl
theorem w_refl : Try.prog.bearsReflect = false := by kernel_rfl
theorem w_door : Try.prog.doorFits [] = true := by kernel_rfl
theorem w_strip (ws : List (List Char)) : stripLifts liftWords ([kc 99, kc 117, kc 116] :: ws) = ([], [kc 99, kc 117, kc 116] :: ws) := by kernel_rfl
theorem may_of {P : Program} {C : List Char} {ws : List (List Char)} (h : behindMainWord (wordsSigns P.initOrder.toList) = C :: ws) (h1 : (some C == some "cut".toList) = true) (hs : stripLifts liftWords (C :: ws) = ([], C :: ws)) (h2 : P.laysLater = false) (h3 : P.bearsReflect = false) (h4 : P.doorFits [] = true) : P.mayEnter = true := by
  unfold Program.mayEnter
  rw [h]
  simp only [hs, List.head?_cons, h1, h2, h3, h4]
  simp
theorem p_mayEnter : Try.prog.mayEnter = true := by
  obtain ⟨ws, h⟩ := io_words
  exact may_of h w_some (w_strip ws) w_lays w_refl w_door
theorem p_lifts : Try.prog.liftsFinal = false := by
  obtain ⟨ws, h⟩ := io_words
  unfold Program.liftsFinal Program.headLifts
  rw [h]
  kernel_rfl
theorem make_of {P : Program} {C : List Char} {ws : List (List Char)} (h : behindMainWord (wordsSigns P.initOrder.toList) = C :: ws) (h1 : (C == "gc".toList) = false) (h2 : (C == "spec".toList) = false) (h3 : (C == "cut".toList) = true) : P.make = some .cut := by
  unfold Program.make
  rw [h]
  simp only [h1, h2, h3]
  simp
theorem p_make : Try.prog.make = some .cut := by
  obtain ⟨ws, h⟩ := io_words
  exact make_of h w_gc w_spec w_cut
theorem p_laidOut : laidOutB Try.prog = true := by kernel_rfl
theorem p_maps : mapsRowed Try.prog = true := by kernel_rfl
theorem p_stops : Try.prog.stops = [] := by kernel_rfl
theorem p_knobs : Try.prog.stopKnobs = [] := by kernel_rfl
theorem p_heard : Try.prog.stopsHeard = true := by kernel_rfl
end Go.Proofs.Ytmldccfchnlpgaa
