/- The given statement is proved: for every input the law's function answers true. No condition. -/
import Derived.Test.YtmldccfchnlpgaaRows
import Derived.Test.YtmldccfchnlpgaaPart6
import Derived.WalkKit
import Derived.ProofKit
import Derived.OpenShut
import Derived.ShutString
set_option linter.unusedVariables false
set_option linter.unusedSimpArgs false
set_option maxRecDepth 100000
set_option maxHeartbeats 1000000
namespace Go.Proofs.Ytmldccfchnlpgaa
attribute [local irreducible] u_lf u_bf u_kind u_prs u_sam
open Go Go.Vc
theorem kd_in {b : List UInt8} {k : UInt8} {m : Int} (hk : k = 1 ∧ m = 1 ∨ k = 2 ∧ m = 2) (h1 : b.length ≠ 0) (h2 : b.getD 0 0 = k) : u_kind b = m := by
  unfold u_kind
  rw [if_neg h1, h2]
  rcases hk with ⟨rfl, rfl⟩ | ⟨rfl, rfl⟩
  · rfl
  · rfl
theorem getk {b : List UInt8} {k : Int} {j : UInt8} (hj : real.ofI8 (real.int 1) = j ∨ real.ofI8 (real.int 2) = j) (h : ¬ real.pB (real.eq8 (real.getB b (real.nat (real.int 0))) j) false) : b.getD 0 0 = j := by
  have h1 : ¬ ((b.getD 0 0 == j) = false) := h
  simpa using h1
theorem kd1 {b : List UInt8} (h1 : ¬ real.pB (real.lti (real.int 0) (real.int (real.lenB b))) false) (h2 : ¬ real.pB (real.eq8 (real.getB b (real.nat (real.int 0))) (real.ofI8 (real.int 1))) false) : real.eqi (us.kind b) (real.wrapi (real.toI8 (real.getB b (real.nat (real.int 0))))) = true := by
  have e := getk (k := 0) (.inl rfl) h2
  have hl : b.length ≠ 0 := by have := lt_g (n := b.length) h1; omega
  have e2 : real.getB b (real.nat (real.int 0)) = 1 := e
  rw [e2]
  show (u_kind b == _) = true
  rw [kd_in (k := 1) (.inl ⟨rfl, rfl⟩) hl e]
  rfl
theorem kd2 {b : List UInt8} (h1 : ¬ real.pB (real.lti (real.int 0) (real.int (real.lenB b))) false) (h2 : ¬ real.pB (real.eq8 (real.getB b (real.nat (real.int 0))) (real.ofI8 (real.int 2))) false) : real.eqi (us.kind b) (real.wrapi (real.toI8 (real.getB b (real.nat (real.int 0))))) = true := by
  have e := getk (k := 0) (.inr rfl) h2
  have hl : b.length ≠ 0 := by have := lt_g (n := b.length) h1; omega
  have e2 : real.getB b (real.nat (real.int 0)) = 2 := e
  rw [e2]
  show (u_kind b == _) = true
  rw [kd_in (k := 2) (.inr ⟨rfl, rfl⟩) hl e]
  rfl
theorem kd3 {b : List UInt8} (h1 : ¬ real.pB (real.lti (real.int 0) (real.int (real.lenB b))) true) : real.eqi (us.kind b) (real.int 0) = true := by
  have hl : b.length = 0 := by have := ge_g (n := b.length) h1; omega
  show (u_kind b == 0) = true
  unfold u_kind
  rw [if_pos hl]; rfl
theorem kd4 {b : List UInt8} (h1 : ¬ real.pB (real.eq8 (real.getB b (real.nat (real.int 0))) (real.ofI8 (real.int 1))) true) (h2 : ¬ real.pB (real.eq8 (real.getB b (real.nat (real.int 0))) (real.ofI8 (real.int 2))) true) : real.eqi (us.kind b) (real.int 0) = true := by
  have e1 : ¬ ((b.getD 0 0 == 1) = true) := h1
  have e2 : ¬ ((b.getD 0 0 == 2) = true) := h2
  show (u_kind b == 0) = true
  unfold u_kind
  by_cases hl : b.length = 0
  · rw [if_pos hl]; rfl
  · rw [if_neg hl, if_neg (by simpa using e1), if_neg (by simpa using e2)]; rfl
end Go.Proofs.Ytmldccfchnlpgaa
namespace Go.Proofs.Ytmldccfchnlpgaa
open Go Go.Vc
noncomputable def sp_law8_NodeReads (F : Fs) (U : Us) : Specs := [(48, s_law8_known F U), (54, s_node_ReadLeaf F U), (55, s_ref8_ReadLeaf F U), (52, s_node_ReadBranch F U), (56, s_ref8_ReadBranch F U), (57, s_law8_pairs F U), (53, s_law8_same F U), (58, s_node_Kind F U)]
theorem ok_law8_NodeReads : SpecsOK Try.prog (sp_law8_NodeReads real us) := sp_cons r_law8_known k_law8_known (sp_cons r_node_ReadLeaf k_node_ReadLeaf (sp_cons r_ref8_ReadLeaf k_ref8_ReadLeaf (sp_cons r_node_ReadBranch k_node_ReadBranch (sp_cons r_ref8_ReadBranch k_ref8_ReadBranch (sp_cons r_law8_pairs k_law8_pairs (sp_cons r_law8_same k_law8_same (sp_cons r_node_Kind k_node_Kind sp_nil)))))))
noncomputable def x_law8_NodeReads (F : Fs) (U : Us) : Cx := ⟨Try.f12.ntmps, tt F, sp_law8_NodeReads F U, [], [], [], []⟩
theorem c_law8_NodeReads (b : List UInt8) (q0 : b.length ≤ 9223372036854775807) : vc real (x_law8_NodeReads real us) [] [] (Try.f12.body.getD .skip) ⟨zipSl 0 [.rb 1 (.bt b)], [], 64⟩ (retOk real (tt real) false Try.f12.results.toList [.val (.b true)]) := by
  generalize hU : us = U
  generalize hF : real = F
  have fP : F.pB (U.prs (U.rlB b) (U.rlB b)) true := by subst hF hU; exact prs_self _
  have fS : F.pB (U.sam (U.rbK b) (U.rbQ b) (U.rbK b) (U.rbQ b)) true := by subst hF hU; exact sam_self _ _
  have fL : F.pLe (F.lenD (U.rlB b)) 1000000000000 := by subst hF hU; exact (rl_two b).2
  have fK : F.pLe (F.lenS (U.rbK b)) 1000000000000 := by subst hF hU; exact (rb_two b).2.1
  have fQ : F.pLe (F.lenW (U.rbQ b)) 1000000000000 := by subst hF hU; exact (rb_two b).2.2
  have fE : ¬ F.pB (F.eqi (U.rlE b) (F.int 0)) true → F.pB (F.eqi (U.rlE b) (F.int 90)) true := by subst hF hU; exact two_e (rl_two b).1
  have fD : ¬ F.pB (F.eqi (U.rbE b) (F.int 0)) true → F.pB (F.eqi (U.rbE b) (F.int 90)) true := by subst hF hU; exact two_e (rb_two b).1
  have fB : ∀ x : Bool, F.pB (F.eqb x x) true := by subst hF; exact eqb_self
  have k1 : ¬ F.pB (F.lti (F.int 0) (F.int (F.lenB b))) false → ¬ F.pB (F.eq8 (F.getB b (F.nat (F.int 0))) (F.ofI8 (F.int 1))) false → F.eqi (U.kind b) (F.wrapi (F.toI8 (F.getB b (F.nat (F.int 0))))) = true := by subst hF hU; exact kd1
  have k2 : ¬ F.pB (F.lti (F.int 0) (F.int (F.lenB b))) false → ¬ F.pB (F.eq8 (F.getB b (F.nat (F.int 0))) (F.ofI8 (F.int 2))) false → F.eqi (U.kind b) (F.wrapi (F.toI8 (F.getB b (F.nat (F.int 0))))) = true := by subst hF hU; exact kd2
  have k3 : ¬ F.pB (F.lti (F.int 0) (F.int (F.lenB b))) true → F.eqi (U.kind b) (F.int 0) = true := by subst hF hU; exact kd3
  have k4 : ¬ F.pB (F.eq8 (F.getB b (F.nat (F.int 0))) (F.ofI8 (F.int 1))) true → ¬ F.pB (F.eq8 (F.getB b (F.nat (F.int 0))) (F.ofI8 (F.int 2))) true → F.eqi (U.kind b) (F.int 0) = true := by subst hF hU; exact kd4
  cbv
  repeat' first | apply And.intro | refine Classical.or_iff_not_imp_left.2 (fun _ => ?_) | exact trivial
  all_goals try (subst hF hU; simp only [real, us, Nat.le_eq, Int.cast_ofNat_Int, decide_eq_false_iff_not, decide_eq_true_eq, List.length_take, List.length_drop, List.length_append, List.length_replicate, List.length_set, List.length_cons, List.length_nil, List.length_zipWith] at *; (try simp (disch := omega) only [wrap_sm] at *); omega)
  all_goals first
    | exact fL
    | exact fK
    | exact fQ
    | (rename_i h; exact absurd fP h)
    | (rename_i h; exact absurd fS h)
    | (rename_i h; exact absurd (fB _) h)
    | (rename_i g h; exact absurd (fE g) h)
    | (rename_i g h; exact absurd (fD g) h)
    | exact k1 (by assumption) (by assumption)
    | exact k2 (by assumption) (by assumption)
    | exact k3 (by assumption)
    | exact k4 (by assumption) (by assumption)
end Go.Proofs.Ytmldccfchnlpgaa
namespace Go.Proofs.Ytmldccfchnlpgaa.nodeReads
open Go.ChangeShapes Go.WideShapes Go.ChangeAt Go.RowKit
set_option linter.unusedVariables false
theorem own : ownKnob Try.prog.godebug = none := by kernel_rfl
theorem laidOut : laidOutB Try.prog = true := p_laidOut
set_option maxRecDepth 100000 in
theorem lifted (os : Os) (started : os.Started) (H : Type) (enc : TypeId × Value → H) :
    ReturnsInHanded {} Try.checked os 12 .any (Rows.nodeReadsSpec.pre6 enc Try.prog Try.f12 Rows.nodeReadsRow.domain false) (Rows.nodeReadsSpec.post enc Try.prog Try.f12 false true false false) := by
  refine returnsInHanded_of_change (C := Try.checked) own started (by kernel_rfl) Try.func12
    (ChangeSpec.witness6 (enc := enc) (C := Try.checked) false ⟨#[], #[.slice none 0 0], []⟩ 8 (by kernel_rfl) (by kernel_rfl) (by kernel_rfl) (by kernel_rfl)) ?_
  intro W base args ds gs before hval0 hW hcnd _
  have hval : ∀ (j : Nat) t v, Try.f12.params[j]? = some t → args[j]? = some v → Value.okWide Try.prog W .any base t v := hval0
  have hW' := hW
  obtain ⟨p, q, hA0, hV, rfl, hfz, hnd⟩ := hW
  have hA : DataW.TrodAll enc Try.prog W 0 (fun _ => true) true Try.f12.params.toList args.toList ds p := hA0
  rw [Try.params12] at hA hval
  obtain ⟨v0, vs0, d0, ds0, p0, q0, hargs, rfl, rfl, h0, r0⟩ := trodAll_cons hA
  obtain ⟨rfl, rfl, rfl⟩ := trodAll_nil r0
  obtain rfl : args = #[v0] := by cases args; simp_all
  obtain ⟨rfl, rfl⟩ := trodVars_none hV
  obtain ⟨b, k0, q0⟩ := Go.Vc.openL8 Try.underlying27 Try.underlying5 (by kernel_rfl) (hval 0 27 v0 rfl rfl) h0
  clear hA0 hval0
  refine (Go.Vc.law_walk2 (x := x_law8_NodeReads Go.Vc.real us) (an := []) (cu := []) (l := [.rb 1 (.bt b)]) (vals := [v0]) ⟨tt_ok, ok_law8_NodeReads, Go.Vc.ks_nil⟩ mixed Try.func12 rfl rfl (by kernel_rfl) (Nat.le_of_ble_eq_true rfl) (Go.Vc.rvs_cons k0 Go.Vc.rvs_nil) (c_law8_NodeReads b q0)).mono fun e W' ⟨he, bel⟩ => ?_
  subst he
  exact ⟨_, rfl, Go.Vc.post_true (tb := 4) laidOut (by kernel_rfl) rfl Try.underlying4 rfl hW' rfl bel⟩
theorem over : Rows.nodeReadsRow.holds Try.pinned (OpenSpec.ofChange Rows.nodeReadsSpec) :=
  OpenClaim.holds_of_wide 12 Try.f12 rfl rfl rfl rfl rfl rfl rfl ⟨rfl, rfl, rfl, rfl, rfl⟩ rfl rfl rfl rfl rfl (by kernel_rfl) Try.func12 (Go.Vc.joined_of p_laidOut p_maps p_stops p_knobs p_heard p_mayEnter p_lifts p_make rfl rfl (by kernel_rfl) (by kernel_rfl) (by kernel_rfl) (by kernel_rfl) (by kernel_rfl) (by kernel_rfl) (by kernel_rfl) (by kernel_rfl) (by kernel_rfl) (by kernel_rfl) (by kernel_rfl) (by kernel_rfl) (by kernel_rfl) (by kernel_rfl) (by kernel_rfl) (by kernel_rfl) (by kernel_rfl) (by kernel_rfl) (by kernel_rfl) (by kernel_rfl) (by kernel_rfl) (by kernel_rfl) (by kernel_rfl) (by kernel_rfl) )
    (of_decide_eq_true (by kernel_rfl)) (by unfold Func.isWrapper; first | (rw [if_pos (by decide +kernel)]; kernel_rfl) | (rw [if_neg (by decide +kernel)]; exact ⟨rfl, rfl⟩))
    (fun os started H enc _ => lifted os started H enc)
theorem proved : Rows.NodeReadsSaid := over
#print axioms proved
end Go.Proofs.Ytmldccfchnlpgaa.nodeReads

