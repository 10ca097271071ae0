/- The given statement is proved: for every input the law's function answers true. No condition. -/
import Derived.Test.YtmldccfchnlpgaaRows
import Derived.Test.YtmldccfchnlpgaaPart6
import Derived.WalkKit
import Derived.ProofKit
import Derived.OpenShut
import Derived.ShutString
set_option linter.unusedVariables false
set_option linter.unusedSimpArgs false
set_option maxRecDepth 100000
set_option maxHeartbeats 1000000
namespace Go.Proofs.Ytmldccfchnlpgaa
open Go Go.Vc
noncomputable abbrev aM (l : List D) : List UInt8 := us.leafB l
noncomputable abbrev cM (ks : List (List UInt8)) (kids : List UInt32) : List UInt8 := us.brB ks kids
theorem m1_eq {n : Nat} (h : n ≤ 480) (h3 : 3 ≤ n) : real.subi (real.int n) (real.int 1) = ((n - 1 : Nat) : Int) := by
  show IntKind.i64.wrap ((n : Int) - 1) = _
  rw [wrap_sm (by omega) (by omega)]; omega
abbrev E0 (l : List D) : Prop := ¬ real.pB (real.eqi (us.leafE l) (real.int 0)) false
theorem e0_of {l : List D} (h : E0 l) : u_leafE l = 0 := by
  have h1 : ¬ ((u_leafE l == 0) = false) := h
  simpa using h1
theorem f1 (l : List D) : real.pLe (real.lenB (us.leafB l)) 900000 := by
  have := leaf_long l
  show (u_leafB l).length ≤ 900000
  omega
theorem fa (l : List D) : real.pB (real.lti (real.int 480) (real.int (real.lenB (us.leafB l)))) false := by
  have := leaf_long l
  show decide ((480 : Int) < ((u_leafB l).length : Int)) = false
  exact decide_eq_false (by omega)
theorem f2 (l : List D) : real.pCap (real.lenB (us.leafB l)) 1 := by
  have := leaf_long l
  show (u_leafB l).length * 1 ≤ 140737488355328 ∧ (u_leafB l).length ≤ 4611686018427387904
  omega
theorem f3 (l : List D) (x : UInt8) : real.pCap (real.addn (real.lenB (us.leafB l)) (real.lenB [x])) 1 := by
  have := leaf_long l
  show ((u_leafB l).length + 1) * 1 ≤ 140737488355328 ∧ (u_leafB l).length + 1 ≤ 4611686018427387904
  omega
theorem f4 (l : List D) (x : UInt8) : real.pLe (real.lenB (real.appB (us.leafB l) [x])) 900000 := by
  have := leaf_long l
  show (u_leafB l ++ [x]).length ≤ 900000
  rw [List.length_append, List.length_singleton]
  omega
section
variable {l : List D} (hp : ∀ x ∈ l, isPair x) (h : E0 l) (more : UInt8)
include hp h
theorem f5a : real.subi (real.int (real.lenB (us.leafB l))) (real.int 1) = (((u_leafB l).length - 1 : Nat) : Int) :=
  m1_eq (leaf_long l) (leaf_back hp (e0_of h) 0).2.2.2.2.2.2
theorem f5 : real.p0 (real.subi (real.int (real.lenB (us.leafB l))) (real.int 1)) := by
  rw [f5a hp h]
  show (0 : Int) ≤ _
  omega
theorem f6 : real.pLe (real.nat (real.subi (real.int (real.lenB (us.leafB l))) (real.int 1))) (real.lenB (us.leafB l)) := by
  rw [f5a hp h]
  show (u_leafB l).length - 1 ≤ (u_leafB l).length
  omega
theorem f7 : real.pLe (real.addn 0 (real.nat (real.subi (real.int (real.lenB (us.leafB l))) (real.int 1)))) (real.lenB (us.leafB l)) := by
  rw [f5a hp h]
  show 0 + ((u_leafB l).length - 1) ≤ (u_leafB l).length
  omega
theorem f8a : real.cutB (us.leafB l) 0 (real.nat (real.subi (real.int (real.lenB (us.leafB l))) (real.int 1))) = (u_leafB l).take ((u_leafB l).length - 1) := by
  rw [f5a hp h]
  rfl
theorem f8 : real.pLe (real.lenB (real.cutB (us.leafB l) 0 (real.nat (real.subi (real.int (real.lenB (us.leafB l))) (real.int 1))))) 900000 := by
  rw [f8a hp h]
  have := leaf_long l
  show ((u_leafB l).take ((u_leafB l).length - 1)).length ≤ 900000
  rw [List.length_take]
  omega
theorem f9 (hl : l.length ≤ 1000000000000) : real.pLe (real.lenD (us.rlB (us.leafB l))) 1000000000000 := by
  have e : us.rlB (us.leafB l) = l := (leaf_back hp (e0_of h) 0).2.1
  rw [e]; exact hl
theorem fb : real.pB (real.notb (real.eqi (real.int (real.lenB (us.leafB l))) (us.nsz l (real.lenD l)))) false := by
  show (!(((u_leafB l).length : Int) == u_nsz l l.length)) = false
  rw [(leaf_back hp (e0_of h) 0).2.2.2.2.2.1]
  simp
theorem fc : real.pB (real.eqi (us.rbE (us.leafB l)) (real.int 0)) false := by
  have e : us.rbE (us.leafB l) = 90 := (leaf_back hp (e0_of h) 0).2.2.2.2.1
  rw [e]; rfl
theorem fd : real.pB (real.eqi (us.rlE (real.cutB (us.leafB l) 0 (real.nat (real.subi (real.int (real.lenB (us.leafB l))) (real.int 1))))) (real.int 0)) false := by
  rw [f8a hp h]
  have e := (leaf_back hp (e0_of h) 0).2.2.2.1
  rw [e]; rfl
theorem fe : real.pB (real.eqi (us.rlE (real.appB (us.leafB l) [more])) (real.int 0)) false := by
  have e : us.rlE (real.appB (us.leafB l) [more]) = 90 := (leaf_back hp (e0_of h) more).2.2.1
  rw [e]; rfl
theorem ff : real.pB (real.notb (us.prs (us.rlB (us.leafB l)) l)) false := by
  have e : us.rlB (us.leafB l) = l := (leaf_back hp (e0_of h) 0).2.1
  rw [e, prs_self]; rfl
theorem fg : real.pB (real.notb (real.eqi (us.rlE (us.leafB l)) (real.int 0))) false := by
  have e : us.rlE (us.leafB l) = 0 := (leaf_back hp (e0_of h) 0).1
  rw [e]; rfl
end
abbrev G0 (ks : List (List UInt8)) (kids : List UInt32) : Prop := ¬ real.pB (real.eqi (us.brE ks kids) (real.int 0)) false
theorem g0_of {ks : List (List UInt8)} {kids : List UInt32} (h : G0 ks kids) : u_brE ks kids = 0 := by
  have h1 : ¬ ((u_brE ks kids == 0) = false) := h
  simpa using h1
theorem g1 (ks : List (List UInt8)) (kids : List UInt32) : real.pLe (real.lenB (us.brB ks kids)) 900000 := by
  have := br_long ks kids
  show (u_brB ks kids).length ≤ 900000
  omega
theorem ga (ks : List (List UInt8)) (kids : List UInt32) : real.pB (real.lti (real.int 480) (real.int (real.lenB (us.brB ks kids)))) false := by
  have := br_long ks kids
  show decide ((480 : Int) < ((u_brB ks kids).length : Int)) = false
  exact decide_eq_false (by omega)
section
variable {ks : List (List UInt8)} {kids : List UInt32} (h : G0 ks kids)
include h
theorem gK (hk : ks.length ≤ 1000000000000) : real.pLe (real.lenS (us.rbK (us.brB ks kids))) 1000000000000 := by
  have e : us.rbK (us.brB ks kids) = ks := (br_back (g0_of h)).2.1
  rw [e]; exact hk
theorem gQ (hk : kids.length ≤ 1000000000000) : real.pLe (real.lenW (us.rbQ (us.brB ks kids))) 1000000000000 := by
  have e : us.rbQ (us.brB ks kids) = kids := (br_back (g0_of h)).2.2.1
  rw [e]; exact hk
theorem gb : real.pB (real.eqi (us.rlE (us.brB ks kids)) (real.int 0)) false := by
  have e : us.rlE (us.brB ks kids) = 90 := (br_back (g0_of h)).2.2.2
  rw [e]; rfl
theorem gc : real.pB (real.notb (us.sam (us.rbK (us.brB ks kids)) (us.rbQ (us.brB ks kids)) ks kids)) false := by
  have e1 : us.rbK (us.brB ks kids) = ks := (br_back (g0_of h)).2.1
  have e2 : us.rbQ (us.brB ks kids) = kids := (br_back (g0_of h)).2.2.1
  rw [e1, e2, sam_self]; rfl
theorem gd : real.pB (real.notb (real.eqi (us.rbE (us.brB ks kids)) (real.int 0))) false := by
  have e : us.rbE (us.brB ks kids) = 0 := (br_back (g0_of h)).1
  rw [e]; rfl
end
theorem z1 {l m : List D} (hl : ∀ x ∈ l, isPair x) (hm : ∀ x ∈ m, isPair x) (h1 : ¬ real.pB (real.notb (real.eqi (us.leafE l) (real.int 0))) true) (h2 : ¬ real.pB (real.notb (real.eqi (us.leafE m) (real.int 0))) true) : real.eqb (real.eqB (us.leafB l) (us.leafB m)) (us.prs l m) = true := by
  have a1 : ¬ ((!(u_leafE l == 0)) = true) := h1
  have a2 : ¬ ((!(u_leafE m == 0)) = true) := h2
  have e1 : u_leafE l = 0 := by simpa using a1
  have e2 : u_leafE m = 0 := by simpa using a2
  have e : real.eqB (us.leafB l) (us.leafB m) = us.prs l m := leaf_same hl hm e1 e2
  rw [e]
  cases us.prs l m <;> rfl
attribute [local irreducible] u_leafE u_leafB u_brE u_brB u_lf u_bf u_nsz u_prs u_sam
end Go.Proofs.Ytmldccfchnlpgaa
namespace Go.Proofs.Ytmldccfchnlpgaa
open Go Go.Vc
noncomputable def sp_law8_NodeBack (F : Fs) (U : Us) : Specs := [(48, s_law8_known F U), (49, s_node_Leaf F U), (50, s_node_Branch F U), (54, s_node_ReadLeaf F U), (52, s_node_ReadBranch F U), (51, s_node_Size F U), (57, s_law8_pairs F U), (53, s_law8_same F U)]
theorem ok_law8_NodeBack : SpecsOK Try.prog (sp_law8_NodeBack real us) := sp_cons r_law8_known k_law8_known (sp_cons r_node_Leaf k_node_Leaf (sp_cons r_node_Branch k_node_Branch (sp_cons r_node_ReadLeaf k_node_ReadLeaf (sp_cons r_node_ReadBranch k_node_ReadBranch (sp_cons r_node_Size k_node_Size (sp_cons r_law8_pairs k_law8_pairs (sp_cons r_law8_same k_law8_same sp_nil)))))))
noncomputable def cu_law8_NodeBack (F : Fs) (U : Us) (l m : List D) (ks : List (List UInt8)) (kids : List UInt32) (more : UInt8) : Anns := [(8, ⟨Nat, fun _ => True, fun i => i, fun _ => ⟨[(0, .rb 2 (.ds (.t [.s, .s]) l)), (1, .rb 2 (.ds (.t [.s, .s]) m)), (2, .rb 1 (.ss ks)), (3, .rb 1 (.wd kids)), (4, .w8 more), (11, .rw 1), (12, .i (U.leafE l)), (13, .rw 2), (14, .i (U.leafE m)), (15, .rw 3), (16, .i (U.brE ks kids))], [(11, 1, .row 5 1 (.bt (U.leafB l))), (13, 2, .row 5 1 (.bt (U.leafB m))), (15, 3, .row 5 1 (.bt (U.brB ks kids)))]⟩⟩),
  (15, ⟨Nat, fun _ => True, fun i => i, fun _ => ⟨[(0, .rb 2 (.ds (.t [.s, .s]) l)), (1, .rb 2 (.ds (.t [.s, .s]) m)), (2, .rb 1 (.ss ks)), (3, .rb 1 (.wd kids)), (11, .rw 1), (12, .i (U.leafE l)), (13, .rw 2), (14, .i (U.leafE m)), (15, .rw 3), (16, .i (U.brE ks kids))], [(11, 1, .row 5 1 (.bt (U.leafB l))), (13, 2, .row 5 1 (.bt (U.leafB m))), (15, 3, .row 5 1 (.bt (U.brB ks kids)))]⟩⟩),
  (20, ⟨Nat, fun _ => True, fun i => i, fun _ => ⟨[(0, .rb 2 (.ds (.t [.s, .s]) l)), (1, .rb 2 (.ds (.t [.s, .s]) m)), (11, .rw 1), (12, .i (U.leafE l)), (13, .rw 2), (14, .i (U.leafE m))], [(11, 1, .row 5 1 (.bt (U.leafB l))), (13, 2, .row 5 1 (.bt (U.leafB m)))]⟩⟩)]
noncomputable def x_law8_NodeBack (F : Fs) (U : Us) : Cx := ⟨Try.f13.ntmps, tt F, sp_law8_NodeBack F U, [], [(20, ([(10, [8]), (14, [8, 10])], []))], [], []⟩
theorem c_law8_NodeBack (l m : List D) (ks : List (List UInt8)) (kids : List UInt32) (more : UInt8) (q0 : l.length ≤ 9223372036854775807) (m0 : ∀ x ∈ l, DF (.t [.s, .s]) x) (q1 : m.length ≤ 9223372036854775807) (m1 : ∀ x ∈ m, DF (.t [.s, .s]) x) (q2 : ks.length ≤ 9223372036854775807) (m2 : ∀ x ∈ ks, x.length ≤ 9223372036854775807) (q3 : kids.length ≤ 9223372036854775807) : vc real (x_law8_NodeBack real us) [] (cu_law8_NodeBack real us l m ks kids more) (Try.f13.body.getD .skip) ⟨zipSl 0 [.rb 2 (.ds (.t [.s, .s]) l), .rb 2 (.ds (.t [.s, .s]) m), .rb 1 (.ss ks), .rb 1 (.wd kids), .w8 more], [], 64⟩ (retOk real (tt real) false Try.f13.results.toList [.val (.b true)]) := by
  generalize hU : us = U
  generalize hF : real = F
  have hp := isPair_of m0
  have hpm := isPair_of m1
  cbv
  repeat' first | apply And.intro | refine Classical.or_iff_not_imp_left.2 (fun _ => ?_) | exact trivial
  all_goals try (subst hF hU; simp only [real, us, Nat.le_eq, Int.cast_ofNat_Int, decide_eq_false_iff_not, decide_eq_true_eq, List.length_take, List.length_drop, List.length_append, List.length_replicate, List.length_set, List.length_cons, List.length_nil, List.length_zipWith] at *; (try simp (disch := omega) only [wrap_sm] at *); omega)
  · refine ⟨(0 : Nat), ?_⟩
    cbv
  · rename_i g1 g2 g3 g4
    have hl : l.length ≤ 1000000000000 := by subst hF; have := ge_g (n := l.length) g1; omega
    have hks : ks.length ≤ 1000000000000 := by subst hF; have := ge_g (n := ks.length) g3; omega
    have hkd : kids.length ≤ 1000000000000 := by subst hF; have := ge_g (n := kids.length) g4; omega
    clear g1 g2 g3 g4
    intro (t : Nat) _
    have c1 : F.pLe (F.lenB (U.leafB l)) 900000 := by subst hF hU; exact f1 l
    have c2 : F.pCap (F.lenB (U.leafB l)) 1 := by subst hF hU; exact f2 l
    have c3 : F.pCap (F.addn (F.lenB (U.leafB l)) (F.lenB [more])) 1 := by subst hF hU; exact f3 l more
    have c4 : F.pLe (F.lenB (F.appB (U.leafB l) [more])) 900000 := by subst hF hU; exact f4 l more
    have h5 : ¬ F.pB (F.eqi (U.leafE l) (F.int 0)) false → F.p0 (F.subi (F.int (F.lenB (U.leafB l))) (F.int 1)) := by subst hF hU; exact f5 hp
    have h6 : ¬ F.pB (F.eqi (U.leafE l) (F.int 0)) false → F.pLe (F.nat (F.subi (F.int (F.lenB (U.leafB l))) (F.int 1))) (F.lenB (U.leafB l)) := by subst hF hU; exact f6 hp
    have h7 : ¬ F.pB (F.eqi (U.leafE l) (F.int 0)) false → F.pLe (F.addn 0 (F.nat (F.subi (F.int (F.lenB (U.leafB l))) (F.int 1)))) (F.lenB (U.leafB l)) := by subst hF hU; exact f7 hp
    have h8 : ¬ F.pB (F.eqi (U.leafE l) (F.int 0)) false → F.pLe (F.lenB (F.cutB (U.leafB l) 0 (F.nat (F.subi (F.int (F.lenB (U.leafB l))) (F.int 1))))) 900000 := by subst hF hU; exact f8 hp
    have h9 : ¬ F.pB (F.eqi (U.leafE l) (F.int 0)) false → F.pLe (F.lenD (U.rlB (U.leafB l))) 1000000000000 := by subst hF hU; exact fun h => f9 hp h hl
    have ha : ¬ F.pB (F.eqi (U.leafE l) (F.int 0)) false → F.pB (F.lti (F.int 480) (F.int (F.lenB (U.leafB l)))) false := by subst hF hU; exact fun _ => fa l
    have hb : ¬ F.pB (F.eqi (U.leafE l) (F.int 0)) false → F.pB (F.notb (F.eqi (F.int (F.lenB (U.leafB l))) (U.nsz l (F.lenD l)))) false := by subst hF hU; exact fb hp
    have hc : ¬ F.pB (F.eqi (U.leafE l) (F.int 0)) false → F.pB (F.eqi (U.rbE (U.leafB l)) (F.int 0)) false := by subst hF hU; exact fc hp
    have hd : ¬ F.pB (F.eqi (U.leafE l) (F.int 0)) false → F.pB (F.eqi (U.rlE (F.cutB (U.leafB l) 0 (F.nat (F.subi (F.int (F.lenB (U.leafB l))) (F.int 1))))) (F.int 0)) false := by subst hF hU; exact fd hp
    have he : ¬ F.pB (F.eqi (U.leafE l) (F.int 0)) false → F.pB (F.eqi (U.rlE (F.appB (U.leafB l) [more])) (F.int 0)) false := by subst hF hU; exact fun h => fe hp h more
    have hf : ¬ F.pB (F.eqi (U.leafE l) (F.int 0)) false → F.pB (F.notb (U.prs (U.rlB (U.leafB l)) l)) false := by subst hF hU; exact ff hp
    have hg : ¬ F.pB (F.eqi (U.leafE l) (F.int 0)) false → F.pB (F.notb (F.eqi (U.rlE (U.leafB l)) (F.int 0))) false := by subst hF hU; exact fg hp
    cbv
    repeat' first | apply And.intro | refine Classical.or_iff_not_imp_left.2 (fun _ => ?_) | exact trivial
    all_goals try (subst hF hU; simp only [real, us, Nat.le_eq, Int.cast_ofNat_Int, decide_eq_false_iff_not, decide_eq_true_eq, List.length_take, List.length_drop, List.length_append, List.length_replicate, List.length_set, List.length_cons, List.length_nil, List.length_zipWith] at *; (try simp (disch := omega) only [wrap_sm] at *); omega)
    all_goals first
      | exact c1
      | exact c2
      | exact c3
      | exact c4
      | exact h5 (by assumption)
      | exact h6 (by assumption)
      | exact h7 (by assumption)
      | exact h8 (by assumption)
      | exact h9 (by assumption)
      | (rename_i h; exact absurd (ha (by assumption)) h)
      | (rename_i h; exact absurd (hb (by assumption)) h)
      | (rename_i h; exact absurd (hc (by assumption)) h)
      | (rename_i h; exact absurd (hd (by assumption)) h)
      | (rename_i h; exact absurd (he (by assumption)) h)
      | (rename_i h; exact absurd (hf (by assumption)) h)
      | (rename_i h; exact absurd (hg (by assumption)) h)
      | (refine ⟨(0 : Nat), ?_⟩; cbv; done)
      | skip
    clear ha hb hc hd he hf hg h5 h6 h7 h8 h9 c1 c2 c3 c4
    intro (t : Nat) _
    have c1 : F.pLe (F.lenB (U.brB ks kids)) 900000 := by subst hF hU; exact g1 ks kids
    have ha : F.pB (F.lti (F.int 480) (F.int (F.lenB (U.brB ks kids)))) false := by subst hF hU; exact ga ks kids
    have hb : ¬ F.pB (F.eqi (U.brE ks kids) (F.int 0)) false → F.pB (F.eqi (U.rlE (U.brB ks kids)) (F.int 0)) false := by subst hF hU; exact gb
    have hc : ¬ F.pB (F.eqi (U.brE ks kids) (F.int 0)) false → F.pB (F.notb (U.sam (U.rbK (U.brB ks kids)) (U.rbQ (U.brB ks kids)) ks kids)) false := by subst hF hU; exact gc
    have hd : ¬ F.pB (F.eqi (U.brE ks kids) (F.int 0)) false → F.pB (F.notb (F.eqi (U.rbE (U.brB ks kids)) (F.int 0))) false := by subst hF hU; exact gd
    have hK : ¬ F.pB (F.eqi (U.brE ks kids) (F.int 0)) false → F.pLe (F.lenS (U.rbK (U.brB ks kids))) 1000000000000 := by subst hF hU; exact fun h => gK h hks
    have hQ : ¬ F.pB (F.eqi (U.brE ks kids) (F.int 0)) false → F.pLe (F.lenW (U.rbQ (U.brB ks kids))) 1000000000000 := by subst hF hU; exact fun h => gQ h hkd
    cbv
    repeat' first | apply And.intro | refine Classical.or_iff_not_imp_left.2 (fun _ => ?_) | exact trivial
    all_goals try (subst hF hU; simp only [real, us, Nat.le_eq, Int.cast_ofNat_Int, decide_eq_false_iff_not, decide_eq_true_eq, List.length_take, List.length_drop, List.length_append, List.length_replicate, List.length_set, List.length_cons, List.length_nil, List.length_zipWith] at *; (try simp (disch := omega) only [wrap_sm] at *); omega)
    all_goals first
      | exact c1
      | exact hK (by assumption)
      | exact hQ (by assumption)
      | (rename_i h; exact absurd ha h)
      | (rename_i h; exact absurd (hb (by assumption)) h)
      | (rename_i h; exact absurd (hc (by assumption)) h)
      | (rename_i h; exact absurd (hd (by assumption)) h)
      | (refine ⟨(0 : Nat), ?_⟩; cbv; done)
      | skip
    clear ha hb hc hd hK hQ
    intro (t : Nat) _
    have hz : ¬ F.pB (F.notb (F.eqi (U.leafE l) (F.int 0))) true → ¬ F.pB (F.notb (F.eqi (U.leafE m) (F.int 0))) true → F.eqb (F.eqB (U.leafB l) (U.leafB m)) (U.prs l m) = true := by subst hF hU; exact z1 hp hpm
    cbv
    repeat' first | apply And.intro | refine Classical.or_iff_not_imp_left.2 (fun _ => ?_) | exact trivial
    all_goals try (subst hF hU; simp only [real, us, Nat.le_eq, Int.cast_ofNat_Int, decide_eq_false_iff_not, decide_eq_true_eq, List.length_take, List.length_drop, List.length_append, List.length_replicate, List.length_set, List.length_cons, List.length_nil, List.length_zipWith] at *; (try simp (disch := omega) only [wrap_sm] at *); omega)
    · exact hz (by assumption) (by assumption)
end Go.Proofs.Ytmldccfchnlpgaa
namespace Go.Proofs.Ytmldccfchnlpgaa.nodeBack
open Go.ChangeShapes Go.WideShapes Go.ChangeAt Go.RowKit
set_option linter.unusedVariables false
theorem own : ownKnob Try.prog.godebug = none := by kernel_rfl
theorem laidOut : laidOutB Try.prog = true := p_laidOut
set_option maxRecDepth 100000 in
theorem lifted (os : Os) (started : os.Started) (H : Type) (enc : TypeId × Value → H) :
    ReturnsInHanded {} Try.checked os 13 .any (Rows.nodeBackSpec.pre6 enc Try.prog Try.f13 Rows.nodeBackRow.domain false) (Rows.nodeBackSpec.post enc Try.prog Try.f13 false true false false) := by
  refine returnsInHanded_of_change (C := Try.checked) own started (by kernel_rfl) Try.func13
    (ChangeSpec.witness6 (enc := enc) (C := Try.checked) false ⟨#[], #[.slice none 0 0, .slice none 0 0, .slice none 0 0, .slice none 0 0, .int .u8 0], []⟩ 8 (by kernel_rfl) (by kernel_rfl) (by kernel_rfl) (by kernel_rfl)) ?_
  intro W base args ds gs before hval0 hW hcnd _
  have hval : ∀ (j : Nat) t v, Try.f13.params[j]? = some t → args[j]? = some v → Value.okWide Try.prog W .any base t v := hval0
  have hW' := hW
  obtain ⟨p, q, hA0, hV, rfl, hfz, hnd⟩ := hW
  have hA : DataW.TrodAll enc Try.prog W 0 (fun _ => true) true Try.f13.params.toList args.toList ds p := hA0
  rw [Try.params13] at hA hval
  obtain ⟨v0, vs0, d0, ds0, p0, q0, hargs, rfl, rfl, h0, r0⟩ := trodAll_cons hA
  obtain ⟨v1, vs1, d1, ds1, p1, q1, rfl, rfl, rfl, h1, r1⟩ := trodAll_cons r0
  obtain ⟨v2, vs2, d2, ds2, p2, q2, rfl, rfl, rfl, h2, r2⟩ := trodAll_cons r1
  obtain ⟨v3, vs3, d3, ds3, p3, q3, rfl, rfl, rfl, h3, r3⟩ := trodAll_cons r2
  obtain ⟨v4, vs4, d4, ds4, p4, q4, rfl, rfl, rfl, h4, r4⟩ := trodAll_cons r3
  obtain ⟨rfl, rfl, rfl⟩ := trodAll_nil r4
  obtain rfl : args = #[v0, v1, v2, v3, v4] := by cases args; simp_all
  obtain ⟨rfl, rfl⟩ := trodVars_none hV
  obtain ⟨l, k0, q0, m0⟩ := Go.Vc.openLD (sh := .t [.s, .s]) Try.underlying56 (by kernel_rfl) (by decide) ⟨_, Try.underlying55, by kernel_rfl, ⟨rfl, by kernel_rfl, (by show _ = _; kernel_rfl), ⟨rfl, by kernel_rfl, (by show _ = _; kernel_rfl), trivial⟩⟩⟩ (hval 0 56 v0 rfl rfl) h0
  obtain ⟨m, k1, q1, m1⟩ := Go.Vc.openLD (sh := .t [.s, .s]) Try.underlying56 (by kernel_rfl) (by decide) ⟨_, Try.underlying55, by kernel_rfl, ⟨rfl, by kernel_rfl, (by show _ = _; kernel_rfl), ⟨rfl, by kernel_rfl, (by show _ = _; kernel_rfl), trivial⟩⟩⟩ (hval 1 56 v1 rfl rfl) h1
  obtain ⟨ks, k2, q2, m2⟩ := Go.Vc.openLS Try.underlying58 Try.underlying9 (by kernel_rfl) (hval 2 58 v2 rfl rfl) h2
  obtain ⟨kids, k3, q3⟩ := Go.Vc.openL32 Try.underlying59 Try.underlying22 (by kernel_rfl) (hval 3 59 v3 rfl rfl) h3
  obtain ⟨more, k4⟩ := Go.Vc.open8 Try.underlying5 (hval 4 5 v4 rfl rfl) h4
  clear hA0 hval0
  refine (Go.Vc.law_walk2 (x := x_law8_NodeBack Go.Vc.real us) (an := []) (cu := (cu_law8_NodeBack Go.Vc.real us l m ks kids more)) (l := [.rb 2 (.ds (.t [.s, .s]) l), .rb 2 (.ds (.t [.s, .s]) m), .rb 1 (.ss ks), .rb 1 (.wd kids), .w8 more]) (vals := [v0, v1, v2, v3, v4]) ⟨tt_ok, ok_law8_NodeBack, Go.Vc.ks_nil⟩ mixed Try.func13 rfl rfl (by kernel_rfl) (Nat.le_of_ble_eq_true rfl) (Go.Vc.rvs_cons k0 (Go.Vc.rvs_cons k1 (Go.Vc.rvs_cons k2 (Go.Vc.rvs_cons k3 (Go.Vc.rvs_cons k4 Go.Vc.rvs_nil))))) (c_law8_NodeBack l m ks kids more q0 m0 q1 m1 q2 m2 q3)).mono fun e W' ⟨he, bel⟩ => ?_
  subst he
  exact ⟨_, rfl, Go.Vc.post_true (tb := 4) laidOut (by kernel_rfl) rfl Try.underlying4 rfl hW' rfl bel⟩
theorem over : Rows.nodeBackRow.holds Try.pinned (OpenSpec.ofChange Rows.nodeBackSpec) :=
  OpenClaim.holds_of_wide 13 Try.f13 rfl rfl rfl rfl rfl rfl rfl ⟨rfl, rfl, rfl, rfl, rfl⟩ rfl rfl rfl rfl rfl (by kernel_rfl) Try.func13 (Go.Vc.joined_of p_laidOut p_maps p_stops p_knobs p_heard p_mayEnter p_lifts p_make rfl rfl (by kernel_rfl) (by kernel_rfl) (by kernel_rfl) (by kernel_rfl) (by kernel_rfl) (by kernel_rfl) (by kernel_rfl) (by kernel_rfl) (by kernel_rfl) (by kernel_rfl) (by kernel_rfl) (by kernel_rfl) (by kernel_rfl) (by kernel_rfl) (by kernel_rfl) (by kernel_rfl) (by kernel_rfl) (by kernel_rfl) (by kernel_rfl) (by kernel_rfl) (by kernel_rfl) (by kernel_rfl) (by kernel_rfl) (by kernel_rfl) )
    (of_decide_eq_true (by kernel_rfl)) (by unfold Func.isWrapper; first | (rw [if_pos (by decide +kernel)]; kernel_rfl) | (rw [if_neg (by decide +kernel)]; exact ⟨rfl, rfl⟩))
    (fun os started H enc _ => lifted os started H enc)
theorem proved : Rows.NodeBackSaid := over
#print axioms proved
end Go.Proofs.Ytmldccfchnlpgaa.nodeBack

