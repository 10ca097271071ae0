/- The given statement is proved: for every input the law's function answers true. No condition. -/
import Derived.Test.YtmldccfchnlpgaaRows
import Derived.Test.YtmldccfchnlpgaaPart6
import Derived.Test.YtmldccfchnlpgaaPart7
import Derived.WalkKit
import Derived.HandedShaped
import Derived.ProofKit
import Derived.OpenShut
import Derived.ShutString
set_option linter.unusedVariables false
set_option linter.unusedSimpArgs false
set_option maxRecDepth 100000
set_option maxHeartbeats 1000000
namespace Go.Proofs.Ytmldccfchnlpgaa
open Go Go.Vc
noncomputable abbrev pI (p q r : List UInt8) : List UInt8 := real.appB (real.appB p q) r
theorem pa_ge (p q r : List UInt8) : real.pB (real.lti (us.find (pI p q r) q) (real.int 0)) false := by
  have := (find_mid p q r).1
  exact decide_eq_false (by show ¬ u_find (p ++ q ++ r) q < 0; omega)
theorem pa_le (p q r : List UInt8) : real.pB (real.lti (real.int (real.lenB p)) (us.find (pI p q r) q)) false := by
  have := (find_mid p q r).2
  exact decide_eq_false (by show ¬ (p.length : Int) < u_find (p ++ q ++ r) q; omega)
theorem pa_len {n : Nat} {p : List UInt8} (h : ¬ real.pB (real.lti (real.int n) (real.int (real.lenB p))) true) : p.length ≤ n := by
  by_cases e : n < p.length
  · exact absurd (decide_eq_true (show (n : Int) < (p.length : Int) by omega)) h
  · omega
theorem pa_nat {p q r : List UInt8} (hp : p.length ≤ 200) (hq : q.length ≤ 60) : real.nat (real.addi (us.find (pI p q r) q) (real.int (real.lenB q))) = real.nat (us.find (pI p q r) q) + q.length := by
  have h := find_mid p q r
  show (IntKind.i64.wrap (u_find (p ++ q ++ r) q + (q.length : Int))).toNat = (u_find (p ++ q ++ r) q).toNat + q.length
  rw [wrap_sm (by omega) (by omega)]
  omega
theorem pa_cut {p q r : List UInt8} (hp : p.length ≤ 200) (hq : q.length ≤ 60) : real.pB (real.notb (real.eqB (real.cutB (pI p q r) (real.nat (us.find (pI p q r) q)) (real.subn (real.nat (real.addi (us.find (pI p q r) q) (real.int (real.lenB q)))) (real.nat (us.find (pI p q r) q)))) q)) false := by
  rw [pa_nat hp hq]
  have h := (find_cut (find_mid p q r).1).1
  show (!(((p ++ q ++ r).drop (u_find (p ++ q ++ r) q).toNat).take ((u_find (p ++ q ++ r) q).toNat + q.length - (u_find (p ++ q ++ r) q).toNat) == q)) = false
  rw [Nat.add_sub_cancel_left, h]
  simp
theorem pa_other {p q r : List UInt8} (h : ¬ real.pB (real.lti (us.find p q) (real.int 0)) true) : real.pB (real.eqi (us.find p q) (us.find (pI p q r) q)) true := by
  have h1 : 0 ≤ u_find p q := by
    by_cases e : u_find p q < 0
    · exact absurd (decide_eq_true e) h
    · omega
  have h2 := find_more (q ++ r) h1
  rw [← List.append_assoc] at h2
  show (u_find p q == u_find (p ++ q ++ r) q) = true
  rw [h2]
  simp
theorem pa_same (a : List UInt8) : real.pB (real.eqi (real.int (real.lenI (us.smL a a (us.smN a a)))) (real.int 0)) true := by
  show ((((u_smL a a (u_smN a a)).length : Nat) : Int) == 0) = true
  rw [smL_self]
  rfl
theorem ip0 {q : List UInt8} (h : ¬ real.pB (real.eqi (real.int (real.lenB q)) (real.int 0)) true) : 0 < q.length := by
  have h1 : ((q.length : Nat) : Int) ≠ 0 := eq0_f h
  omega
theorem pa_pl (p r : List UInt8) {q : List UInt8} (h : 0 < q.length) : real.pB (us.plain (pI p q r) q (real.int (real.lenB q))) true := by
  show u_plain (p ++ q ++ r) q (q.length : Int) = true
  rw [plain_len h]
  exact decide_eq_true (find_mid p q r).1
theorem pa_pl1 (p r : List UInt8) {q : List UInt8} (h : 0 < q.length) : us.plain (pI p q r) q (real.int 1) = true :=
  plain_mono (l2 := (q.length : Int)) (by show (1 : Int) ≤ _; omega) (pa_pl p r h)
theorem pa_p0 (p q r : List UInt8) : real.p0 (us.find (pI p q r) q) := (find_mid p q r).1
theorem ip5 : real.pB (real.notb true) false := rfl
end Go.Proofs.Ytmldccfchnlpgaa
attribute [local irreducible] Go.Proofs.Ytmldccfchnlpgaa.u_uwE Go.Proofs.Ytmldccfchnlpgaa.u_uwK Go.Proofs.Ytmldccfchnlpgaa.u_cut48 Go.Proofs.Ytmldccfchnlpgaa.u_wrI Go.Proofs.Ytmldccfchnlpgaa.u_wrO Go.Proofs.Ytmldccfchnlpgaa.u_wrF Go.Proofs.Ytmldccfchnlpgaa.u_wrp Go.Proofs.Ytmldccfchnlpgaa.u_smL Go.Proofs.Ytmldccfchnlpgaa.u_smN Go.Proofs.Ytmldccfchnlpgaa.u_find Go.Proofs.Ytmldccfchnlpgaa.u_plain Go.Proofs.Ytmldccfchnlpgaa.u_wm
namespace Go.Proofs.Ytmldccfchnlpgaa
open Go Go.Vc
noncomputable def sp_law27_ImageParts (F : Fs) (U : Us) : Specs := [(81, s_law27_known F U), (84, s_image_Find F U), (83, s_image_Same F U), (85, s_image_Plain F U)]
theorem ok_law27_ImageParts : SpecsOK Try.prog (sp_law27_ImageParts real us) := sp_cons r_law27_known k_law27_known (sp_cons r_image_Find k_image_Find (sp_cons r_image_Same k_image_Same (sp_cons r_image_Plain k_image_Plain sp_nil)))
noncomputable def x_law27_ImageParts (F : Fs) (U : Us) : Cx := ⟨Try.f28.ntmps, tt F, sp_law27_ImageParts F U, [], [(7, ([(18, [13, 15, 16])], []))], [], []⟩
theorem c_law27_ImageParts (p q r : List UInt8) (q0 : p.length ≤ 9223372036854775807) (q1 : q.length ≤ 9223372036854775807) (q2 : r.length ≤ 9223372036854775807) : vc real (x_law27_ImageParts real us) [] [] (Try.f28.body.getD .skip) ⟨zipSl 0 [.rb 1 (.bt p), .rb 1 (.bt q), .rb 1 (.bt r)], [], 64⟩ (retOk real (tt real) false Try.f28.results.toList [.val (.b true)]) := by
  generalize hU : us = U
  generalize hF : real = F
  cbv
  repeat' first | apply And.intro | refine Classical.or_iff_not_imp_left.2 (fun _ => ?_) | exact trivial
  all_goals try (subst hF hU; simp only [real, us, Nat.le_eq, Int.cast_ofNat_Int, decide_eq_false_iff_not, decide_eq_true_eq, List.length_take, List.length_drop, List.length_append, List.length_replicate, List.length_set, List.length_cons, List.length_nil, List.length_zipWith] at *; (try simp (disch := omega) only [wrap_sm] at *); omega)
  all_goals subst hF hU
  all_goals first
    | exact absurd ip5 (by assumption)
    | exact pa_pl1 _ _ (ip0 (by assumption))
    | exact absurd (pa_pl _ _ (ip0 (by assumption))) (by assumption)
    | exact absurd (pa_same _) (by assumption)
    | exact absurd (pa_other (by assumption)) (by assumption)
    | exact absurd (pa_cut (p := p) (q := q) (r := r) (pa_len (by assumption)) (pa_len (by assumption))) (by assumption)
    | exact absurd (pa_ge _ _ _) (by assumption)
    | exact absurd (pa_le _ _ _) (by assumption)
    | exact pa_p0 _ _ _
end Go.Proofs.Ytmldccfchnlpgaa
namespace Go.Proofs.Ytmldccfchnlpgaa.imageParts
open Go.ChangeShapes Go.WideShapes Go.ChangeAt Go.RowKit
set_option linter.unusedVariables false
theorem own : ownKnob Try.prog.godebug = none := by kernel_rfl
theorem laidOut : laidOutB Try.prog = true := p_laidOut
set_option maxRecDepth 100000 in
theorem lifted (os : Os) (started : os.Started) (H : Type) (enc : TypeId × Value → H) :
    ReturnsInHanded {} Try.checked os 28 .any (Rows.imagePartsSpec.pre6 enc Try.prog Try.f28 Rows.imagePartsRow.domain false) (Rows.imagePartsSpec.post enc Try.prog Try.f28 false true false false) := by
  refine returnsInHanded_of_change_shaped (C := Try.checked) own started (by kernel_rfl) Try.func28
    (ChangeSpec.witness6 (enc := enc) (C := Try.checked) false ⟨#[], #[.slice none 0 0, .slice none 0 0, .slice none 0 0], []⟩ 8 (by kernel_rfl) (by kernel_rfl) (by kernel_rfl) (by kernel_rfl)) ?_
  intro W base args ds gs before hval0 hW hcnd hrch hsh _
  have hval : ∀ (j : Nat) t v, Try.f28.params[j]? = some t → args[j]? = some v → Value.okWide Try.prog W .any base t v := hval0
  have hW' := hW
  obtain ⟨p, q, hA0, hV, rfl, hfz, hnd⟩ := hW
  have hA : DataW.TrodAll enc Try.prog W 0 (fun _ => true) true Try.f28.params.toList args.toList ds p := hA0
  rw [Try.params28] at hA hval
  obtain ⟨v0, vs0, d0, ds0, p0, q0, hargs, rfl, rfl, h0, r0⟩ := trodAll_cons hA
  obtain ⟨v1, vs1, d1, ds1, p1, q1, rfl, rfl, rfl, h1, r1⟩ := trodAll_cons r0
  obtain ⟨v2, vs2, d2, ds2, p2, q2, rfl, rfl, rfl, h2, r2⟩ := trodAll_cons r1
  obtain ⟨rfl, rfl, rfl⟩ := trodAll_nil r2
  obtain rfl : args = #[v0, v1, v2] := by cases args; simp_all
  obtain ⟨rfl, rfl⟩ := trodVars_none hV
  obtain ⟨p, k0, q0⟩ := Go.Vc.openL8 Try.underlying27 Try.underlying5 (by kernel_rfl) (hval 0 27 v0 rfl rfl) h0
  obtain ⟨q, k1, q1⟩ := Go.Vc.openL8 Try.underlying27 Try.underlying5 (by kernel_rfl) (hval 1 27 v1 rfl rfl) h1
  obtain ⟨r, k2, q2⟩ := Go.Vc.openL8 Try.underlying27 Try.underlying5 (by kernel_rfl) (hval 2 27 v2 rfl rfl) h2
  clear hA0 hval0
  refine (Go.Vc.law_walk2 (x := x_law27_ImageParts Go.Vc.real us) (an := []) (cu := []) (l := [.rb 1 (.bt p), .rb 1 (.bt q), .rb 1 (.bt r)]) (vals := [v0, v1, v2]) ⟨tt_ok, ok_law27_ImageParts, Go.Vc.ks_nil⟩ mixed Try.func28 rfl rfl (by kernel_rfl) hsh (Nat.le_of_ble_eq_true rfl) (Go.Vc.rvs_cons k0 (Go.Vc.rvs_cons k1 (Go.Vc.rvs_cons k2 Go.Vc.rvs_nil))) (c_law27_ImageParts p q r q0 q1 q2)).mono fun e W' ⟨he, bel⟩ => ?_
  subst he
  exact ⟨_, rfl, Go.Vc.post_true (tb := 4) laidOut (by kernel_rfl) rfl Try.underlying4 rfl hW' rfl bel⟩
theorem over : Rows.imagePartsRow.holds Try.pinned (OpenSpec.ofChange Rows.imagePartsSpec) :=
  OpenClaim.holds_of_wide 28 Try.f28 rfl rfl rfl rfl rfl rfl rfl ⟨rfl, rfl, rfl, rfl, rfl⟩ rfl rfl rfl rfl rfl (by kernel_rfl) Try.func28 (Go.Vc.joined_of p_laidOut p_maps p_stops p_knobs p_heard p_mayEnter p_lifts p_make rfl rfl (by kernel_rfl) (by kernel_rfl) (by kernel_rfl) (by kernel_rfl) (by kernel_rfl) (by kernel_rfl) (by kernel_rfl) (by kernel_rfl) (by kernel_rfl) (by kernel_rfl) (by kernel_rfl) (by kernel_rfl) (by kernel_rfl) (by kernel_rfl) (by kernel_rfl) (by kernel_rfl) (by kernel_rfl) (by kernel_rfl) (by kernel_rfl) (by kernel_rfl) (by kernel_rfl) (by kernel_rfl) (by kernel_rfl) (by kernel_rfl) )
    (of_decide_eq_true (by kernel_rfl)) (by unfold Func.isWrapper; first | (rw [if_pos (by decide +kernel)]; kernel_rfl) | (rw [if_neg (by decide +kernel)]; exact ⟨rfl, rfl⟩))
    (fun os started H enc _ => lifted os started H enc)
theorem proved : Rows.ImagePartsSaid := over
#print axioms proved
end Go.Proofs.Ytmldccfchnlpgaa.imageParts

