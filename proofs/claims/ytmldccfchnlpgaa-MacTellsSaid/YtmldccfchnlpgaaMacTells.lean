/- The given statement is proved: for every input the law's function answers true. No condition. -/
import Derived.Test.YtmldccfchnlpgaaRows
import Derived.Test.YtmldccfchnlpgaaPart6
import Derived.WalkKit
import Derived.ProofKit
import Derived.OpenShut
import Derived.ShutString
set_option linter.unusedVariables false
set_option linter.unusedSimpArgs false
set_option maxRecDepth 100000
set_option maxHeartbeats 1000000
namespace Go.Proofs.Ytmldccfchnlpgaa
open Go Go.Vc
theorem mt_eq (a b : List UInt8) : real.eqb (us.meq a b) (real.eqB a b) = true := by
  show (decide (a = b) == (a == b)) = true
  by_cases h : a = b
  · subst h; simp
  · rw [decide_eq_false h]; simp [h]
attribute [local irreducible] u_mac u_sum
end Go.Proofs.Ytmldccfchnlpgaa
namespace Go.Proofs.Ytmldccfchnlpgaa
open Go Go.Vc
noncomputable def sp_law3_MacTells (F : Fs) (U : Us) : Specs := [(59, s_law3_known F U), (60, s_mac_Mac F U), (64, s_mac_Extract F U), (61, s_mac_Expand F U), (62, s_mac_Derive F U), (63, s_mac_Equal F U), (65, s_ref2_Mac F U), (66, s_ref2_Expand F U), (67, s_ref2_Derive F U)]
theorem ok_law3_MacTells : SpecsOK Try.prog (sp_law3_MacTells real us) := sp_cons r_law3_known k_law3_known (sp_cons r_mac_Mac k_mac_Mac (sp_cons r_mac_Extract k_mac_Extract (sp_cons r_mac_Expand k_mac_Expand (sp_cons r_mac_Derive k_mac_Derive (sp_cons r_mac_Equal k_mac_Equal (sp_cons r_ref2_Mac k_ref2_Mac (sp_cons r_ref2_Expand k_ref2_Expand (sp_cons r_ref2_Derive k_ref2_Derive sp_nil))))))))
noncomputable def x_law3_MacTells (F : Fs) (U : Us) : Cx := ⟨Try.f19.ntmps, tt F, sp_law3_MacTells F U, [], [(7, ([(11, [8]), (20, [15, 18, 19]), (23, [19]), (24, [19]), (32, [28, 31]), (43, [41]), (45, [41, 43])], []))], [], [7]⟩
theorem c_law3_MacTells (a b k label : List UInt8) (n : UInt32) (m : Int) (q0 : a.length ≤ 9223372036854775807) (q1 : b.length ≤ 9223372036854775807) (q2 : k.length = 32) (q3 : label.length ≤ 9223372036854775807) (q5 : -9223372036854775808 ≤ m ∧ m ≤ 9223372036854775807) : vc real (x_law3_MacTells real us) [] [] (Try.f19.body.getD .skip) ⟨zipSl 0 [.rb 1 (.bt a), .rb 1 (.bt b), .ag 32 (.bt k), .s label, .w32 n, .i m], [], 64⟩ (retOk real (tt real) false Try.f19.results.toList [.val (.b true)]) := by
  generalize hU : us = U
  generalize hF : real = F
  have f4 : ∀ x e, F.pLe (F.addn 0 (F.nat (F.mini (F.maxi e (F.int 0)) (F.int 8160)))) (F.lenB (U.mxO k x (U.chN (F.repB (F.nat (F.mini (F.maxi e (F.int 0)) (F.int 8160))))))) := by subst hF hU; exact fun x e => sl_fit k x e
  have f5 : ∀ x, F.pB (F.eqB x x) true := by subst hF; exact eqB_self
  have f6 : F.eqb (U.meq a b) (F.eqB a b) = true := by subst hF hU; exact mt_eq a b
  cbv
  repeat' first | apply And.intro | refine Classical.or_iff_not_imp_left.2 (fun _ => ?_) | exact trivial
  all_goals try (subst hF hU; simp only [real, us, Nat.le_eq, Int.cast_ofNat_Int, decide_eq_false_iff_not, decide_eq_true_eq, List.length_take, List.length_drop, List.length_append, List.length_replicate, List.length_set, List.length_cons, List.length_nil, List.length_zipWith] at *; (try simp (disch := omega) only [wrap_sm] at *); omega)
  all_goals first
    | (subst hU; assumption)
    | exact f5 _
    | exact f4 _ _
    | exact f6
end Go.Proofs.Ytmldccfchnlpgaa
namespace Go.Proofs.Ytmldccfchnlpgaa.macTells
open Go.ChangeShapes Go.WideShapes Go.ChangeAt Go.RowKit
set_option linter.unusedVariables false
theorem own : ownKnob Try.prog.godebug = none := by kernel_rfl
theorem laidOut : laidOutB Try.prog = true := p_laidOut
set_option maxRecDepth 100000 in
theorem lifted (os : Os) (started : os.Started) (H : Type) (enc : TypeId × Value → H) :
    ReturnsInHanded {} Try.checked os 19 .any (Rows.macTellsSpec.pre6 enc Try.prog Try.f19 Rows.macTellsRow.domain false) (Rows.macTellsSpec.post enc Try.prog Try.f19 false true false false) := by
  refine returnsInHanded_of_change (C := Try.checked) own started (by kernel_rfl) Try.func19
    (ChangeSpec.witness6 (enc := enc) (C := Try.checked) false ⟨#[], #[.slice none 0 0, .slice none 0 0, .agg #[.int .u8 0, .int .u8 0, .int .u8 0, .int .u8 0, .int .u8 0, .int .u8 0, .int .u8 0, .int .u8 0, .int .u8 0, .int .u8 0, .int .u8 0, .int .u8 0, .int .u8 0, .int .u8 0, .int .u8 0, .int .u8 0, .int .u8 0, .int .u8 0, .int .u8 0, .int .u8 0, .int .u8 0, .int .u8 0, .int .u8 0, .int .u8 0, .int .u8 0, .int .u8 0, .int .u8 0, .int .u8 0, .int .u8 0, .int .u8 0, .int .u8 0, .int .u8 0], .string ByteArray.empty, .int .u32 0, .int .i64 0], []⟩ 8 (by kernel_rfl) (by kernel_rfl) (by kernel_rfl) (by kernel_rfl)) ?_
  intro W base args ds gs before hval0 hW hcnd _
  have hval : ∀ (j : Nat) t v, Try.f19.params[j]? = some t → args[j]? = some v → Value.okWide Try.prog W .any base t v := hval0
  have hW' := hW
  obtain ⟨p, q, hA0, hV, rfl, hfz, hnd⟩ := hW
  have hA : DataW.TrodAll enc Try.prog W 0 (fun _ => true) true Try.f19.params.toList args.toList ds p := hA0
  rw [Try.params19] at hA hval
  obtain ⟨v0, vs0, d0, ds0, p0, q0, hargs, rfl, rfl, h0, r0⟩ := trodAll_cons hA
  obtain ⟨v1, vs1, d1, ds1, p1, q1, rfl, rfl, rfl, h1, r1⟩ := trodAll_cons r0
  obtain ⟨v2, vs2, d2, ds2, p2, q2, rfl, rfl, rfl, h2, r2⟩ := trodAll_cons r1
  obtain ⟨v3, vs3, d3, ds3, p3, q3, rfl, rfl, rfl, h3, r3⟩ := trodAll_cons r2
  obtain ⟨v4, vs4, d4, ds4, p4, q4, rfl, rfl, rfl, h4, r4⟩ := trodAll_cons r3
  obtain ⟨v5, vs5, d5, ds5, p5, q5, rfl, rfl, rfl, h5, r5⟩ := trodAll_cons r4
  obtain ⟨rfl, rfl, rfl⟩ := trodAll_nil r5
  obtain rfl : args = #[v0, v1, v2, v3, v4, v5] := by cases args; simp_all
  obtain ⟨rfl, rfl⟩ := trodVars_none hV
  obtain ⟨a, k0, q0⟩ := Go.Vc.openL8 Try.underlying27 Try.underlying5 (by kernel_rfl) (hval 0 27 v0 rfl rfl) h0
  obtain ⟨b, k1, q1⟩ := Go.Vc.openL8 Try.underlying27 Try.underlying5 (by kernel_rfl) (hval 1 27 v1 rfl rfl) h1
  obtain ⟨k, k2, q2⟩ := Go.Vc.openA8 Try.underlying24 Try.underlying5 (by kernel_rfl) (by kernel_rfl) (hval 2 24 v2 rfl rfl) h2
  obtain ⟨label, k3, q3⟩ := Go.Vc.openS Try.underlying9 (hval 3 9 v3 rfl rfl) h3
  obtain ⟨n, k4⟩ := Go.Vc.open32 Try.underlying22 (hval 4 22 v4 rfl rfl) h4
  obtain ⟨m, k5, q5⟩ := Go.Vc.openI Try.underlying3 (hval 5 3 v5 rfl rfl) h5
  clear hA0 hval0
  refine (Go.Vc.law_walk2 (x := x_law3_MacTells Go.Vc.real us) (an := []) (cu := []) (l := [.rb 1 (.bt a), .rb 1 (.bt b), .ag 32 (.bt k), .s label, .w32 n, .i m]) (vals := [v0, v1, v2, v3, v4, v5]) ⟨tt_ok, ok_law3_MacTells, Go.Vc.ks_nil⟩ mixed Try.func19 rfl rfl (by kernel_rfl) (Nat.le_of_ble_eq_true rfl) (Go.Vc.rvs_cons k0 (Go.Vc.rvs_cons k1 (Go.Vc.rvs_cons k2 (Go.Vc.rvs_cons k3 (Go.Vc.rvs_cons k4 (Go.Vc.rvs_cons k5 Go.Vc.rvs_nil)))))) (c_law3_MacTells a b k label n m q0 q1 q2 q3 q5)).mono fun e W' ⟨he, bel⟩ => ?_
  subst he
  exact ⟨_, rfl, Go.Vc.post_true (tb := 4) laidOut (by kernel_rfl) rfl Try.underlying4 rfl hW' rfl bel⟩
theorem over : Rows.macTellsRow.holds Try.pinned (OpenSpec.ofChange Rows.macTellsSpec) :=
  OpenClaim.holds_of_wide 19 Try.f19 rfl rfl rfl rfl rfl rfl rfl ⟨rfl, rfl, rfl, rfl, rfl⟩ rfl rfl rfl rfl rfl (by kernel_rfl) Try.func19 (Go.Vc.joined_of p_laidOut p_maps p_stops p_knobs p_heard p_mayEnter p_lifts p_make rfl rfl (by kernel_rfl) (by kernel_rfl) (by kernel_rfl) (by kernel_rfl) (by kernel_rfl) (by kernel_rfl) (by kernel_rfl) (by kernel_rfl) (by kernel_rfl) (by kernel_rfl) (by kernel_rfl) (by kernel_rfl) (by kernel_rfl) (by kernel_rfl) (by kernel_rfl) (by kernel_rfl) (by kernel_rfl) (by kernel_rfl) (by kernel_rfl) (by kernel_rfl) (by kernel_rfl) (by kernel_rfl) (by kernel_rfl) (by kernel_rfl) )
    (of_decide_eq_true (by kernel_rfl)) (by unfold Func.isWrapper; first | (rw [if_pos (by decide +kernel)]; kernel_rfl) | (rw [if_neg (by decide +kernel)]; exact ⟨rfl, rfl⟩))
    (fun os started H enc _ => lifted os started H enc)
theorem proved : Rows.MacTellsSaid := over
#print axioms proved
end Go.Proofs.Ytmldccfchnlpgaa.macTells

