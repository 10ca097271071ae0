/- The given statement is proved: for every input the law's function answers true. No condition. -/
import Derived.Test.YtmldccfchnlpgaaRows
import Derived.Test.YtmldccfchnlpgaaPart6
import Derived.Test.YtmldccfchnlpgaaPart7
import Derived.WalkKit
import Derived.ProofKit
import Derived.OpenShut
import Derived.ShutString
set_option linter.unusedVariables false
set_option linter.unusedSimpArgs false
set_option maxRecDepth 100000
set_option maxHeartbeats 1000000
namespace Go.Proofs.Ytmldccfchnlpgaa
open Go Go.Vc
attribute [local irreducible] u_mac u_sum u_mdv u_seal u_nonce u_enc u_tag u_opB u_opE u_wrp u_uwE u_uwK
theorem st_p0 {k n aad raw : List UInt8} (hr : raw.length ≤ 200) (h : ¬ real.pB (real.eqi (us.opE k n aad raw) (real.int 0)) false) : real.p0 (real.subi (real.int (real.lenB raw)) (real.int 16)) := by
  have h1 : real.eqi (us.opE k n aad raw) (real.int 0) = true := trueF rfl h
  have h2 := (opE_ok ((eqi_iff _ _).1 h1)).1
  exact op_p0 (by omega) h2
theorem st_t {k n aad raw : List UInt8} (hr : raw.length ≤ 200) (h : ¬ real.pB (real.eqi (us.opE k n aad raw) (real.int 0)) false) : real.eqB (real.cutB (us.tag k n aad (real.cutB raw 0 (real.nat (real.subi (real.int (real.lenB raw)) (real.int 16))))) 0 16) (real.cutB raw (real.nat (real.subi (real.int (real.lenB raw)) (real.int 16))) (real.subn (real.lenB raw) (real.nat (real.subi (real.int (real.lenB raw)) (real.int 16))))) = true := by
  have h1 : real.eqi (us.opE k n aad raw) (real.int 0) = true := trueF rfl h
  have h2 := opE_ok ((eqi_iff _ _).1 h1)
  rw [cutTag]
  refine eqBy ?_
  have e1 : real.cutB raw (real.nat (opN raw)) (real.subn (real.lenB raw) (real.nat (opN raw))) = raw.drop (raw.length - 16) := op_x (by omega)
  have e2 : real.cutB raw 0 (real.nat (opN raw)) = raw.take (raw.length - 16) := op_y (by omega)
  unfold opN at e1 e2
  rw [e1, e2]
  exact h2.2.symm
theorem st_s {k n aad raw : List UInt8} (h : ¬ real.pB (real.eqi (us.opE k n aad raw) (real.int 0)) false) : real.eqB (us.sel k n aad (us.opB k n aad raw)) raw = true := by
  have h1 : real.eqi (us.opE k n aad raw) (real.int 0) = true := trueF rfl h
  exact eqBy (seal_open ((eqi_iff _ _).1 h1))
theorem st_l {k n aad raw : List UInt8} (hr : raw.length ≤ 200) : real.pLe (real.lenB (us.opB k n aad raw)) 90000 := by
  have h := opB_len k n aad raw
  show (u_opB k n aad raw).length ≤ 90000
  omega
theorem st_e (k n aad p : List UInt8) (a b : UInt8) (hp : p.length ≤ 200) : real.eqb (real.eqi (us.opE k n aad (real.setB (us.sel k n aad p) (real.nat (real.addi (real.int (real.lenB p)) (real.int (a.toNat % 16)))) (real.xor8 (real.getB (us.sel k n aad p) (real.nat (real.addi (real.int (real.lenB p)) (real.int (a.toNat % 16))))) b))) (real.int 0)) (real.eq8 b (real.ofI8 (real.int 0))) = true := by
  have e : real.addi (real.int (real.lenB p)) (real.int (a.toNat % 16)) = real.int (p.length + a.toNat % 16) := addiN (i := p.length) (by omega) (by omega)
  rw [e]
  refine eqb_iff ?_
  rw [eqi_iff, eq8_iff]
  exact opE_turn k n aad p (a.toNat % 16) b (by omega)
theorem st_f (k n aad raw : List UInt8) : real.eqb (real.eqi (us.opE k n aad raw) (real.int 10)) (real.lti (real.int (real.lenB raw)) (real.int 16)) = true := by
  refine eqb_iff ?_
  rw [eqi_iff]
  have h := opE_short k n aad raw
  show u_opE k n aad raw = 10 ↔ decide ((raw.length : Int) < 16) = true
  rw [h, decide_eq_true_eq]
  omega
end Go.Proofs.Ytmldccfchnlpgaa
attribute [local irreducible] Go.Proofs.Ytmldccfchnlpgaa.u_mac Go.Proofs.Ytmldccfchnlpgaa.u_sum Go.Proofs.Ytmldccfchnlpgaa.u_mdv Go.Proofs.Ytmldccfchnlpgaa.u_seal Go.Proofs.Ytmldccfchnlpgaa.u_nonce Go.Proofs.Ytmldccfchnlpgaa.u_enc Go.Proofs.Ytmldccfchnlpgaa.u_tag Go.Proofs.Ytmldccfchnlpgaa.u_opB Go.Proofs.Ytmldccfchnlpgaa.u_opE Go.Proofs.Ytmldccfchnlpgaa.u_wrp Go.Proofs.Ytmldccfchnlpgaa.u_uwE Go.Proofs.Ytmldccfchnlpgaa.u_uwK
namespace Go.Proofs.Ytmldccfchnlpgaa
open Go Go.Vc
noncomputable def sp_law5_SealTags (F : Fs) (U : Us) : Specs := [(68, s_law5_known F U), (69, s_seal_NonceOf F U), (77, s_seal_Seal F U), (70, s_seal_Open F U), (72, s_seal_Unwrap F U), (79, s_seal_Wrap F U), (75, s_seal_TagOf F U)]
theorem ok_law5_SealTags : SpecsOK Try.prog (sp_law5_SealTags real us) := sp_cons r_law5_known k_law5_known (sp_cons r_seal_NonceOf k_seal_NonceOf (sp_cons r_seal_Seal k_seal_Seal (sp_cons r_seal_Open k_seal_Open (sp_cons r_seal_Unwrap k_seal_Unwrap (sp_cons r_seal_Wrap k_seal_Wrap (sp_cons r_seal_TagOf k_seal_TagOf sp_nil))))))
noncomputable def x_law5_SealTags (F : Fs) (U : Us) : Cx := ⟨Try.f22.ntmps, tt F, sp_law5_SealTags F U, [], [(10, ([(1, [0]), (5, [0, 1]), (7, [0, 1]), (9, [0, 1, 5, 7, 8])], [])), (11, ([(4, [0, 1]), (6, [0, 1]), (7, [0, 1]), (11, [10]), (17, [10, 11, 14, 15])], []))], [], [11, 12]⟩
theorem c_law5_SealTags (k n aad p : List UInt8) (a b : UInt8) (raw : List UInt8) (q0 : k.length = 32) (q1 : n.length = 12) (q2 : aad.length ≤ 9223372036854775807) (q3 : p.length ≤ 9223372036854775807) (q6 : raw.length ≤ 9223372036854775807) : vc real (x_law5_SealTags real us) [] [] (Try.f22.body.getD .skip) ⟨zipSl 0 [.ag 32 (.bt k), .ag 12 (.bt n), .rb 1 (.bt aad), .rb 1 (.bt p), .w8 a, .w8 b, .rb 1 (.bt raw)], [], 64⟩ (retOk real (tt real) false Try.f22.results.toList [.val (.b true)]) := by
  have hs : (u_seal k n aad p).length = p.length + 16 := seal_len k n aad p
  generalize hU : us = U
  generalize hF : real = F
  have e1 : F.wrapi (F.toI8 (F.rem8 a (F.ofI8 (F.int 16)))) = F.int (a.toNat % 16) := by subst hF; exact a16 a
  have hr : ¬ F.pB (F.lti (F.int 200) (F.int (F.lenB raw))) true → raw.length ≤ 200 := by subst hF; exact ge_g (j := 200)
  have hp : ¬ F.pB (F.lti (F.int 200) (F.int (F.lenB p))) true → p.length ≤ 200 := by subst hF; exact ge_g (j := 200)
  cbv
  repeat' first | apply And.intro | refine Classical.or_iff_not_imp_left.2 (fun _ => ?_) | exact trivial
  all_goals (try simp only [e1] at *)
  all_goals try (subst hF hU; simp only [real, us, Nat.le_eq, Int.cast_ofNat_Int, decide_eq_false_iff_not, decide_eq_true_eq, List.length_take, List.length_drop, List.length_append, List.length_replicate, List.length_set, List.length_cons, List.length_nil, List.length_zipWith] at *; (try simp (disch := omega) only [wrap_sm] at *); omega)
  all_goals first
    | (subst hU; exact q0)
    | (subst hU; exact q1)
    | (subst hF; exact ne16)
    | (have z := hr (by assumption); rename_i h; subst hF hU; exact st_p0 z h)
    | (subst hF hU; exact l16t _ _ _ _)
    | (have z := hr (by assumption); rename_i h; subst hF hU; exact st_t z h)
    | (have z := hr (by assumption); subst hF hU; exact st_l z)
    | (rename_i h; subst hF hU; exact st_s h)
    | (have z := hp (by assumption); subst hF hU; exact st_e k n aad p a b z)
    | (subst hF hU; exact st_f k n aad raw)
end Go.Proofs.Ytmldccfchnlpgaa
namespace Go.Proofs.Ytmldccfchnlpgaa.sealTags
open Go.ChangeShapes Go.WideShapes Go.ChangeAt Go.RowKit
set_option linter.unusedVariables false
theorem own : ownKnob Try.prog.godebug = none := by kernel_rfl
theorem laidOut : laidOutB Try.prog = true := p_laidOut
set_option maxRecDepth 100000 in
theorem lifted (os : Os) (started : os.Started) (H : Type) (enc : TypeId × Value → H) :
    ReturnsInHanded {} Try.checked os 22 .any (Rows.sealTagsSpec.pre6 enc Try.prog Try.f22 Rows.sealTagsRow.domain false) (Rows.sealTagsSpec.post enc Try.prog Try.f22 false true false false) := by
  refine returnsInHanded_of_change (C := Try.checked) own started (by kernel_rfl) Try.func22
    (ChangeSpec.witness6 (enc := enc) (C := Try.checked) false ⟨#[], #[.agg #[.int .u8 0, .int .u8 0, .int .u8 0, .int .u8 0, .int .u8 0, .int .u8 0, .int .u8 0, .int .u8 0, .int .u8 0, .int .u8 0, .int .u8 0, .int .u8 0, .int .u8 0, .int .u8 0, .int .u8 0, .int .u8 0, .int .u8 0, .int .u8 0, .int .u8 0, .int .u8 0, .int .u8 0, .int .u8 0, .int .u8 0, .int .u8 0, .int .u8 0, .int .u8 0, .int .u8 0, .int .u8 0, .int .u8 0, .int .u8 0, .int .u8 0, .int .u8 0], .agg #[.int .u8 0, .int .u8 0, .int .u8 0, .int .u8 0, .int .u8 0, .int .u8 0, .int .u8 0, .int .u8 0, .int .u8 0, .int .u8 0, .int .u8 0, .int .u8 0], .slice none 0 0, .slice none 0 0, .int .u8 0, .int .u8 0, .slice none 0 0], []⟩ 8 (by kernel_rfl) (by kernel_rfl) (by kernel_rfl) (by kernel_rfl)) ?_
  intro W base args ds gs before hval0 hW hcnd _
  have hval : ∀ (j : Nat) t v, Try.f22.params[j]? = some t → args[j]? = some v → Value.okWide Try.prog W .any base t v := hval0
  have hW' := hW
  obtain ⟨p, q, hA0, hV, rfl, hfz, hnd⟩ := hW
  have hA : DataW.TrodAll enc Try.prog W 0 (fun _ => true) true Try.f22.params.toList args.toList ds p := hA0
  rw [Try.params22] at hA hval
  obtain ⟨v0, vs0, d0, ds0, p0, q0, hargs, rfl, rfl, h0, r0⟩ := trodAll_cons hA
  obtain ⟨v1, vs1, d1, ds1, p1, q1, rfl, rfl, rfl, h1, r1⟩ := trodAll_cons r0
  obtain ⟨v2, vs2, d2, ds2, p2, q2, rfl, rfl, rfl, h2, r2⟩ := trodAll_cons r1
  obtain ⟨v3, vs3, d3, ds3, p3, q3, rfl, rfl, rfl, h3, r3⟩ := trodAll_cons r2
  obtain ⟨v4, vs4, d4, ds4, p4, q4, rfl, rfl, rfl, h4, r4⟩ := trodAll_cons r3
  obtain ⟨v5, vs5, d5, ds5, p5, q5, rfl, rfl, rfl, h5, r5⟩ := trodAll_cons r4
  obtain ⟨v6, vs6, d6, ds6, p6, q6, rfl, rfl, rfl, h6, r6⟩ := trodAll_cons r5
  obtain ⟨rfl, rfl, rfl⟩ := trodAll_nil r6
  obtain rfl : args = #[v0, v1, v2, v3, v4, v5, v6] := by cases args; simp_all
  obtain ⟨rfl, rfl⟩ := trodVars_none hV
  obtain ⟨k, k0, q0⟩ := Go.Vc.openA8 Try.underlying24 Try.underlying5 (by kernel_rfl) (by kernel_rfl) (hval 0 24 v0 rfl rfl) h0
  obtain ⟨n, k1, q1⟩ := Go.Vc.openA8 Try.underlying26 Try.underlying5 (by kernel_rfl) (by kernel_rfl) (hval 1 26 v1 rfl rfl) h1
  obtain ⟨aad, k2, q2⟩ := Go.Vc.openL8 Try.underlying27 Try.underlying5 (by kernel_rfl) (hval 2 27 v2 rfl rfl) h2
  obtain ⟨p, k3, q3⟩ := Go.Vc.openL8 Try.underlying27 Try.underlying5 (by kernel_rfl) (hval 3 27 v3 rfl rfl) h3
  obtain ⟨a, k4⟩ := Go.Vc.open8 Try.underlying5 (hval 4 5 v4 rfl rfl) h4
  obtain ⟨b, k5⟩ := Go.Vc.open8 Try.underlying5 (hval 5 5 v5 rfl rfl) h5
  obtain ⟨raw, k6, q6⟩ := Go.Vc.openL8 Try.underlying27 Try.underlying5 (by kernel_rfl) (hval 6 27 v6 rfl rfl) h6
  clear hA0 hval0
  refine (Go.Vc.law_walk2 (x := x_law5_SealTags Go.Vc.real us) (an := []) (cu := []) (l := [.ag 32 (.bt k), .ag 12 (.bt n), .rb 1 (.bt aad), .rb 1 (.bt p), .w8 a, .w8 b, .rb 1 (.bt raw)]) (vals := [v0, v1, v2, v3, v4, v5, v6]) ⟨tt_ok, ok_law5_SealTags, Go.Vc.ks_nil⟩ mixed Try.func22 rfl rfl (by kernel_rfl) (Nat.le_of_ble_eq_true rfl) (Go.Vc.rvs_cons k0 (Go.Vc.rvs_cons k1 (Go.Vc.rvs_cons k2 (Go.Vc.rvs_cons k3 (Go.Vc.rvs_cons k4 (Go.Vc.rvs_cons k5 (Go.Vc.rvs_cons k6 Go.Vc.rvs_nil))))))) (c_law5_SealTags k n aad p a b raw q0 q1 q2 q3 q6)).mono fun e W' ⟨he, bel⟩ => ?_
  subst he
  exact ⟨_, rfl, Go.Vc.post_true (tb := 4) laidOut (by kernel_rfl) rfl Try.underlying4 rfl hW' rfl bel⟩
theorem over : Rows.sealTagsRow.holds Try.pinned (OpenSpec.ofChange Rows.sealTagsSpec) :=
  OpenClaim.holds_of_wide 22 Try.f22 rfl rfl rfl rfl rfl rfl rfl ⟨rfl, rfl, rfl, rfl, rfl⟩ rfl rfl rfl rfl rfl (by kernel_rfl) Try.func22 (Go.Vc.joined_of p_laidOut p_maps p_stops p_knobs p_heard p_mayEnter p_lifts p_make rfl rfl (by kernel_rfl) (by kernel_rfl) (by kernel_rfl) (by kernel_rfl) (by kernel_rfl) (by kernel_rfl) (by kernel_rfl) (by kernel_rfl) (by kernel_rfl) (by kernel_rfl) (by kernel_rfl) (by kernel_rfl) (by kernel_rfl) (by kernel_rfl) (by kernel_rfl) (by kernel_rfl) (by kernel_rfl) (by kernel_rfl) (by kernel_rfl) (by kernel_rfl) (by kernel_rfl) (by kernel_rfl) (by kernel_rfl) (by kernel_rfl) )
    (of_decide_eq_true (by kernel_rfl)) (by unfold Func.isWrapper; first | (rw [if_pos (by decide +kernel)]; kernel_rfl) | (rw [if_neg (by decide +kernel)]; exact ⟨rfl, rfl⟩))
    (fun os started H enc _ => lifted os started H enc)
theorem proved : Rows.SealTagsSaid := over
#print axioms proved
end Go.Proofs.Ytmldccfchnlpgaa.sealTags

