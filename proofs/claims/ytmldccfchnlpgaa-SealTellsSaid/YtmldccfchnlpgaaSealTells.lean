/- The given statement is proved: for every input the law's function answers true. No condition. -/
import Derived.Test.YtmldccfchnlpgaaRows
import Derived.Test.YtmldccfchnlpgaaPart6
import Derived.Test.YtmldccfchnlpgaaPart7
import Derived.WalkKit
import Derived.ProofKit
import Derived.OpenShut
import Derived.ShutString
set_option linter.unusedVariables false
set_option linter.unusedSimpArgs false
set_option maxRecDepth 100000
set_option maxHeartbeats 1000000
namespace Go.Proofs.Ytmldccfchnlpgaa
open Go Go.Vc
theorem uw50 {k : List UInt8} {s : UInt32} {g : UInt64} {w : List UInt8} (h : w.length = 48) (he : ¬ real.pB (real.eqi (us.uwE k s g w) (real.int 0)) true) : real.eqi (us.uwE k s g w) (real.int 50) = true := by
  refine eqI ?_
  have h0 : u_uwE k s g w ≠ 0 := fun e => he ((eqi_iff _ _).2 e)
  have h10 : u_uwE k s g w ≠ 10 := fun e => by
    have := (opE_short _ _ _ _).1 e
    omega
  rcases opE_is k (u_nonce s g) u_wt w with e | e | e
  · exact absurd e h0
  · exact absurd e h10
  · exact e
end Go.Proofs.Ytmldccfchnlpgaa
attribute [local irreducible] Go.Proofs.Ytmldccfchnlpgaa.u_mac Go.Proofs.Ytmldccfchnlpgaa.u_sum Go.Proofs.Ytmldccfchnlpgaa.u_mdv Go.Proofs.Ytmldccfchnlpgaa.u_seal Go.Proofs.Ytmldccfchnlpgaa.u_nonce Go.Proofs.Ytmldccfchnlpgaa.u_enc Go.Proofs.Ytmldccfchnlpgaa.u_tag Go.Proofs.Ytmldccfchnlpgaa.u_opB Go.Proofs.Ytmldccfchnlpgaa.u_opE Go.Proofs.Ytmldccfchnlpgaa.u_wrp Go.Proofs.Ytmldccfchnlpgaa.u_uwE Go.Proofs.Ytmldccfchnlpgaa.u_uwK
namespace Go.Proofs.Ytmldccfchnlpgaa
open Go Go.Vc
noncomputable def sp_law5_SealTells (F : Fs) (U : Us) : Specs := [(68, s_law5_known F U), (69, s_seal_NonceOf F U), (77, s_seal_Seal F U), (70, s_seal_Open F U), (72, s_seal_Unwrap F U), (79, s_seal_Wrap F U), (75, s_seal_TagOf F U), (74, s_ref4_NonceOf F U), (76, s_ref4_TagOf F U), (78, s_ref4_Seal F U), (71, s_ref4_Open F U), (80, s_ref4_Wrap F U), (73, s_ref4_Unwrap F U)]
theorem ok_law5_SealTells : SpecsOK Try.prog (sp_law5_SealTells real us) := sp_cons r_law5_known k_law5_known (sp_cons r_seal_NonceOf k_seal_NonceOf (sp_cons r_seal_Seal k_seal_Seal (sp_cons r_seal_Open k_seal_Open (sp_cons r_seal_Unwrap k_seal_Unwrap (sp_cons r_seal_Wrap k_seal_Wrap (sp_cons r_seal_TagOf k_seal_TagOf (sp_cons r_ref4_NonceOf k_ref4_NonceOf (sp_cons r_ref4_TagOf k_ref4_TagOf (sp_cons r_ref4_Seal k_ref4_Seal (sp_cons r_ref4_Open k_ref4_Open (sp_cons r_ref4_Wrap k_ref4_Wrap (sp_cons r_ref4_Unwrap k_ref4_Unwrap sp_nil))))))))))))
noncomputable def cu_law5_SealTells (F : Fs) (U : Us) (k : List UInt8) (pg : UInt32) (gen : UInt64) (aad p b key w : List UInt8) : Anns := [(10, ⟨Nat, fun _ => F.pLe (F.lenB aad) 100 ∧ F.pLe (F.lenB p) 200, fun i => i, fun _ => ⟨[(1, .w32 pg), (2, .w64 gen), (3, .rb 1 (.bt aad)), (4, .rb 1 (.bt p)), (8, .p 0 0 0), (14, .p 1 0 0), (17, .p 2 0 0), (18, .rw 3), (19, .i (U.opE k (U.nonce pg gen) aad b)), (20, .rw 4), (21, .i (U.opE k (U.nonce pg gen) aad b)), (22, .p 5 0 0), (23, .i (U.uwE k pg gen w)), (24, .p 6 0 0), (25, .b (F.eqi (U.uwE k pg gen w) (F.int 0)))], [(8, 0, .bk 24 [(32, .bt k)]), (14, 1, .bk 24 [(32, .bt key)]), (17, 2, .bk 26 [(12, .bt (U.nonce pg gen))]), (18, 3, .row 5 1 (.bt (U.opB k (U.nonce pg gen) aad b))), (20, 4, .row 5 1 (.bt (U.opB k (U.nonce pg gen) aad b))), (22, 5, .bk 24 [(32, .bt (U.uwK k pg gen w))]), (24, 6, .bk 24 [(32, .bt (U.uwK k pg gen w))])]⟩⟩)]
noncomputable def x_law5_SealTells (F : Fs) (U : Us) : Cx := ⟨Try.f20.ntmps, tt F, sp_law5_SealTells F U, [], [(6, ([(1, [0]), (4, [0, 1])], [])), (10, ([(3, [0]), (7, [6]), (11, [6, 7, 10]), (12, [6, 7, 10, 11]), (20, [19]), (25, [19, 20, 23, 24]), (26, [19, 20, 23, 24, 25]), (29, [24]), (30, [24]), (37, [35]), (49, [46]), (51, [46, 49, 50]), (54, [46, 49, 50, 51]), (60, [59])], []))], [], []⟩
theorem c_law5_SealTells (k : List UInt8) (pg : UInt32) (gen : UInt64) (aad p b key w : List UInt8) (q0 : k.length = 32) (q3 : aad.length ≤ 9223372036854775807) (q4 : p.length ≤ 9223372036854775807) (q5 : b.length ≤ 9223372036854775807) (q6 : key.length = 32) (q7 : w.length = 48) : vc real (x_law5_SealTells real us) [] (cu_law5_SealTells real us k pg gen aad p b key w) (Try.f20.body.getD .skip) ⟨zipSl 0 [.ag 32 (.bt k), .w32 pg, .w64 gen, .rb 1 (.bt aad), .rb 1 (.bt p), .rb 1 (.bt b), .ag 32 (.bt key), .ag 48 (.bt w)], [], 64⟩ (retOk real (tt real) false Try.f20.results.toList [.val (.b true)]) := by
  generalize hU : us = U
  generalize hF : real = F
  have hn : ∀ p g, U.isL (U.nonce p g) 12 := by subst hU; exact nonceLen
  have b1 : ∀ x, F.pB (F.eqB x x) true := by subst hF; exact eqB_self
  have b2 : ∀ x, F.pB (F.eqi x x) true := by subst hF; exact eqi_self
  have b3 : ∀ x, F.pB (F.eqb x x) true := by subst hF; exact fun x => eqb_iff Iff.rfl
  cbv
  repeat' first | apply And.intro | refine Classical.or_iff_not_imp_left.2 (fun _ => ?_) | exact trivial
  all_goals try (subst hF hU; simp only [real, us, Nat.le_eq, Int.cast_ofNat_Int, decide_eq_false_iff_not, decide_eq_true_eq, List.length_take, List.length_drop, List.length_append, List.length_replicate, List.length_set, List.length_cons, List.length_nil, List.length_zipWith] at *; (try simp (disch := omega) only [wrap_sm] at *); omega)
  all_goals first
    | (subst hU; exact q0)
    | (subst hU; exact q6)
    | (subst hU; exact q7)
    | exact hn _ _
    | skip
  · rename_i g1 g2 g3
    refine ⟨(0 : Nat), ?_⟩
    cbv; subst hF hU
    exact ⟨⟨ge_g (j := 100) (n := aad.length) g1, ge_g (j := 200) (n := p.length) g2⟩, trivial⟩
  · rename_i g1 g2 g3
    clear g1 g2 g3
    intro (t : Nat) ht
    have h1 : aad.length ≤ 100 := by subst hF; exact ht.1
    have h2 : p.length ≤ 200 := by subst hF; exact ht.2
    clear ht
    cbv
    repeat' first | apply And.intro | refine Classical.or_iff_not_imp_left.2 (fun _ => ?_) | exact trivial
    all_goals try (subst hF hU; simp only [real, us, Nat.le_eq, Int.cast_ofNat_Int, decide_eq_false_iff_not, decide_eq_true_eq, List.length_take, List.length_drop, List.length_append, List.length_replicate, List.length_set, List.length_cons, List.length_nil, List.length_zipWith] at *; (try simp (disch := omega) only [wrap_sm] at *); omega)
    all_goals first
      | (subst hU; exact q0)
      | (subst hU; exact q6)
      | (subst hU; exact q7)
      | exact hn _ _
      | skip
    all_goals first
      | (rename_i h; exact absurd (b1 _) h)
      | (rename_i h; exact absurd (b2 _) h)
      | (rename_i h; exact absurd (b3 _) h)
      | (rename_i h; subst hF hU; exact uw50 q7 h)
      | skip
end Go.Proofs.Ytmldccfchnlpgaa
namespace Go.Proofs.Ytmldccfchnlpgaa.sealTells
open Go.ChangeShapes Go.WideShapes Go.ChangeAt Go.RowKit
set_option linter.unusedVariables false
theorem own : ownKnob Try.prog.godebug = none := by kernel_rfl
theorem laidOut : laidOutB Try.prog = true := p_laidOut
set_option maxRecDepth 100000 in
theorem lifted (os : Os) (started : os.Started) (H : Type) (enc : TypeId × Value → H) :
    ReturnsInHanded {} Try.checked os 20 .any (Rows.sealTellsSpec.pre6 enc Try.prog Try.f20 Rows.sealTellsRow.domain false) (Rows.sealTellsSpec.post enc Try.prog Try.f20 false true false false) := by
  refine returnsInHanded_of_change (C := Try.checked) own started (by kernel_rfl) Try.func20
    (ChangeSpec.witness6 (enc := enc) (C := Try.checked) false ⟨#[], #[.agg #[.int .u8 0, .int .u8 0, .int .u8 0, .int .u8 0, .int .u8 0, .int .u8 0, .int .u8 0, .int .u8 0, .int .u8 0, .int .u8 0, .int .u8 0, .int .u8 0, .int .u8 0, .int .u8 0, .int .u8 0, .int .u8 0, .int .u8 0, .int .u8 0, .int .u8 0, .int .u8 0, .int .u8 0, .int .u8 0, .int .u8 0, .int .u8 0, .int .u8 0, .int .u8 0, .int .u8 0, .int .u8 0, .int .u8 0, .int .u8 0, .int .u8 0, .int .u8 0], .int .u32 0, .int .u64 0, .slice none 0 0, .slice none 0 0, .slice none 0 0, .agg #[.int .u8 0, .int .u8 0, .int .u8 0, .int .u8 0, .int .u8 0, .int .u8 0, .int .u8 0, .int .u8 0, .int .u8 0, .int .u8 0, .int .u8 0, .int .u8 0, .int .u8 0, .int .u8 0, .int .u8 0, .int .u8 0, .int .u8 0, .int .u8 0, .int .u8 0, .int .u8 0, .int .u8 0, .int .u8 0, .int .u8 0, .int .u8 0, .int .u8 0, .int .u8 0, .int .u8 0, .int .u8 0, .int .u8 0, .int .u8 0, .int .u8 0, .int .u8 0], .agg #[.int .u8 0, .int .u8 0, .int .u8 0, .int .u8 0, .int .u8 0, .int .u8 0, .int .u8 0, .int .u8 0, .int .u8 0, .int .u8 0, .int .u8 0, .int .u8 0, .int .u8 0, .int .u8 0, .int .u8 0, .int .u8 0, .int .u8 0, .int .u8 0, .int .u8 0, .int .u8 0, .int .u8 0, .int .u8 0, .int .u8 0, .int .u8 0, .int .u8 0, .int .u8 0, .int .u8 0, .int .u8 0, .int .u8 0, .int .u8 0, .int .u8 0, .int .u8 0, .int .u8 0, .int .u8 0, .int .u8 0, .int .u8 0, .int .u8 0, .int .u8 0, .int .u8 0, .int .u8 0, .int .u8 0, .int .u8 0, .int .u8 0, .int .u8 0, .int .u8 0, .int .u8 0, .int .u8 0, .int .u8 0]], []⟩ 8 (by kernel_rfl) (by kernel_rfl) (by kernel_rfl) (by kernel_rfl)) ?_
  intro W base args ds gs before hval0 hW hcnd _
  have hval : ∀ (j : Nat) t v, Try.f20.params[j]? = some t → args[j]? = some v → Value.okWide Try.prog W .any base t v := hval0
  have hW' := hW
  obtain ⟨p, q, hA0, hV, rfl, hfz, hnd⟩ := hW
  have hA : DataW.TrodAll enc Try.prog W 0 (fun _ => true) true Try.f20.params.toList args.toList ds p := hA0
  rw [Try.params20] at hA hval
  obtain ⟨v0, vs0, d0, ds0, p0, q0, hargs, rfl, rfl, h0, r0⟩ := trodAll_cons hA
  obtain ⟨v1, vs1, d1, ds1, p1, q1, rfl, rfl, rfl, h1, r1⟩ := trodAll_cons r0
  obtain ⟨v2, vs2, d2, ds2, p2, q2, rfl, rfl, rfl, h2, r2⟩ := trodAll_cons r1
  obtain ⟨v3, vs3, d3, ds3, p3, q3, rfl, rfl, rfl, h3, r3⟩ := trodAll_cons r2
  obtain ⟨v4, vs4, d4, ds4, p4, q4, rfl, rfl, rfl, h4, r4⟩ := trodAll_cons r3
  obtain ⟨v5, vs5, d5, ds5, p5, q5, rfl, rfl, rfl, h5, r5⟩ := trodAll_cons r4
  obtain ⟨v6, vs6, d6, ds6, p6, q6, rfl, rfl, rfl, h6, r6⟩ := trodAll_cons r5
  obtain ⟨v7, vs7, d7, ds7, p7, q7, rfl, rfl, rfl, h7, r7⟩ := trodAll_cons r6
  obtain ⟨rfl, rfl, rfl⟩ := trodAll_nil r7
  obtain rfl : args = #[v0, v1, v2, v3, v4, v5, v6, v7] := by cases args; simp_all
  obtain ⟨rfl, rfl⟩ := trodVars_none hV
  obtain ⟨k, k0, q0⟩ := Go.Vc.openA8 Try.underlying24 Try.underlying5 (by kernel_rfl) (by kernel_rfl) (hval 0 24 v0 rfl rfl) h0
  obtain ⟨pg, k1⟩ := Go.Vc.open32 Try.underlying22 (hval 1 22 v1 rfl rfl) h1
  obtain ⟨gen, k2⟩ := Go.Vc.open64 Try.underlying88 (hval 2 88 v2 rfl rfl) h2
  obtain ⟨aad, k3, q3⟩ := Go.Vc.openL8 Try.underlying27 Try.underlying5 (by kernel_rfl) (hval 3 27 v3 rfl rfl) h3
  obtain ⟨p, k4, q4⟩ := Go.Vc.openL8 Try.underlying27 Try.underlying5 (by kernel_rfl) (hval 4 27 v4 rfl rfl) h4
  obtain ⟨b, k5, q5⟩ := Go.Vc.openL8 Try.underlying27 Try.underlying5 (by kernel_rfl) (hval 5 27 v5 rfl rfl) h5
  obtain ⟨key, k6, q6⟩ := Go.Vc.openA8 Try.underlying24 Try.underlying5 (by kernel_rfl) (by kernel_rfl) (hval 6 24 v6 rfl rfl) h6
  obtain ⟨w, k7, q7⟩ := Go.Vc.openA8 Try.underlying89 Try.underlying5 (by kernel_rfl) (by kernel_rfl) (hval 7 89 v7 rfl rfl) h7
  clear hA0 hval0
  refine (Go.Vc.law_walk2 (x := x_law5_SealTells Go.Vc.real us) (an := []) (cu := (cu_law5_SealTells Go.Vc.real us k pg gen aad p b key w)) (l := [.ag 32 (.bt k), .w32 pg, .w64 gen, .rb 1 (.bt aad), .rb 1 (.bt p), .rb 1 (.bt b), .ag 32 (.bt key), .ag 48 (.bt w)]) (vals := [v0, v1, v2, v3, v4, v5, v6, v7]) ⟨tt_ok, ok_law5_SealTells, Go.Vc.ks_nil⟩ mixed Try.func20 rfl rfl (by kernel_rfl) (Nat.le_of_ble_eq_true rfl) (Go.Vc.rvs_cons k0 (Go.Vc.rvs_cons k1 (Go.Vc.rvs_cons k2 (Go.Vc.rvs_cons k3 (Go.Vc.rvs_cons k4 (Go.Vc.rvs_cons k5 (Go.Vc.rvs_cons k6 (Go.Vc.rvs_cons k7 Go.Vc.rvs_nil)))))))) (c_law5_SealTells k pg gen aad p b key w q0 q3 q4 q5 q6 q7)).mono fun e W' ⟨he, bel⟩ => ?_
  subst he
  exact ⟨_, rfl, Go.Vc.post_true (tb := 4) laidOut (by kernel_rfl) rfl Try.underlying4 rfl hW' rfl bel⟩
theorem over : Rows.sealTellsRow.holds Try.pinned (OpenSpec.ofChange Rows.sealTellsSpec) :=
  OpenClaim.holds_of_wide 20 Try.f20 rfl rfl rfl rfl rfl rfl rfl ⟨rfl, rfl, rfl, rfl, rfl⟩ rfl rfl rfl rfl rfl (by kernel_rfl) Try.func20 (Go.Vc.joined_of p_laidOut p_maps p_stops p_knobs p_heard p_mayEnter p_lifts p_make rfl rfl (by kernel_rfl) (by kernel_rfl) (by kernel_rfl) (by kernel_rfl) (by kernel_rfl) (by kernel_rfl) (by kernel_rfl) (by kernel_rfl) (by kernel_rfl) (by kernel_rfl) (by kernel_rfl) (by kernel_rfl) (by kernel_rfl) (by kernel_rfl) (by kernel_rfl) (by kernel_rfl) (by kernel_rfl) (by kernel_rfl) (by kernel_rfl) (by kernel_rfl) (by kernel_rfl) (by kernel_rfl) (by kernel_rfl) (by kernel_rfl) )
    (of_decide_eq_true (by kernel_rfl)) (by unfold Func.isWrapper; first | (rw [if_pos (by decide +kernel)]; kernel_rfl) | (rw [if_neg (by decide +kernel)]; exact ⟨rfl, rfl⟩))
    (fun os started H enc _ => lifted os started H enc)
theorem proved : Rows.SealTellsSaid := over
#print axioms proved
end Go.Proofs.Ytmldccfchnlpgaa.sealTells

