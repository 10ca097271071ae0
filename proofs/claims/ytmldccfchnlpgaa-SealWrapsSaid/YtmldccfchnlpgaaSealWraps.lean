/- The given statement is proved: for every input the law's function answers true. No condition. -/
import Derived.Test.YtmldccfchnlpgaaRows
import Derived.Test.YtmldccfchnlpgaaPart6
import Derived.Test.YtmldccfchnlpgaaPart7
import Derived.WalkKit
import Derived.ProofKit
import Derived.OpenShut
import Derived.ShutString
set_option linter.unusedVariables false
set_option linter.unusedSimpArgs false
set_option maxRecDepth 100000
set_option maxHeartbeats 1000000
namespace Go.Proofs.Ytmldccfchnlpgaa
open Go Go.Vc
attribute [local irreducible] u_mac u_sum u_mdv u_seal u_nonce u_enc u_tag u_opB u_opE u_wrp u_uwE u_uwK
theorem sw_u (k key : List UInt8) (s : UInt32) (g : UInt64) : real.eqi (us.uwE k s g (us.wrp k s g key)) (real.int 0) = true ∧ real.eqB (us.uwK k s g (us.wrp k s g key)) key = true := ⟨eqI (uw_wrp k s g key).1, eqBy (uw_wrp k s g key).2⟩
theorem sw_t (k key : List UInt8) (s : UInt32) (g : UInt64) (a b : UInt8) (hk : key.length = 32) : real.eqb (real.eqi (us.uwE k s g (real.setB (us.wrp k s g key) (real.nat (real.addi (real.int 32) (real.int (a.toNat % 16)))) (real.xor8 (real.getB (us.wrp k s g key) (real.nat (real.addi (real.int 32) (real.int (a.toNat % 16))))) b))) (real.int 0)) (real.eq8 b (real.ofI8 (real.int 0))) = true := by
  have e : real.addi (real.int 32) (real.int (a.toNat % 16)) = real.int (32 + a.toNat % 16) := addiN (i := 32) (by omega) (by omega)
  rw [e]
  refine eqb_iff ?_
  rw [eqi_iff, eq8_iff]
  have h := opE_turn k (u_nonce s g) u_wt key (a.toNat % 16) b (by omega)
  rw [hk] at h
  have ew : us.wrp k s g key = u_seal k (u_nonce s g) u_wt key := by
    show u_wrp k s g key = _
    unfold u_wrp
    rfl
  rw [ew]
  show u_uwE k s g _ = 0 ↔ _
  unfold u_uwE
  exact h
theorem sw_l (k key : List UInt8) (s : UInt32) (g : UInt64) (x : List UInt8) (hk : key.length = 32) : real.eqi (real.int (real.lenB (us.sel k (us.nonce s g) x (real.cutB key 0 32)))) (real.int 48) = true := by
  have h : real.lenB (us.sel k (us.nonce s g) x (real.cutB key 0 32)) = 48 := by
    rw [cutAll key 32 hk]
    have := selLen k (us.nonce s g) x key
    rw [hk] at this
    exact this
  rw [h]
  exact eqI rfl
end Go.Proofs.Ytmldccfchnlpgaa
attribute [local irreducible] Go.Proofs.Ytmldccfchnlpgaa.u_mac Go.Proofs.Ytmldccfchnlpgaa.u_sum Go.Proofs.Ytmldccfchnlpgaa.u_mdv Go.Proofs.Ytmldccfchnlpgaa.u_seal Go.Proofs.Ytmldccfchnlpgaa.u_nonce Go.Proofs.Ytmldccfchnlpgaa.u_enc Go.Proofs.Ytmldccfchnlpgaa.u_tag Go.Proofs.Ytmldccfchnlpgaa.u_opB Go.Proofs.Ytmldccfchnlpgaa.u_opE Go.Proofs.Ytmldccfchnlpgaa.u_wrp Go.Proofs.Ytmldccfchnlpgaa.u_uwE Go.Proofs.Ytmldccfchnlpgaa.u_uwK
namespace Go.Proofs.Ytmldccfchnlpgaa
open Go Go.Vc
noncomputable def sp_law5_SealWraps (F : Fs) (U : Us) : Specs := [(68, s_law5_known F U), (69, s_seal_NonceOf F U), (77, s_seal_Seal F U), (70, s_seal_Open F U), (72, s_seal_Unwrap F U), (79, s_seal_Wrap F U), (75, s_seal_TagOf F U)]
theorem ok_law5_SealWraps : SpecsOK Try.prog (sp_law5_SealWraps real us) := sp_cons r_law5_known k_law5_known (sp_cons r_seal_NonceOf k_seal_NonceOf (sp_cons r_seal_Seal k_seal_Seal (sp_cons r_seal_Open k_seal_Open (sp_cons r_seal_Unwrap k_seal_Unwrap (sp_cons r_seal_Wrap k_seal_Wrap (sp_cons r_seal_TagOf k_seal_TagOf sp_nil))))))
noncomputable def x_law5_SealWraps (F : Fs) (U : Us) : Cx := ⟨Try.f23.ntmps, tt F, sp_law5_SealWraps F U, [], [(7, ([(0, [4]), (3, [0, 4]), (4, [0, 3]), (5, [0, 3]), (6, [0, 3, 4, 5])], [(5, [4])]))], [], [8]⟩
theorem c_law5_SealWraps (k key : List UInt8) (s : UInt32) (g : UInt64) (a b : UInt8) (q0 : k.length = 32) (q1 : key.length = 32) : vc real (x_law5_SealWraps real us) [] [] (Try.f23.body.getD .skip) ⟨zipSl 0 [.ag 32 (.bt k), .ag 32 (.bt key), .w32 s, .w64 g, .w8 a, .w8 b], [], 64⟩ (retOk real (tt real) false Try.f23.results.toList [.val (.b true)]) := by
  have hw : (u_wrp k s g key).length = 48 := wrp_len k s g key q1
  generalize hU : us = U
  generalize hF : real = F
  have e1 : F.wrapi (F.toI8 (F.rem8 a (F.ofI8 (F.int 16)))) = F.int (a.toNat % 16) := by subst hF; exact a16 a
  have hn : ∀ p g, U.isL (U.nonce p g) 12 := by subst hU; exact nonceLen
  cbv
  repeat' first | apply And.intro | refine Classical.or_iff_not_imp_left.2 (fun _ => ?_) | exact trivial
  all_goals (try simp only [e1] at *)
  all_goals try (subst hF hU; simp only [real, us, Nat.le_eq, Int.cast_ofNat_Int, decide_eq_false_iff_not, decide_eq_true_eq, List.length_take, List.length_drop, List.length_append, List.length_replicate, List.length_set, List.length_cons, List.length_nil, List.length_zipWith] at *; (try simp (disch := omega) only [wrap_sm] at *); omega)
  all_goals first
    | (subst hU; exact q0)
    | (subst hU; exact q1)
    | (subst hU; exact hw)
    | exact hn _ _
    | (subst hF; exact ne16)
    | (subst hF hU; exact (sw_u k key s g).1)
    | (subst hF hU; exact (sw_u k key s g).2)
    | (subst hF hU; exact sw_t k key s g a b q1)
    | (subst hF hU; exact sw_l k key s g _ q1)
    | (subst hF hU; show (List.set _ _ _).length = 48; rw [List.length_set]; exact hw)
end Go.Proofs.Ytmldccfchnlpgaa
namespace Go.Proofs.Ytmldccfchnlpgaa.sealWraps
open Go.ChangeShapes Go.WideShapes Go.ChangeAt Go.RowKit
set_option linter.unusedVariables false
theorem own : ownKnob Try.prog.godebug = none := by kernel_rfl
theorem laidOut : laidOutB Try.prog = true := p_laidOut
set_option maxRecDepth 100000 in
theorem lifted (os : Os) (started : os.Started) (H : Type) (enc : TypeId × Value → H) :
    ReturnsInHanded {} Try.checked os 23 .any (Rows.sealWrapsSpec.pre6 enc Try.prog Try.f23 Rows.sealWrapsRow.domain false) (Rows.sealWrapsSpec.post enc Try.prog Try.f23 false true false false) := by
  refine returnsInHanded_of_change (C := Try.checked) own started (by kernel_rfl) Try.func23
    (ChangeSpec.witness6 (enc := enc) (C := Try.checked) false ⟨#[], #[.agg #[.int .u8 0, .int .u8 0, .int .u8 0, .int .u8 0, .int .u8 0, .int .u8 0, .int .u8 0, .int .u8 0, .int .u8 0, .int .u8 0, .int .u8 0, .int .u8 0, .int .u8 0, .int .u8 0, .int .u8 0, .int .u8 0, .int .u8 0, .int .u8 0, .int .u8 0, .int .u8 0, .int .u8 0, .int .u8 0, .int .u8 0, .int .u8 0, .int .u8 0, .int .u8 0, .int .u8 0, .int .u8 0, .int .u8 0, .int .u8 0, .int .u8 0, .int .u8 0], .agg #[.int .u8 0, .int .u8 0, .int .u8 0, .int .u8 0, .int .u8 0, .int .u8 0, .int .u8 0, .int .u8 0, .int .u8 0, .int .u8 0, .int .u8 0, .int .u8 0, .int .u8 0, .int .u8 0, .int .u8 0, .int .u8 0, .int .u8 0, .int .u8 0, .int .u8 0, .int .u8 0, .int .u8 0, .int .u8 0, .int .u8 0, .int .u8 0, .int .u8 0, .int .u8 0, .int .u8 0, .int .u8 0, .int .u8 0, .int .u8 0, .int .u8 0, .int .u8 0], .int .u32 0, .int .u64 0, .int .u8 0, .int .u8 0], []⟩ 8 (by kernel_rfl) (by kernel_rfl) (by kernel_rfl) (by kernel_rfl)) ?_
  intro W base args ds gs before hval0 hW hcnd _
  have hval : ∀ (j : Nat) t v, Try.f23.params[j]? = some t → args[j]? = some v → Value.okWide Try.prog W .any base t v := hval0
  have hW' := hW
  obtain ⟨p, q, hA0, hV, rfl, hfz, hnd⟩ := hW
  have hA : DataW.TrodAll enc Try.prog W 0 (fun _ => true) true Try.f23.params.toList args.toList ds p := hA0
  rw [Try.params23] at hA hval
  obtain ⟨v0, vs0, d0, ds0, p0, q0, hargs, rfl, rfl, h0, r0⟩ := trodAll_cons hA
  obtain ⟨v1, vs1, d1, ds1, p1, q1, rfl, rfl, rfl, h1, r1⟩ := trodAll_cons r0
  obtain ⟨v2, vs2, d2, ds2, p2, q2, rfl, rfl, rfl, h2, r2⟩ := trodAll_cons r1
  obtain ⟨v3, vs3, d3, ds3, p3, q3, rfl, rfl, rfl, h3, r3⟩ := trodAll_cons r2
  obtain ⟨v4, vs4, d4, ds4, p4, q4, rfl, rfl, rfl, h4, r4⟩ := trodAll_cons r3
  obtain ⟨v5, vs5, d5, ds5, p5, q5, rfl, rfl, rfl, h5, r5⟩ := trodAll_cons r4
  obtain ⟨rfl, rfl, rfl⟩ := trodAll_nil r5
  obtain rfl : args = #[v0, v1, v2, v3, v4, v5] := by cases args; simp_all
  obtain ⟨rfl, rfl⟩ := trodVars_none hV
  obtain ⟨k, k0, q0⟩ := Go.Vc.openA8 Try.underlying24 Try.underlying5 (by kernel_rfl) (by kernel_rfl) (hval 0 24 v0 rfl rfl) h0
  obtain ⟨key, k1, q1⟩ := Go.Vc.openA8 Try.underlying24 Try.underlying5 (by kernel_rfl) (by kernel_rfl) (hval 1 24 v1 rfl rfl) h1
  obtain ⟨s, k2⟩ := Go.Vc.open32 Try.underlying22 (hval 2 22 v2 rfl rfl) h2
  obtain ⟨g, k3⟩ := Go.Vc.open64 Try.underlying88 (hval 3 88 v3 rfl rfl) h3
  obtain ⟨a, k4⟩ := Go.Vc.open8 Try.underlying5 (hval 4 5 v4 rfl rfl) h4
  obtain ⟨b, k5⟩ := Go.Vc.open8 Try.underlying5 (hval 5 5 v5 rfl rfl) h5
  clear hA0 hval0
  refine (Go.Vc.law_walk2 (x := x_law5_SealWraps Go.Vc.real us) (an := []) (cu := []) (l := [.ag 32 (.bt k), .ag 32 (.bt key), .w32 s, .w64 g, .w8 a, .w8 b]) (vals := [v0, v1, v2, v3, v4, v5]) ⟨tt_ok, ok_law5_SealWraps, Go.Vc.ks_nil⟩ mixed Try.func23 rfl rfl (by kernel_rfl) (Nat.le_of_ble_eq_true rfl) (Go.Vc.rvs_cons k0 (Go.Vc.rvs_cons k1 (Go.Vc.rvs_cons k2 (Go.Vc.rvs_cons k3 (Go.Vc.rvs_cons k4 (Go.Vc.rvs_cons k5 Go.Vc.rvs_nil)))))) (c_law5_SealWraps k key s g a b q0 q1)).mono fun e W' ⟨he, bel⟩ => ?_
  subst he
  exact ⟨_, rfl, Go.Vc.post_true (tb := 4) laidOut (by kernel_rfl) rfl Try.underlying4 rfl hW' rfl bel⟩
theorem over : Rows.sealWrapsRow.holds Try.pinned (OpenSpec.ofChange Rows.sealWrapsSpec) :=
  OpenClaim.holds_of_wide 23 Try.f23 rfl rfl rfl rfl rfl rfl rfl ⟨rfl, rfl, rfl, rfl, rfl⟩ rfl rfl rfl rfl rfl (by kernel_rfl) Try.func23 (Go.Vc.joined_of p_laidOut p_maps p_stops p_knobs p_heard p_mayEnter p_lifts p_make rfl rfl (by kernel_rfl) (by kernel_rfl) (by kernel_rfl) (by kernel_rfl) (by kernel_rfl) (by kernel_rfl) (by kernel_rfl) (by kernel_rfl) (by kernel_rfl) (by kernel_rfl) (by kernel_rfl) (by kernel_rfl) (by kernel_rfl) (by kernel_rfl) (by kernel_rfl) (by kernel_rfl) (by kernel_rfl) (by kernel_rfl) (by kernel_rfl) (by kernel_rfl) (by kernel_rfl) (by kernel_rfl) (by kernel_rfl) (by kernel_rfl) )
    (of_decide_eq_true (by kernel_rfl)) (by unfold Func.isWrapper; first | (rw [if_pos (by decide +kernel)]; kernel_rfl) | (rw [if_neg (by decide +kernel)]; exact ⟨rfl, rfl⟩))
    (fun os started H enc _ => lifted os started H enc)
theorem proved : Rows.SealWrapsSaid := over
#print axioms proved
end Go.Proofs.Ytmldccfchnlpgaa.sealWraps

