/- The given statement is proved: for every input the law's function answers true. No condition. -/
import Derived.Test.YtmldccfchnlpgaaRows
import Derived.Test.YtmldccfchnlpgaaPart6
import Derived.Test.YtmldccfchnlpgaaPart7
import Derived.WalkKit
import Derived.ProofKit
import Derived.OpenShut
import Derived.ShutString
set_option linter.unusedVariables false
set_option linter.unusedSimpArgs false
set_option maxRecDepth 100000
set_option maxHeartbeats 1000000
namespace Go.Proofs.Ytmldccfchnlpgaa
open Go Go.Vc
attribute [local irreducible] u_mac u_sum u_mdv u_seal u_nonce u_enc u_tag u_opB u_opE u_wrp u_uwE u_uwK
theorem sb_c (c : UInt8) : real.remi (real.wrapi (real.toI8 c)) (real.int 16) = real.int (c.toNat % 16) := by
  have h := c.toNat_lt
  have e : real.wrapi (real.toI8 c) = (c.toNat : Int) := by
    show IntKind.i64.wrap ((c.toNat : Nat) : Int) = _
    rw [wrap_sm (by omega) (by omega)]
  rw [e]
  rfl
theorem sb_l {k n aad p : List UInt8} (hp : p.length ≤ 200) : real.eqi (real.int (real.lenB (us.sel k n aad p))) (real.addi (real.int (real.lenB p)) (real.int 16)) = true := by
  have e : real.addi (real.int (real.lenB p)) (real.int 16) = real.int (p.length + 16) := addiN (i := p.length) (by omega) (by omega)
  have h : real.lenB (us.sel k n aad p) = p.length + 16 := selLen k n aad p
  rw [e, h]
  exact eqI rfl
theorem sb_t (k n aad p : List UInt8) : real.eqB (real.cutB (us.tag k n aad (real.cutB (us.sel k n aad p) 0 (real.nat (real.int (real.lenB p))))) 0 16) (real.cutB (us.sel k n aad p) (real.nat (real.int (real.lenB p))) (real.subn (real.lenB (us.sel k n aad p)) (real.nat (real.int (real.lenB p))))) = true := by
  rw [cutTag]
  have hl := enc_len k n p
  have hs : (us.sel k n aad p).length = p.length + 16 := selLen k n aad p
  have e1 : real.cutB (us.sel k n aad p) 0 (real.nat (real.int (real.lenB p))) = u_enc k n p := by
    show ((u_seal k n aad p).drop 0).take p.length = _
    unfold u_seal
    rw [List.drop_zero, ← hl, List.take_left]
  have e2 : real.cutB (us.sel k n aad p) (real.nat (real.int (real.lenB p))) (real.subn (real.lenB (us.sel k n aad p)) (real.nat (real.int (real.lenB p)))) = u_tag k n aad (u_enc k n p) := by
    show ((u_seal k n aad p).drop p.length).take ((us.sel k n aad p).length - p.length) = _
    rw [hs]
    unfold u_seal
    rw [← hl, List.drop_left, List.take_of_length_le (by rw [tag_len, hl]; omega)]
  rw [e1, e2]
  exact eqB_self _
theorem sb_s (k n aad p : List UInt8) (c : UInt8) : real.eqi (us.opE k n aad (real.cutB (us.sel k n aad p) 0 (real.nat (real.int (c.toNat % 16))))) (real.int 10) = true := by
  refine eqI ((opE_short _ _ _ _).2 ?_)
  show (List.take (c.toNat % 16) _).length < 16
  rw [List.length_take]
  omega
end Go.Proofs.Ytmldccfchnlpgaa
attribute [local irreducible] Go.Proofs.Ytmldccfchnlpgaa.u_mac Go.Proofs.Ytmldccfchnlpgaa.u_sum Go.Proofs.Ytmldccfchnlpgaa.u_mdv Go.Proofs.Ytmldccfchnlpgaa.u_seal Go.Proofs.Ytmldccfchnlpgaa.u_nonce Go.Proofs.Ytmldccfchnlpgaa.u_enc Go.Proofs.Ytmldccfchnlpgaa.u_tag Go.Proofs.Ytmldccfchnlpgaa.u_opB Go.Proofs.Ytmldccfchnlpgaa.u_opE Go.Proofs.Ytmldccfchnlpgaa.u_wrp Go.Proofs.Ytmldccfchnlpgaa.u_uwE Go.Proofs.Ytmldccfchnlpgaa.u_uwK
namespace Go.Proofs.Ytmldccfchnlpgaa
open Go Go.Vc
noncomputable def sp_law5_SealBack (F : Fs) (U : Us) : Specs := [(68, s_law5_known F U), (69, s_seal_NonceOf F U), (77, s_seal_Seal F U), (70, s_seal_Open F U), (72, s_seal_Unwrap F U), (79, s_seal_Wrap F U), (75, s_seal_TagOf F U)]
theorem ok_law5_SealBack : SpecsOK Try.prog (sp_law5_SealBack real us) := sp_cons r_law5_known k_law5_known (sp_cons r_seal_NonceOf k_seal_NonceOf (sp_cons r_seal_Seal k_seal_Seal (sp_cons r_seal_Open k_seal_Open (sp_cons r_seal_Unwrap k_seal_Unwrap (sp_cons r_seal_Wrap k_seal_Wrap (sp_cons r_seal_TagOf k_seal_TagOf sp_nil))))))
noncomputable def x_law5_SealBack (F : Fs) (U : Us) : Cx := ⟨Try.f21.ntmps, tt F, sp_law5_SealBack F U, [], [(7, ([(1, [0]), (5, [0, 1]), (6, [0, 1]), (8, [0, 1, 5, 6, 7])], [])), (8, ([(1, [0]), (5, [0, 1]), (7, [0, 1])], [])), (9, ([(3, [1]), (14, [12]), (22, [18, 19]), (23, [18, 19]), (24, [18, 19])], []))], [], [9]⟩
theorem c_law5_SealBack (k n aad p : List UInt8) (c : UInt8) (q0 : k.length = 32) (q1 : n.length = 12) (q2 : aad.length ≤ 9223372036854775807) (q3 : p.length ≤ 9223372036854775807) : vc real (x_law5_SealBack real us) [] [] (Try.f21.body.getD .skip) ⟨zipSl 0 [.ag 32 (.bt k), .ag 12 (.bt n), .rb 1 (.bt aad), .rb 1 (.bt p), .w8 c], [], 64⟩ (retOk real (tt real) false Try.f21.results.toList [.val (.b true)]) := by
  have hs : (u_seal k n aad p).length = p.length + 16 := seal_len k n aad p
  generalize hU : us = U
  generalize hF : real = F
  have e1 : F.remi (F.wrapi (F.toI8 c)) (F.int 16) = F.int (c.toNat % 16) := by subst hF; exact sb_c c
  have hp : ¬ F.pB (F.lti (F.int 200) (F.int (F.lenB p))) true → p.length ≤ 200 := by subst hF; exact ge_g (j := 200)
  cbv
  repeat' first | apply And.intro | refine Classical.or_iff_not_imp_left.2 (fun _ => ?_) | exact trivial
  all_goals (try simp only [e1] at *)
  all_goals try (subst hF hU; simp only [real, us, Nat.le_eq, Int.cast_ofNat_Int, decide_eq_false_iff_not, decide_eq_true_eq, List.length_take, List.length_drop, List.length_append, List.length_replicate, List.length_set, List.length_cons, List.length_nil, List.length_zipWith] at *; (try simp (disch := omega) only [wrap_sm] at *); omega)
  all_goals first
    | (subst hU; exact q0)
    | (subst hU; exact q1)
    | (have z := hp (by assumption); subst hF hU; exact sb_l z)
    | (subst hF hU; exact eqI (opE_seal k n aad p))
    | (subst hF hU; exact eqBy (opB_seal k n aad p))
    | (subst hF hU; exact l16t _ _ _ _)
    | (subst hF hU; exact sb_t k n aad p)
    | (subst hF hU; exact sb_s k n aad p c)
end Go.Proofs.Ytmldccfchnlpgaa
namespace Go.Proofs.Ytmldccfchnlpgaa.sealBack
open Go.ChangeShapes Go.WideShapes Go.ChangeAt Go.RowKit
set_option linter.unusedVariables false
theorem own : ownKnob Try.prog.godebug = none := by kernel_rfl
theorem laidOut : laidOutB Try.prog = true := p_laidOut
set_option maxRecDepth 100000 in
theorem lifted (os : Os) (started : os.Started) (H : Type) (enc : TypeId × Value → H) :
    ReturnsInHanded {} Try.checked os 21 .any (Rows.sealBackSpec.pre6 enc Try.prog Try.f21 Rows.sealBackRow.domain false) (Rows.sealBackSpec.post enc Try.prog Try.f21 false true false false) := by
  refine returnsInHanded_of_change (C := Try.checked) own started (by kernel_rfl) Try.func21
    (ChangeSpec.witness6 (enc := enc) (C := Try.checked) false ⟨#[], #[.agg #[.int .u8 0, .int .u8 0, .int .u8 0, .int .u8 0, .int .u8 0, .int .u8 0, .int .u8 0, .int .u8 0, .int .u8 0, .int .u8 0, .int .u8 0, .int .u8 0, .int .u8 0, .int .u8 0, .int .u8 0, .int .u8 0, .int .u8 0, .int .u8 0, .int .u8 0, .int .u8 0, .int .u8 0, .int .u8 0, .int .u8 0, .int .u8 0, .int .u8 0, .int .u8 0, .int .u8 0, .int .u8 0, .int .u8 0, .int .u8 0, .int .u8 0, .int .u8 0], .agg #[.int .u8 0, .int .u8 0, .int .u8 0, .int .u8 0, .int .u8 0, .int .u8 0, .int .u8 0, .int .u8 0, .int .u8 0, .int .u8 0, .int .u8 0, .int .u8 0], .slice none 0 0, .slice none 0 0, .int .u8 0], []⟩ 8 (by kernel_rfl) (by kernel_rfl) (by kernel_rfl) (by kernel_rfl)) ?_
  intro W base args ds gs before hval0 hW hcnd _
  have hval : ∀ (j : Nat) t v, Try.f21.params[j]? = some t → args[j]? = some v → Value.okWide Try.prog W .any base t v := hval0
  have hW' := hW
  obtain ⟨p, q, hA0, hV, rfl, hfz, hnd⟩ := hW
  have hA : DataW.TrodAll enc Try.prog W 0 (fun _ => true) true Try.f21.params.toList args.toList ds p := hA0
  rw [Try.params21] at hA hval
  obtain ⟨v0, vs0, d0, ds0, p0, q0, hargs, rfl, rfl, h0, r0⟩ := trodAll_cons hA
  obtain ⟨v1, vs1, d1, ds1, p1, q1, rfl, rfl, rfl, h1, r1⟩ := trodAll_cons r0
  obtain ⟨v2, vs2, d2, ds2, p2, q2, rfl, rfl, rfl, h2, r2⟩ := trodAll_cons r1
  obtain ⟨v3, vs3, d3, ds3, p3, q3, rfl, rfl, rfl, h3, r3⟩ := trodAll_cons r2
  obtain ⟨v4, vs4, d4, ds4, p4, q4, rfl, rfl, rfl, h4, r4⟩ := trodAll_cons r3
  obtain ⟨rfl, rfl, rfl⟩ := trodAll_nil r4
  obtain rfl : args = #[v0, v1, v2, v3, v4] := by cases args; simp_all
  obtain ⟨rfl, rfl⟩ := trodVars_none hV
  obtain ⟨k, k0, q0⟩ := Go.Vc.openA8 Try.underlying24 Try.underlying5 (by kernel_rfl) (by kernel_rfl) (hval 0 24 v0 rfl rfl) h0
  obtain ⟨n, k1, q1⟩ := Go.Vc.openA8 Try.underlying26 Try.underlying5 (by kernel_rfl) (by kernel_rfl) (hval 1 26 v1 rfl rfl) h1
  obtain ⟨aad, k2, q2⟩ := Go.Vc.openL8 Try.underlying27 Try.underlying5 (by kernel_rfl) (hval 2 27 v2 rfl rfl) h2
  obtain ⟨p, k3, q3⟩ := Go.Vc.openL8 Try.underlying27 Try.underlying5 (by kernel_rfl) (hval 3 27 v3 rfl rfl) h3
  obtain ⟨c, k4⟩ := Go.Vc.open8 Try.underlying5 (hval 4 5 v4 rfl rfl) h4
  clear hA0 hval0
  refine (Go.Vc.law_walk2 (x := x_law5_SealBack Go.Vc.real us) (an := []) (cu := []) (l := [.ag 32 (.bt k), .ag 12 (.bt n), .rb 1 (.bt aad), .rb 1 (.bt p), .w8 c]) (vals := [v0, v1, v2, v3, v4]) ⟨tt_ok, ok_law5_SealBack, Go.Vc.ks_nil⟩ mixed Try.func21 rfl rfl (by kernel_rfl) (Nat.le_of_ble_eq_true rfl) (Go.Vc.rvs_cons k0 (Go.Vc.rvs_cons k1 (Go.Vc.rvs_cons k2 (Go.Vc.rvs_cons k3 (Go.Vc.rvs_cons k4 Go.Vc.rvs_nil))))) (c_law5_SealBack k n aad p c q0 q1 q2 q3)).mono fun e W' ⟨he, bel⟩ => ?_
  subst he
  exact ⟨_, rfl, Go.Vc.post_true (tb := 4) laidOut (by kernel_rfl) rfl Try.underlying4 rfl hW' rfl bel⟩
theorem over : Rows.sealBackRow.holds Try.pinned (OpenSpec.ofChange Rows.sealBackSpec) :=
  OpenClaim.holds_of_wide 21 Try.f21 rfl rfl rfl rfl rfl rfl rfl ⟨rfl, rfl, rfl, rfl, rfl⟩ rfl rfl rfl rfl rfl (by kernel_rfl) Try.func21 (Go.Vc.joined_of p_laidOut p_maps p_stops p_knobs p_heard p_mayEnter p_lifts p_make rfl rfl (by kernel_rfl) (by kernel_rfl) (by kernel_rfl) (by kernel_rfl) (by kernel_rfl) (by kernel_rfl) (by kernel_rfl) (by kernel_rfl) (by kernel_rfl) (by kernel_rfl) (by kernel_rfl) (by kernel_rfl) (by kernel_rfl) (by kernel_rfl) (by kernel_rfl) (by kernel_rfl) (by kernel_rfl) (by kernel_rfl) (by kernel_rfl) (by kernel_rfl) (by kernel_rfl) (by kernel_rfl) (by kernel_rfl) (by kernel_rfl) )
    (of_decide_eq_true (by kernel_rfl)) (by unfold Func.isWrapper; first | (rw [if_pos (by decide +kernel)]; kernel_rfl) | (rw [if_neg (by decide +kernel)]; exact ⟨rfl, rfl⟩))
    (fun os started H enc _ => lifted os started H enc)
theorem proved : Rows.SealBackSaid := over
#print axioms proved
end Go.Proofs.Ytmldccfchnlpgaa.sealBack

