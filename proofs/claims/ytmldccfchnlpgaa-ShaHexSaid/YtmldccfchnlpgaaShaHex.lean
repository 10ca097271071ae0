/- The given statement is proved: for every input the law's function answers true. No condition. -/
import Derived.Test.YtmldccfchnlpgaaRows
import Derived.Test.YtmldccfchnlpgaaPart5
import Derived.Test.YtmldccfchnlpgaaPart6
import Derived.WalkKit
import Derived.ProofKit
import Derived.OpenShut
import Derived.ShutString
set_option linter.unusedVariables false
set_option linter.unusedSimpArgs false
set_option maxRecDepth 100000
set_option maxHeartbeats 1000000
namespace Go.Proofs.Ytmldccfchnlpgaa
attribute [local irreducible] u_hex u_hexP
end Go.Proofs.Ytmldccfchnlpgaa
namespace Go.Proofs.Ytmldccfchnlpgaa
open Go Go.Vc
noncomputable def sp_law2_ShaHex (F : Fs) (U : Us) : Specs := [(39, s_law2_known F U), (42, s_sha_Hex F U)]
theorem ok_law2_ShaHex : SpecsOK Try.prog (sp_law2_ShaHex real us) := sp_cons r_law2_known k_law2_known (sp_cons r_sha_Hex k_sha_Hex sp_nil)
noncomputable def an_law2_ShaHex (F : Fs) (U : Us) (a b : List UInt8) : Anns := [(8, ⟨Nat, fun i => i ≤ 32, fun i => F.subn 32 i, fun i => ⟨[(2, .p 0 0 0), (5, .s (U.hex a)), (6, .s (F.ofS ⟨#[48, 49, 50, 51, 52, 53, 54, 55, 56, 57, 97, 98, 99, 100, 101, 102]⟩)), (7, .i (F.int i))], [(2, 0, .bk 23 [(32, .bt a)])]⟩⟩)]
noncomputable def x_law2_ShaHex (F : Fs) (U : Us) : Cx := ⟨Try.f5.ntmps, tt F, sp_law2_ShaHex F U, [], [(4, ([(8, [5, 6]), (9, [5, 6, 8])], [])), (10, ([(7, [3]), (9, [3]), (20, [16]), (22, [16])], []))], [], []⟩
theorem c_law2_ShaHex (a b : List UInt8) (q0 : a.length = 32) (q1 : b.length = 32) : vc real (x_law2_ShaHex real us) (an_law2_ShaHex real us a b) [] (Try.f5.body.getD .skip) ⟨zipSl 0 [.ag 32 (.bt a), .ag 32 (.bt b)], [], 64⟩ (retOk real (tt real) false Try.f5.results.toList [.val (.b true)]) := by
  generalize hU : us = U
  generalize hF : real = F
  have hla := hex_len a
  have hlb := hex_len b
  cbv
  repeat' first | apply And.intro | refine Classical.or_iff_not_imp_left.2 (fun _ => ?_) | exact trivial
  all_goals try (subst hF hU; simp only [real, us, Nat.le_eq, Int.cast_ofNat_Int, decide_eq_false_iff_not, decide_eq_true_eq, List.length_take, List.length_drop, List.length_append, List.length_replicate, List.length_set, List.length_cons, List.length_nil, List.length_zipWith] at *; (try simp (disch := omega) only [wrap_sm] at *); omega)
  all_goals try (first | (subst hU; exact q0) | (subst hU; exact q1))
  all_goals try (subst hF hU; exfalso; rename_i hh; first | exact hexA a hh | exact hexB a b q0 q1 hh)
  · refine ⟨(0 : Nat), ?_⟩
    cbv
    repeat' first | apply And.intro | refine Classical.or_iff_not_imp_left.2 (fun _ => ?_) | exact trivial
    all_goals try (subst hF hU; simp only [real, us, Nat.le_eq, Int.cast_ofNat_Int, decide_eq_false_iff_not, decide_eq_true_eq, List.length_take, List.length_drop, List.length_append, List.length_replicate, List.length_set, List.length_cons, List.length_nil, List.length_zipWith] at *; (try simp (disch := omega) only [wrap_sm] at *); omega)
    all_goals trace_state
  · intro (i : Nat) hi
    replace hi : i ≤ 32 := hi
    have hi1 : IntKind.i64.wrap ((i : Int) + 1) = (i : Int) + 1 := wrap_sm (by omega) (by omega)
    cbv
    repeat' first | apply And.intro | refine Classical.or_iff_not_imp_left.2 (fun _ => ?_) | exact trivial
    all_goals try (subst hF hU; simp only [real, us, Nat.le_eq, Int.cast_ofNat_Int, decide_eq_false_iff_not, decide_eq_true_eq, List.length_take, List.length_drop, List.length_append, List.length_replicate, List.length_set, List.length_cons, List.length_nil, List.length_zipWith] at *; (try simp (disch := omega) only [wrap_sm] at *); omega)
    all_goals try (first | (subst hF; exact hi_in _) | (subst hF; exact lo_in _))
    all_goals try (exfalso; rename_i g1 hh; subst hF hU; exact notb_no (hexC a i (lt_g g1)) hh)
    all_goals try (exfalso; rename_i g1 g2 hh; subst hF hU; exact notb_no (hexD a i (lt_g g1)) hh)
    · rename_i g1 _ _
      have h32 : i < 32 := by
        subst hF hU
        exact lt_g g1
      refine ⟨(i + 1 : Nat), ?_⟩
      cbv; subst hF hU
      exact ⟨by show i + 1 ≤ 32; omega, by show 32 - (i + 1) < 32 - i; omega, ⟨hi1, trivial⟩, trivial⟩
end Go.Proofs.Ytmldccfchnlpgaa
namespace Go.Proofs.Ytmldccfchnlpgaa.shaHex
open Go.ChangeShapes Go.WideShapes Go.ChangeAt Go.RowKit
set_option linter.unusedVariables false
theorem own : ownKnob Try.prog.godebug = none := by kernel_rfl
theorem laidOut : laidOutB Try.prog = true := p_laidOut
set_option maxRecDepth 100000 in
theorem lifted (os : Os) (started : os.Started) (H : Type) (enc : TypeId × Value → H) :
    ReturnsInHanded {} Try.checked os 5 .any (Rows.shaHexSpec.pre6 enc Try.prog Try.f5 Rows.shaHexRow.domain false) (Rows.shaHexSpec.post enc Try.prog Try.f5 false true false false) := by
  refine returnsInHanded_of_change (C := Try.checked) own started (by kernel_rfl) Try.func5
    (ChangeSpec.witness6 (enc := enc) (C := Try.checked) false ⟨#[], #[.agg #[.int .u8 0, .int .u8 0, .int .u8 0, .int .u8 0, .int .u8 0, .int .u8 0, .int .u8 0, .int .u8 0, .int .u8 0, .int .u8 0, .int .u8 0, .int .u8 0, .int .u8 0, .int .u8 0, .int .u8 0, .int .u8 0, .int .u8 0, .int .u8 0, .int .u8 0, .int .u8 0, .int .u8 0, .int .u8 0, .int .u8 0, .int .u8 0, .int .u8 0, .int .u8 0, .int .u8 0, .int .u8 0, .int .u8 0, .int .u8 0, .int .u8 0, .int .u8 0], .agg #[.int .u8 0, .int .u8 0, .int .u8 0, .int .u8 0, .int .u8 0, .int .u8 0, .int .u8 0, .int .u8 0, .int .u8 0, .int .u8 0, .int .u8 0, .int .u8 0, .int .u8 0, .int .u8 0, .int .u8 0, .int .u8 0, .int .u8 0, .int .u8 0, .int .u8 0, .int .u8 0, .int .u8 0, .int .u8 0, .int .u8 0, .int .u8 0, .int .u8 0, .int .u8 0, .int .u8 0, .int .u8 0, .int .u8 0, .int .u8 0, .int .u8 0, .int .u8 0]], []⟩ 8 (by kernel_rfl) (by kernel_rfl) (by kernel_rfl) (by kernel_rfl)) ?_
  intro W base args ds gs before hval0 hW hcnd _
  have hval : ∀ (j : Nat) t v, Try.f5.params[j]? = some t → args[j]? = some v → Value.okWide Try.prog W .any base t v := hval0
  have hW' := hW
  obtain ⟨p, q, hA0, hV, rfl, hfz, hnd⟩ := hW
  have hA : DataW.TrodAll enc Try.prog W 0 (fun _ => true) true Try.f5.params.toList args.toList ds p := hA0
  rw [Try.params5] at hA hval
  obtain ⟨v0, vs0, d0, ds0, p0, q0, hargs, rfl, rfl, h0, r0⟩ := trodAll_cons hA
  obtain ⟨v1, vs1, d1, ds1, p1, q1, rfl, rfl, rfl, h1, r1⟩ := trodAll_cons r0
  obtain ⟨rfl, rfl, rfl⟩ := trodAll_nil r1
  obtain rfl : args = #[v0, v1] := by cases args; simp_all
  obtain ⟨rfl, rfl⟩ := trodVars_none hV
  obtain ⟨a, k0, q0⟩ := Go.Vc.openA8 Try.underlying23 Try.underlying5 (by kernel_rfl) (by kernel_rfl) (hval 0 23 v0 rfl rfl) h0
  obtain ⟨b, k1, q1⟩ := Go.Vc.openA8 Try.underlying23 Try.underlying5 (by kernel_rfl) (by kernel_rfl) (hval 1 23 v1 rfl rfl) h1
  clear hA0 hval0
  refine (Go.Vc.law_walk2 (x := x_law2_ShaHex Go.Vc.real us) (an := (an_law2_ShaHex Go.Vc.real us a b)) (cu := []) (l := [.ag 32 (.bt a), .ag 32 (.bt b)]) (vals := [v0, v1]) ⟨tt_ok, ok_law2_ShaHex, Go.Vc.ks_nil⟩ mixed Try.func5 rfl rfl (by kernel_rfl) (Nat.le_of_ble_eq_true rfl) (Go.Vc.rvs_cons k0 (Go.Vc.rvs_cons k1 Go.Vc.rvs_nil)) (c_law2_ShaHex a b q0 q1)).mono fun e W' ⟨he, bel⟩ => ?_
  subst he
  exact ⟨_, rfl, Go.Vc.post_true (tb := 4) laidOut (by kernel_rfl) rfl Try.underlying4 rfl hW' rfl bel⟩
theorem over : Rows.shaHexRow.holds Try.pinned (OpenSpec.ofChange Rows.shaHexSpec) :=
  OpenClaim.holds_of_wide 5 Try.f5 rfl rfl rfl rfl rfl rfl rfl ⟨rfl, rfl, rfl, rfl, rfl⟩ rfl rfl rfl rfl rfl (by kernel_rfl) Try.func5 (Go.Vc.joined_of p_laidOut p_maps p_stops p_knobs p_heard p_mayEnter p_lifts p_make rfl rfl (by kernel_rfl) (by kernel_rfl) (by kernel_rfl) (by kernel_rfl) (by kernel_rfl) (by kernel_rfl) (by kernel_rfl) (by kernel_rfl) (by kernel_rfl) (by kernel_rfl) (by kernel_rfl) (by kernel_rfl) (by kernel_rfl) (by kernel_rfl) (by kernel_rfl) (by kernel_rfl) (by kernel_rfl) (by kernel_rfl) (by kernel_rfl) (by kernel_rfl) (by kernel_rfl) (by kernel_rfl) (by kernel_rfl) (by kernel_rfl) )
    (of_decide_eq_true (by kernel_rfl)) (by unfold Func.isWrapper; first | (rw [if_pos (by decide +kernel)]; kernel_rfl) | (rw [if_neg (by decide +kernel)]; exact ⟨rfl, rfl⟩))
    (fun os started H enc _ => lifted os started H enc)
theorem proved : Rows.ShaHexSaid := over
#print axioms proved
end Go.Proofs.Ytmldccfchnlpgaa.shaHex

