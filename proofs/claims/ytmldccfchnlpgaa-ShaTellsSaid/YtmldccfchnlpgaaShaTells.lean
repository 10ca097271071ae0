/- The given statement is proved: for every input the law's function answers true. No condition. -/
import Derived.Test.YtmldccfchnlpgaaRows
import Derived.Test.YtmldccfchnlpgaaPart5
import Derived.Test.YtmldccfchnlpgaaPart6
import Derived.WalkKit
import Derived.ProofKit
import Derived.OpenShut
import Derived.ShutString
set_option linter.unusedVariables false
set_option linter.unusedSimpArgs false
set_option maxRecDepth 100000
set_option maxHeartbeats 1000000
namespace Go.Proofs.Ytmldccfchnlpgaa
attribute [local irreducible] u_sched u_rnds u_kc u_add u_blks u_first u_next u_padZ u_padP u_pad u_outB u_nblk u_fin u_ws u_wr u_sum u_outF u_hex u_hexP
open Go Go.Vc

theorem r200 : real.pNe (real.toI16 (real.ofI16 (real.int 200))) := by show ¬ (_ = _); decide
theorem i200 {i : Nat} {n : UInt16} (h : ¬ real.pB (real.lti (real.int i) (real.wrapi (real.toI16 (real.rem16 n (real.ofI16 (real.int 200)))))) false) : i < 200 := by
  have h2 : (real.toI16 (real.rem16 n (real.ofI16 (real.int 200)))) < 200 := by
    show ((n % 200).toNat : Int) < 200
    rw [UInt16.toNat_mod]
    have : n.toNat % (200 : UInt16).toNat < 200 := Nat.mod_lt _ (by decide)
    omega
  have h3 : 0 ≤ (real.toI16 (real.rem16 n (real.ofI16 (real.int 200)))) := Int.natCast_nonneg _
  have h4 : real.wrapi (real.toI16 (real.rem16 n (real.ofI16 (real.int 200)))) = real.toI16 (real.rem16 n (real.ofI16 (real.int 200))) := wrap_sm (by omega) (by omega)
  rw [h4] at h
  generalize real.toI16 (real.rem16 n (real.ofI16 (real.int 200))) = z at *
  simp only [real, Bool.not_eq_false, decide_eq_true_eq] at h
  omega
end Go.Proofs.Ytmldccfchnlpgaa
namespace Go.Proofs.Ytmldccfchnlpgaa
open Go Go.Vc
noncomputable def sp_law2_ShaTells (F : Fs) (U : Us) : Specs := [(39, s_law2_known F U), (40, s_sha_Sum F U), (41, s_ref2_Sum F U)]
theorem ok_law2_ShaTells : SpecsOK Try.prog (sp_law2_ShaTells real us) := sp_cons r_law2_known k_law2_known (sp_cons r_sha_Sum k_sha_Sum (sp_cons r_ref2_Sum k_ref2_Sum sp_nil))
noncomputable def an_law2_ShaTells (F : Fs) (U : Us) (b : List UInt8) (n : UInt16) : Anns := [(7, ⟨Nat × List UInt8, fun s => s.1 ≤ 200 ∧ F.pLe (F.lenB s.2) (F.addn 300 s.1), fun s => F.subn 200 s.1, fun s => ⟨[(1, .w16 n), (5, .rw 5), (6, .i (F.int s.1))], [(5, 5, .row 5 1 (.bt s.2))]⟩⟩)]
noncomputable def x_law2_ShaTells (F : Fs) (U : Us) : Cx := ⟨Try.f4.ntmps, tt F, sp_law2_ShaTells F U, [], [], [], []⟩
theorem c_law2_ShaTells (b : List UInt8) (n : UInt16) (q0 : b.length ≤ 9223372036854775807) : vc real (x_law2_ShaTells real us) (an_law2_ShaTells real us b n) [] (Try.f4.body.getD .skip) ⟨zipSl 0 [.rb 1 (.bt b), .w16 n], [], 64⟩ (retOk real (tt real) false Try.f4.results.toList [.val (.b true)]) := by
  generalize hU : us = U
  generalize hF : real = F
  cbv
  repeat' first | apply And.intro | refine Classical.or_iff_not_imp_left.2 (fun _ => ?_) | exact trivial
  all_goals try (subst hF hU; simp only [real, us, Nat.le_eq, Int.cast_ofNat_Int, decide_eq_false_iff_not, decide_eq_true_eq, List.length_take, List.length_drop, List.length_append, List.length_replicate, List.length_set, List.length_cons, List.length_nil, List.length_zipWith] at *; (try simp (disch := omega) only [wrap_sm] at *); omega)
  · refine ⟨((0, b) : Nat × List UInt8), ?_⟩
    cbv; subst hF hU
    rename_i hg
    exact ⟨ge_g hg, trivial⟩
  · intro (s : Nat × List UInt8) hs
    obtain ⟨i, c⟩ := s
    have hi : i ≤ 200 := hs.1
    have hcl : c.length ≤ 300 + i := by subst hF; exact hs.2
    clear hs
    have hi1 : IntKind.i64.wrap ((i : Int) + 1) = (i : Int) + 1 := wrap_sm (by omega) (by omega)
    cbv
    repeat' first | apply And.intro | refine Classical.or_iff_not_imp_left.2 (fun _ => ?_) | exact trivial
    all_goals try (subst hF hU; simp only [real, us, Nat.le_eq, Int.cast_ofNat_Int, decide_eq_false_iff_not, decide_eq_true_eq, List.length_take, List.length_drop, List.length_append, List.length_replicate, List.length_set, List.length_cons, List.length_nil, List.length_zipWith] at *; (try simp (disch := omega) only [wrap_sm] at *); omega)
    · subst hF; exact r200
    · refine ⟨((i + 1, F.appB c [F.ofI8 (F.int i)]) : Nat × List UInt8), ?_⟩
      cbv; subst hF hU
      rename_i hg
      have := i200 hg
      refine ⟨⟨by show i + 1 ≤ 200; omega, ?_⟩, by show 200 - (i + 1) < 200 - i; omega, ⟨hi1, trivial⟩, trivial⟩
      show (c ++ [_]).length ≤ 300 + (i + 1)
      simp; omega
    all_goals (subst hF hU; exact eqB_self _)
end Go.Proofs.Ytmldccfchnlpgaa
namespace Go.Proofs.Ytmldccfchnlpgaa.shaTells
open Go.ChangeShapes Go.WideShapes Go.ChangeAt Go.RowKit
set_option linter.unusedVariables false
theorem own : ownKnob Try.prog.godebug = none := by kernel_rfl
theorem laidOut : laidOutB Try.prog = true := p_laidOut
set_option maxRecDepth 100000 in
theorem lifted (os : Os) (started : os.Started) (H : Type) (enc : TypeId × Value → H) :
    ReturnsInHanded {} Try.checked os 4 .any (Rows.shaTellsSpec.pre6 enc Try.prog Try.f4 Rows.shaTellsRow.domain false) (Rows.shaTellsSpec.post enc Try.prog Try.f4 false true false false) := by
  refine returnsInHanded_of_change (C := Try.checked) own started (by kernel_rfl) Try.func4
    (ChangeSpec.witness6 (enc := enc) (C := Try.checked) false ⟨#[], #[.slice none 0 0, .int .u16 0], []⟩ 8 (by kernel_rfl) (by kernel_rfl) (by kernel_rfl) (by kernel_rfl)) ?_
  intro W base args ds gs before hval0 hW hcnd _
  have hval : ∀ (j : Nat) t v, Try.f4.params[j]? = some t → args[j]? = some v → Value.okWide Try.prog W .any base t v := hval0
  have hW' := hW
  obtain ⟨p, q, hA0, hV, rfl, hfz, hnd⟩ := hW
  have hA : DataW.TrodAll enc Try.prog W 0 (fun _ => true) true Try.f4.params.toList args.toList ds p := hA0
  rw [Try.params4] at hA hval
  obtain ⟨v0, vs0, d0, ds0, p0, q0, hargs, rfl, rfl, h0, r0⟩ := trodAll_cons hA
  obtain ⟨v1, vs1, d1, ds1, p1, q1, rfl, rfl, rfl, h1, r1⟩ := trodAll_cons r0
  obtain ⟨rfl, rfl, rfl⟩ := trodAll_nil r1
  obtain rfl : args = #[v0, v1] := by cases args; simp_all
  obtain ⟨rfl, rfl⟩ := trodVars_none hV
  obtain ⟨b, k0, q0⟩ := Go.Vc.openL8 Try.underlying27 Try.underlying5 (by kernel_rfl) (hval 0 27 v0 rfl rfl) h0
  obtain ⟨n, k1⟩ := Go.Vc.open16 Try.underlying35 (hval 1 35 v1 rfl rfl) h1
  clear hA0 hval0
  refine (Go.Vc.law_walk2 (x := x_law2_ShaTells Go.Vc.real us) (an := (an_law2_ShaTells Go.Vc.real us b n)) (cu := []) (l := [.rb 1 (.bt b), .w16 n]) (vals := [v0, v1]) ⟨tt_ok, ok_law2_ShaTells, Go.Vc.ks_nil⟩ mixed Try.func4 rfl rfl (by kernel_rfl) (Nat.le_of_ble_eq_true rfl) (Go.Vc.rvs_cons k0 (Go.Vc.rvs_cons k1 Go.Vc.rvs_nil)) (c_law2_ShaTells b n q0)).mono fun e W' ⟨he, bel⟩ => ?_
  subst he
  exact ⟨_, rfl, Go.Vc.post_true (tb := 4) laidOut (by kernel_rfl) rfl Try.underlying4 rfl hW' rfl bel⟩
theorem over : Rows.shaTellsRow.holds Try.pinned (OpenSpec.ofChange Rows.shaTellsSpec) :=
  OpenClaim.holds_of_wide 4 Try.f4 rfl rfl rfl rfl rfl rfl rfl ⟨rfl, rfl, rfl, rfl, rfl⟩ rfl rfl rfl rfl rfl (by kernel_rfl) Try.func4 (Go.Vc.joined_of p_laidOut p_maps p_stops p_knobs p_heard p_mayEnter p_lifts p_make rfl rfl (by kernel_rfl) (by kernel_rfl) (by kernel_rfl) (by kernel_rfl) (by kernel_rfl) (by kernel_rfl) (by kernel_rfl) (by kernel_rfl) (by kernel_rfl) (by kernel_rfl) (by kernel_rfl) (by kernel_rfl) (by kernel_rfl) (by kernel_rfl) (by kernel_rfl) (by kernel_rfl) (by kernel_rfl) (by kernel_rfl) (by kernel_rfl) (by kernel_rfl) (by kernel_rfl) (by kernel_rfl) (by kernel_rfl) (by kernel_rfl) )
    (of_decide_eq_true (by kernel_rfl)) (by unfold Func.isWrapper; first | (rw [if_pos (by decide +kernel)]; kernel_rfl) | (rw [if_neg (by decide +kernel)]; exact ⟨rfl, rfl⟩))
    (fun os started H enc _ => lifted os started H enc)
theorem proved : Rows.ShaTellsSaid := over
#print axioms proved
end Go.Proofs.Ytmldccfchnlpgaa.shaTells

