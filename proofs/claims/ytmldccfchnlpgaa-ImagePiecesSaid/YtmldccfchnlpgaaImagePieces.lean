/- The given statement is proved: for every input the law's function answers true. No condition. -/
import Derived.Test.YtmldccfchnlpgaaRows
import Derived.Test.YtmldccfchnlpgaaPart6
import Derived.Test.YtmldccfchnlpgaaPart7
import Derived.WalkKit
import Derived.HandedShaped
import Derived.ProofKit
import Derived.OpenShut
import Derived.ShutString
set_option linter.unusedVariables false
set_option linter.unusedSimpArgs false
set_option maxRecDepth 100000
set_option maxHeartbeats 1000000
namespace Go.Proofs.Ytmldccfchnlpgaa
open Go Go.Vc
theorem ip_le (a b : UInt8) : real.wrapi (real.toI8 (real.min8 a b)) ≤ real.wrapi (real.toI8 (real.max8 a b)) := by
  have ha := a.toNat_lt
  have hb := b.toNat_lt
  have e : ∀ c : UInt8, real.wrapi (real.toI8 c) = (c.toNat : Int) := by
    intro c
    have hc := c.toNat_lt
    show IntKind.i64.wrap (c.toNat : Int) = _
    rw [wrap_sm (by omega) (by omega)]
  rw [e, e]
  show (((if b.toNat < a.toNat then b else a).toNat : Nat) : Int) ≤ (((if a.toNat < b.toNat then b else a).toNat : Nat) : Int)
  split <;> split <;> omega
theorem ip1 (p : List UInt8) (l : Int) : real.notb (us.plain p [] l) = true := rfl
theorem ip2 {p q : List UInt8} (hq : 0 < q.length) : real.eqb (us.plain p q (real.int (real.lenB q))) (real.lei (real.int 0) (us.find p q)) = true := by
  show (u_plain p q (q.length : Int) == decide (0 ≤ u_find p q)) = true
  rw [plain_len hq]
  simp
theorem ip0 {q : List UInt8} (h : ¬ real.pB (real.eqi (real.int (real.lenB q)) (real.int 0)) true) : 0 < q.length := by
  have h1 : ((q.length : Nat) : Int) ≠ 0 := eq0_f h
  omega
theorem ip4 {p q : List UInt8} {a b : UInt8} (h : ¬ real.pB (real.notb (us.plain p q (real.wrapi (real.toI8 (real.max8 a b))))) true) : real.pB (us.plain p q (real.wrapi (real.toI8 (real.min8 a b)))) true := by
  refine plain_mono (ip_le a b) ?_
  cases e : u_plain p q (real.wrapi (real.toI8 (real.max8 a b))) with
  | true => rfl
  | false =>
    refine absurd ?_ h
    show (!u_plain p q (real.wrapi (real.toI8 (real.max8 a b)))) = true
    rw [e]; rfl
theorem ip5 : real.pB (real.notb true) false := rfl
end Go.Proofs.Ytmldccfchnlpgaa
attribute [local irreducible] Go.Proofs.Ytmldccfchnlpgaa.u_uwE Go.Proofs.Ytmldccfchnlpgaa.u_uwK Go.Proofs.Ytmldccfchnlpgaa.u_cut48 Go.Proofs.Ytmldccfchnlpgaa.u_wrI Go.Proofs.Ytmldccfchnlpgaa.u_wrO Go.Proofs.Ytmldccfchnlpgaa.u_wrF Go.Proofs.Ytmldccfchnlpgaa.u_wrp Go.Proofs.Ytmldccfchnlpgaa.u_smL Go.Proofs.Ytmldccfchnlpgaa.u_smN Go.Proofs.Ytmldccfchnlpgaa.u_find Go.Proofs.Ytmldccfchnlpgaa.u_plain Go.Proofs.Ytmldccfchnlpgaa.u_wm
namespace Go.Proofs.Ytmldccfchnlpgaa
open Go Go.Vc
noncomputable def sp_law27_ImagePieces (F : Fs) (U : Us) : Specs := [(81, s_law27_known F U), (84, s_image_Find F U), (85, s_image_Plain F U)]
theorem ok_law27_ImagePieces : SpecsOK Try.prog (sp_law27_ImagePieces real us) := sp_cons r_law27_known k_law27_known (sp_cons r_image_Find k_image_Find (sp_cons r_image_Plain k_image_Plain sp_nil))
noncomputable def x_law27_ImagePieces (F : Fs) (U : Us) : Cx := ⟨Try.f30.ntmps, tt F, sp_law27_ImagePieces F U, [], [], [], []⟩
theorem c_law27_ImagePieces (p q : List UInt8) (a b : UInt8) (q0 : p.length ≤ 9223372036854775807) (q1 : q.length ≤ 9223372036854775807) : vc real (x_law27_ImagePieces real us) [] [] (Try.f30.body.getD .skip) ⟨zipSl 0 [.rb 1 (.bt p), .rb 1 (.bt q), .w8 a, .w8 b], [], 64⟩ (retOk real (tt real) false Try.f30.results.toList [.val (.b true)]) := by
  generalize hU : us = U
  generalize hF : real = F
  cbv
  repeat' first | apply And.intro | refine Classical.or_iff_not_imp_left.2 (fun _ => ?_) | exact trivial
  all_goals try (subst hF hU; simp only [real, us, Nat.le_eq, Int.cast_ofNat_Int, decide_eq_false_iff_not, decide_eq_true_eq, List.length_take, List.length_drop, List.length_append, List.length_replicate, List.length_set, List.length_cons, List.length_nil, List.length_zipWith] at *; (try simp (disch := omega) only [wrap_sm] at *); omega)
  all_goals subst hF hU
  all_goals first
    | exact ip1 _ _
    | exact absurd ip5 (by assumption)
    | exact absurd (ip2 (ip0 (by assumption))) (by assumption)
    | exact absurd (plain_self (ip0 (by assumption)) _) (by assumption)
    | exact absurd (ip4 (by assumption)) (by assumption)
end Go.Proofs.Ytmldccfchnlpgaa
namespace Go.Proofs.Ytmldccfchnlpgaa.imagePieces
open Go.ChangeShapes Go.WideShapes Go.ChangeAt Go.RowKit
set_option linter.unusedVariables false
theorem own : ownKnob Try.prog.godebug = none := by kernel_rfl
theorem laidOut : laidOutB Try.prog = true := p_laidOut
set_option maxRecDepth 100000 in
theorem lifted (os : Os) (started : os.Started) (H : Type) (enc : TypeId × Value → H) :
    ReturnsInHanded {} Try.checked os 30 .any (Rows.imagePiecesSpec.pre6 enc Try.prog Try.f30 Rows.imagePiecesRow.domain false) (Rows.imagePiecesSpec.post enc Try.prog Try.f30 false true false false) := by
  refine returnsInHanded_of_change_shaped (C := Try.checked) own started (by kernel_rfl) Try.func30
    (ChangeSpec.witness6 (enc := enc) (C := Try.checked) false ⟨#[], #[.slice none 0 0, .slice none 0 0, .int .u8 0, .int .u8 0], []⟩ 8 (by kernel_rfl) (by kernel_rfl) (by kernel_rfl) (by kernel_rfl)) ?_
  intro W base args ds gs before hval0 hW hcnd hrch hsh _
  have hval : ∀ (j : Nat) t v, Try.f30.params[j]? = some t → args[j]? = some v → Value.okWide Try.prog W .any base t v := hval0
  have hW' := hW
  obtain ⟨p, q, hA0, hV, rfl, hfz, hnd⟩ := hW
  have hA : DataW.TrodAll enc Try.prog W 0 (fun _ => true) true Try.f30.params.toList args.toList ds p := hA0
  rw [Try.params30] at hA hval
  obtain ⟨v0, vs0, d0, ds0, p0, q0, hargs, rfl, rfl, h0, r0⟩ := trodAll_cons hA
  obtain ⟨v1, vs1, d1, ds1, p1, q1, rfl, rfl, rfl, h1, r1⟩ := trodAll_cons r0
  obtain ⟨v2, vs2, d2, ds2, p2, q2, rfl, rfl, rfl, h2, r2⟩ := trodAll_cons r1
  obtain ⟨v3, vs3, d3, ds3, p3, q3, rfl, rfl, rfl, h3, r3⟩ := trodAll_cons r2
  obtain ⟨rfl, rfl, rfl⟩ := trodAll_nil r3
  obtain rfl : args = #[v0, v1, v2, v3] := by cases args; simp_all
  obtain ⟨rfl, rfl⟩ := trodVars_none hV
  obtain ⟨p, k0, q0⟩ := Go.Vc.openL8 Try.underlying27 Try.underlying5 (by kernel_rfl) (hval 0 27 v0 rfl rfl) h0
  obtain ⟨q, k1, q1⟩ := Go.Vc.openL8 Try.underlying27 Try.underlying5 (by kernel_rfl) (hval 1 27 v1 rfl rfl) h1
  obtain ⟨a, k2⟩ := Go.Vc.open8 Try.underlying5 (hval 2 5 v2 rfl rfl) h2
  obtain ⟨b, k3⟩ := Go.Vc.open8 Try.underlying5 (hval 3 5 v3 rfl rfl) h3
  clear hA0 hval0
  refine (Go.Vc.law_walk2 (x := x_law27_ImagePieces Go.Vc.real us) (an := []) (cu := []) (l := [.rb 1 (.bt p), .rb 1 (.bt q), .w8 a, .w8 b]) (vals := [v0, v1, v2, v3]) ⟨tt_ok, ok_law27_ImagePieces, Go.Vc.ks_nil⟩ mixed Try.func30 rfl rfl (by kernel_rfl) hsh (Nat.le_of_ble_eq_true rfl) (Go.Vc.rvs_cons k0 (Go.Vc.rvs_cons k1 (Go.Vc.rvs_cons k2 (Go.Vc.rvs_cons k3 Go.Vc.rvs_nil)))) (c_law27_ImagePieces p q a b q0 q1)).mono fun e W' ⟨he, bel⟩ => ?_
  subst he
  exact ⟨_, rfl, Go.Vc.post_true (tb := 4) laidOut (by kernel_rfl) rfl Try.underlying4 rfl hW' rfl bel⟩
theorem over : Rows.imagePiecesRow.holds Try.pinned (OpenSpec.ofChange Rows.imagePiecesSpec) :=
  OpenClaim.holds_of_wide 30 Try.f30 rfl rfl rfl rfl rfl rfl rfl ⟨rfl, rfl, rfl, rfl, rfl⟩ rfl rfl rfl rfl rfl (by kernel_rfl) Try.func30 (Go.Vc.joined_of p_laidOut p_maps p_stops p_knobs p_heard p_mayEnter p_lifts p_make rfl rfl (by kernel_rfl) (by kernel_rfl) (by kernel_rfl) (by kernel_rfl) (by kernel_rfl) (by kernel_rfl) (by kernel_rfl) (by kernel_rfl) (by kernel_rfl) (by kernel_rfl) (by kernel_rfl) (by kernel_rfl) (by kernel_rfl) (by kernel_rfl) (by kernel_rfl) (by kernel_rfl) (by kernel_rfl) (by kernel_rfl) (by kernel_rfl) (by kernel_rfl) (by kernel_rfl) (by kernel_rfl) (by kernel_rfl) (by kernel_rfl) )
    (of_decide_eq_true (by kernel_rfl)) (by unfold Func.isWrapper; first | (rw [if_pos (by decide +kernel)]; kernel_rfl) | (rw [if_neg (by decide +kernel)]; exact ⟨rfl, rfl⟩))
    (fun os started H enc _ => lifted os started H enc)
theorem proved : Rows.ImagePiecesSaid := over
#print axioms proved
end Go.Proofs.Ytmldccfchnlpgaa.imagePieces

