/- The given statement is proved: for every input the law's function answers true. No condition. -/
import Derived.Test.YtmldccfchnlpgaaRows
import Derived.Test.YtmldccfchnlpgaaPart6
import Derived.Test.YtmldccfchnlpgaaPart7
import Derived.WalkKit
import Derived.HandedShaped
import Derived.ProofKit
import Derived.OpenShut
import Derived.ShutString
set_option linter.unusedVariables false
set_option linter.unusedSimpArgs false
set_option maxRecDepth 100000
set_option maxHeartbeats 1000000
namespace Go.Proofs.Ytmldccfchnlpgaa
open Go Go.Vc
noncomputable abbrev fS : UInt32 := real.ofI32 (real.int 1)
noncomputable abbrev fW (k x : List UInt8) : List UInt8 := us.wrp k fS (real.ofI64 (real.int 2)) x
noncomputable abbrev fV (k y : List UInt8) : List UInt8 := us.wrp k fS (real.ofI64 (real.int 3)) y
noncomputable abbrev fA (a : UInt8) : Int := real.wrapi (real.toI8 (real.rem8 a (real.ofI8 (real.int 20))))
noncomputable abbrev fI (k x y : List UInt8) (a : UInt8) : List UInt8 := real.appB (real.appB (real.cutB (fW k x) 0 48) (real.repB (real.nat (fA a)))) (real.cutB (fV k y) 0 48)
noncomputable abbrev fB (b : UInt8) : Int := real.remi (real.wrapi (real.toI8 b)) (real.int 48)
theorem fi_ne : real.pNe (real.toI8 (real.ofI8 (real.int 20))) := by show ¬ (_ = _); decide
theorem fi_a (a : UInt8) : fA a = ((a.toNat % 20 : Nat) : Int) := by
  have ha := a.toNat_lt
  have e : (real.ofI8 (real.int 20)).toNat = 20 := rfl
  have e2 : (real.rem8 a (real.ofI8 (real.int 20))).toNat = a.toNat % 20 := by
    show (a % real.ofI8 (real.int 20)).toNat = _
    rw [UInt8.toNat_mod, e]
  show IntKind.i64.wrap (((real.rem8 a (real.ofI8 (real.int 20))).toNat : Nat) : Int) = _
  rw [e2, wrap_sm (by omega) (by omega)]
theorem fi_a0 (a : UInt8) : real.p0 (fA a) := by rw [fi_a]; show (0 : Int) ≤ _; omega
theorem fi_am (a : UInt8) : real.pMk (fA a) 1 := by
  rw [fi_a]
  show (0 : Int) ≤ ((a.toNat % 20 : Nat) : Int) ∧ ((a.toNat % 20 : Nat) : Int) * 1 ≤ 281474976710656 ∧ ((a.toNat % 20 : Nat) : Int) ≤ 4611686018427387904
  omega
theorem fi_b (b : UInt8) : fB b = ((b.toNat % 48 : Nat) : Int) := by
  have hb := b.toNat_lt
  have e : real.wrapi (real.toI8 b) = (b.toNat : Int) := by
    show IntKind.i64.wrap (b.toNat : Int) = _
    rw [wrap_sm (by omega) (by omega)]
  show real.remi (real.wrapi (real.toI8 b)) (real.int 48) = _
  rw [e]
  show (b.toNat : Int).tmod 48 = _
  rfl
theorem fi_b0 (b : UInt8) : real.p0 (fB b) := by rw [fi_b]; show (0 : Int) ≤ _; omega
theorem fi_b48 (b : UInt8) : real.pLe (real.nat (fB b)) 48 := by
  rw [fi_b]
  show ((b.toNat % 48 : Nat) : Int).toNat ≤ 48
  omega
theorem fi_w {k x : List UInt8} (h : x.length = 32) : (fW k x).length = 48 := wrp_len _ _ _ _ h
theorem fi_v {k y : List UInt8} (h : y.length = 32) : (fV k y).length = 48 := wrp_len _ _ _ _ h
theorem fi_pw {k x : List UInt8} (h : x.length = 32) : real.pLe (real.addn 0 48) (real.lenB (fW k x)) := by
  have := fi_w (k := k) h
  show 48 ≤ (fW k x).length
  omega
theorem fi_pv {k y : List UInt8} (h : y.length = 32) : real.pLe (real.addn 0 48) (real.lenB (fV k y)) := by
  have := fi_v (k := k) h
  show 48 ≤ (fV k y).length
  omega
theorem fi_len {k x y : List UInt8} {a : UInt8} (hx : x.length = 32) (hy : y.length = 32) : (fI k x y a).length = 48 + a.toNat % 20 + 48 := by
  have h1 := fi_w (k := k) hx
  have h2 := fi_v (k := k) hy
  show (((fW k x).take 48 ++ List.replicate (fA a).toNat 0) ++ (fV k y).take 48).length = _
  rw [List.length_append, List.length_append, List.length_take, List.length_take, List.length_replicate, h1, h2, fi_a]
  omega
theorem fi_c1 {k x : List UInt8} {a : UInt8} (hx : x.length = 32) : real.pCap (real.addn (real.lenB (real.cutB (fW k x) 0 48)) (real.lenB (real.repB (real.nat (fA a))))) 1 := by
  have h1 := fi_w (k := k) hx
  show (((fW k x).take 48).length + (List.replicate (fA a).toNat (0 : UInt8)).length) * 1 ≤ 140737488355328 ∧ ((fW k x).take 48).length + (List.replicate (fA a).toNat (0 : UInt8)).length ≤ 4611686018427387904
  rw [List.length_take, List.length_replicate, h1, fi_a]
  omega
theorem fi_c2 {k x y : List UInt8} {a : UInt8} (hx : x.length = 32) (hy : y.length = 32) : real.pCap (real.addn (real.lenB (real.appB (real.cutB (fW k x) 0 48) (real.repB (real.nat (fA a))))) (real.lenB (real.cutB (fV k y) 0 48))) 1 := by
  have h1 := fi_w (k := k) hx
  have h2 := fi_v (k := k) hy
  show (((fW k x).take 48 ++ List.replicate (fA a).toNat (0 : UInt8)).length + ((fV k y).take 48).length) * 1 ≤ 140737488355328 ∧ ((fW k x).take 48 ++ List.replicate (fA a).toNat (0 : UInt8)).length + ((fV k y).take 48).length ≤ 4611686018427387904
  rw [List.length_append, List.length_take, List.length_take, List.length_replicate, h1, h2, fi_a]
  omega
theorem fi_c3 {k x y : List UInt8} {a : UInt8} (hx : x.length = 32) (hy : y.length = 32) : real.pLe (real.lenB (fI k x y a)) 100000 := by
  show (fI k x y a).length ≤ 100000
  rw [fi_len hx hy]
  omega
theorem fi_c4 {k x : List UInt8} {b : UInt8} (hx : x.length = 32) : real.pLe (real.addn 0 (real.nat (fB b))) (real.lenB (fW k x)) := by
  have h1 := fi_w (k := k) hx
  show 0 + (fB b).toNat ≤ (fW k x).length
  rw [h1, fi_b]
  omega
theorem fi_sl {k x : List UInt8} {b : UInt8} : (real.cutB (fW k x) 0 (real.nat (fB b))).length < 48 := by
  show ((fW k x).take (fB b).toNat).length < 48
  rw [List.length_take, fi_b]
  omega
theorem fi_c5 {k x : List UInt8} {b : UInt8} : real.pLe (real.lenB (real.cutB (fW k x) 0 (real.nat (fB b)))) 100000 := by
  have := fi_sl (k := k) (x := x) (b := b)
  show (real.cutB (fW k x) 0 (real.nat (fB b))).length ≤ 100000
  omega
theorem fi_wm5 : us.wm (real.ofI64 (real.int 5)) = 5 := by show u_wm 5 = 5; decide +kernel
theorem fi_no {k x : List UInt8} {b : UInt8} {m : Nat} : real.notb (us.wrE (real.cutB (fW k x) 0 (real.nat (fB b))) k fS m) = true := by
  have h := fi_sl (k := k) (x := x) (b := b)
  have : u_wrF (real.cutB (fW k x) 0 (real.nat (fB b))) k fS m = none := wrF_none _ _ _ m 0 (by omega) rfl
  show (!(u_wrF (real.cutB (fW k x) 0 (real.nat (fB b))) k fS m).isSome) = true
  rw [this]; rfl
theorem fi_yes {k x y : List UInt8} {a : UInt8} (hx : x.length = 32) (hy : y.length = 32) : real.pB (us.wrE (fI k x y a) k fS (us.wm (real.ofI64 (real.int 5)))) true := by
  have h1 := fi_w (k := k) hx
  rw [fi_wm5]
  refine wrE_of (i := 0) (g := 2) (by rw [fi_len hx hy]; omega) (by omega) ?_
  have e : u_cut48 (fI k x y a) 0 = fW k x := by
    show (((fW k x).take 48 ++ List.replicate (fA a).toNat 0) ++ (fV k y).take 48).take 48 = fW k x
    rw [List.append_assoc, List.take_append_of_le_length (by rw [List.length_take, h1]; omega), List.take_take, List.take_of_length_le (by omega)]
  rw [e]
  exact (uw_wrp k fS (real.ofI64 (real.int 2)) x).1
theorem fi_eq {K : List UInt8} {im k : List UInt8} : real.pB (real.eqB (us.wrK im k fS (us.wm (real.ofI64 (real.int 5)))) (us.wrK im k fS 5)) true := by
  rw [fi_wm5]
  show (us.wrK im k fS 5 == us.wrK im k fS 5) = true
  simp
theorem ip5 : real.pB (real.notb true) false := rfl
end Go.Proofs.Ytmldccfchnlpgaa
attribute [local irreducible] Go.Proofs.Ytmldccfchnlpgaa.u_uwE Go.Proofs.Ytmldccfchnlpgaa.u_uwK Go.Proofs.Ytmldccfchnlpgaa.u_cut48 Go.Proofs.Ytmldccfchnlpgaa.u_wrI Go.Proofs.Ytmldccfchnlpgaa.u_wrO Go.Proofs.Ytmldccfchnlpgaa.u_wrF Go.Proofs.Ytmldccfchnlpgaa.u_wrp Go.Proofs.Ytmldccfchnlpgaa.u_smL Go.Proofs.Ytmldccfchnlpgaa.u_smN Go.Proofs.Ytmldccfchnlpgaa.u_find Go.Proofs.Ytmldccfchnlpgaa.u_plain Go.Proofs.Ytmldccfchnlpgaa.u_wm
namespace Go.Proofs.Ytmldccfchnlpgaa
open Go Go.Vc
noncomputable def sp_law27_ImageFirst (F : Fs) (U : Us) : Specs := [(81, s_law27_known F U), (80, s_ref4_Wrap F U), (86, s_image_Wrapped F U), (88, s_law27_first F U)]
theorem ok_law27_ImageFirst : SpecsOK Try.prog (sp_law27_ImageFirst real us) := sp_cons r_law27_known k_law27_known (sp_cons r_ref4_Wrap k_ref4_Wrap (sp_cons r_image_Wrapped k_image_Wrapped (sp_cons r_law27_first k_law27_first sp_nil)))
noncomputable def x_law27_ImageFirst (F : Fs) (U : Us) : Cx := ⟨Try.f31.ntmps, tt F, sp_law27_ImageFirst F U, [], [(3, ([(1, [0]), (3, [0, 1, 2]), (4, [0, 1, 2, 3]), (6, [0, 1, 2, 3, 4, 5]), (7, [0, 1, 2, 3, 4, 5, 6])], [])), (8, ([(4, [1, 3]), (9, [1, 3, 4, 5])], [])), (9, ([(4, [2]), (5, [2])], []))], [], []⟩
theorem c_law27_ImageFirst (k x y : List UInt8) (a b : UInt8) (q0 : k.length = 32) (q1 : x.length = 32) (q2 : y.length = 32) : vc real (x_law27_ImageFirst real us) [] [] (Try.f31.body.getD .skip) ⟨zipSl 0 [.ag 32 (.bt k), .ag 32 (.bt x), .ag 32 (.bt y), .w8 a, .w8 b], [], 64⟩ (retOk real (tt real) false Try.f31.results.toList [.val (.b true)]) := by
  generalize hU : us = U
  generalize hF : real = F
  cbv
  repeat' first | apply And.intro | refine Classical.or_iff_not_imp_left.2 (fun _ => ?_) | exact trivial
  all_goals try (subst hF hU; simp only [real, us, Nat.le_eq, Int.cast_ofNat_Int, decide_eq_false_iff_not, decide_eq_true_eq, List.length_take, List.length_drop, List.length_append, List.length_replicate, List.length_set, List.length_cons, List.length_nil, List.length_zipWith] at *; (try simp (disch := omega) only [wrap_sm] at *); omega)
  all_goals subst hF hU
  all_goals first
    | exact absurd ip5 (by assumption)
    | exact q0
    | exact q1
    | exact q2
    | exact fi_ne
    | exact fi_a0 _
    | exact fi_am _
    | exact fi_b0 _
    | exact fi_b48 _
    | exact fi_pw q1
    | exact fi_pv q2
    | exact fi_c1 q1
    | exact fi_c2 q1 q2
    | exact fi_c3 q1 q2
    | exact fi_c4 q1
    | exact fi_c5
    | exact fi_no
    | exact absurd (fi_yes q1 q2) (by assumption)
    | exact absurd (fi_eq (K := [])) (by assumption)
end Go.Proofs.Ytmldccfchnlpgaa
namespace Go.Proofs.Ytmldccfchnlpgaa.imageFirst
open Go.ChangeShapes Go.WideShapes Go.ChangeAt Go.RowKit
set_option linter.unusedVariables false
theorem own : ownKnob Try.prog.godebug = none := by kernel_rfl
theorem laidOut : laidOutB Try.prog = true := p_laidOut
set_option maxRecDepth 100000 in
theorem lifted (os : Os) (started : os.Started) (H : Type) (enc : TypeId × Value → H) :
    ReturnsInHanded {} Try.checked os 31 .any (Rows.imageFirstSpec.pre6 enc Try.prog Try.f31 Rows.imageFirstRow.domain false) (Rows.imageFirstSpec.post enc Try.prog Try.f31 false true false false) := by
  refine returnsInHanded_of_change_shaped (C := Try.checked) own started (by kernel_rfl) Try.func31
    (ChangeSpec.witness6 (enc := enc) (C := Try.checked) false ⟨#[], #[.agg #[.int .u8 0, .int .u8 0, .int .u8 0, .int .u8 0, .int .u8 0, .int .u8 0, .int .u8 0, .int .u8 0, .int .u8 0, .int .u8 0, .int .u8 0, .int .u8 0, .int .u8 0, .int .u8 0, .int .u8 0, .int .u8 0, .int .u8 0, .int .u8 0, .int .u8 0, .int .u8 0, .int .u8 0, .int .u8 0, .int .u8 0, .int .u8 0, .int .u8 0, .int .u8 0, .int .u8 0, .int .u8 0, .int .u8 0, .int .u8 0, .int .u8 0, .int .u8 0], .agg #[.int .u8 0, .int .u8 0, .int .u8 0, .int .u8 0, .int .u8 0, .int .u8 0, .int .u8 0, .int .u8 0, .int .u8 0, .int .u8 0, .int .u8 0, .int .u8 0, .int .u8 0, .int .u8 0, .int .u8 0, .int .u8 0, .int .u8 0, .int .u8 0, .int .u8 0, .int .u8 0, .int .u8 0, .int .u8 0, .int .u8 0, .int .u8 0, .int .u8 0, .int .u8 0, .int .u8 0, .int .u8 0, .int .u8 0, .int .u8 0, .int .u8 0, .int .u8 0], .agg #[.int .u8 0, .int .u8 0, .int .u8 0, .int .u8 0, .int .u8 0, .int .u8 0, .int .u8 0, .int .u8 0, .int .u8 0, .int .u8 0, .int .u8 0, .int .u8 0, .int .u8 0, .int .u8 0, .int .u8 0, .int .u8 0, .int .u8 0, .int .u8 0, .int .u8 0, .int .u8 0, .int .u8 0, .int .u8 0, .int .u8 0, .int .u8 0, .int .u8 0, .int .u8 0, .int .u8 0, .int .u8 0, .int .u8 0, .int .u8 0, .int .u8 0, .int .u8 0], .int .u8 0, .int .u8 0], []⟩ 8 (by kernel_rfl) (by kernel_rfl) (by kernel_rfl) (by kernel_rfl)) ?_
  intro W base args ds gs before hval0 hW hcnd hrch hsh _
  have hval : ∀ (j : Nat) t v, Try.f31.params[j]? = some t → args[j]? = some v → Value.okWide Try.prog W .any base t v := hval0
  have hW' := hW
  obtain ⟨p, q, hA0, hV, rfl, hfz, hnd⟩ := hW
  have hA : DataW.TrodAll enc Try.prog W 0 (fun _ => true) true Try.f31.params.toList args.toList ds p := hA0
  rw [Try.params31] at hA hval
  obtain ⟨v0, vs0, d0, ds0, p0, q0, hargs, rfl, rfl, h0, r0⟩ := trodAll_cons hA
  obtain ⟨v1, vs1, d1, ds1, p1, q1, rfl, rfl, rfl, h1, r1⟩ := trodAll_cons r0
  obtain ⟨v2, vs2, d2, ds2, p2, q2, rfl, rfl, rfl, h2, r2⟩ := trodAll_cons r1
  obtain ⟨v3, vs3, d3, ds3, p3, q3, rfl, rfl, rfl, h3, r3⟩ := trodAll_cons r2
  obtain ⟨v4, vs4, d4, ds4, p4, q4, rfl, rfl, rfl, h4, r4⟩ := trodAll_cons r3
  obtain ⟨rfl, rfl, rfl⟩ := trodAll_nil r4
  obtain rfl : args = #[v0, v1, v2, v3, v4] := by cases args; simp_all
  obtain ⟨rfl, rfl⟩ := trodVars_none hV
  obtain ⟨k, k0, q0⟩ := Go.Vc.openA8 Try.underlying24 Try.underlying5 (by kernel_rfl) (by kernel_rfl) (hval 0 24 v0 rfl rfl) h0
  obtain ⟨x, k1, q1⟩ := Go.Vc.openA8 Try.underlying24 Try.underlying5 (by kernel_rfl) (by kernel_rfl) (hval 1 24 v1 rfl rfl) h1
  obtain ⟨y, k2, q2⟩ := Go.Vc.openA8 Try.underlying24 Try.underlying5 (by kernel_rfl) (by kernel_rfl) (hval 2 24 v2 rfl rfl) h2
  obtain ⟨a, k3⟩ := Go.Vc.open8 Try.underlying5 (hval 3 5 v3 rfl rfl) h3
  obtain ⟨b, k4⟩ := Go.Vc.open8 Try.underlying5 (hval 4 5 v4 rfl rfl) h4
  clear hA0 hval0
  refine (Go.Vc.law_walk2 (x := x_law27_ImageFirst Go.Vc.real us) (an := []) (cu := []) (l := [.ag 32 (.bt k), .ag 32 (.bt x), .ag 32 (.bt y), .w8 a, .w8 b]) (vals := [v0, v1, v2, v3, v4]) ⟨tt_ok, ok_law27_ImageFirst, Go.Vc.ks_nil⟩ mixed Try.func31 rfl rfl (by kernel_rfl) hsh (Nat.le_of_ble_eq_true rfl) (Go.Vc.rvs_cons k0 (Go.Vc.rvs_cons k1 (Go.Vc.rvs_cons k2 (Go.Vc.rvs_cons k3 (Go.Vc.rvs_cons k4 Go.Vc.rvs_nil))))) (c_law27_ImageFirst k x y a b q0 q1 q2)).mono fun e W' ⟨he, bel⟩ => ?_
  subst he
  exact ⟨_, rfl, Go.Vc.post_true (tb := 4) laidOut (by kernel_rfl) rfl Try.underlying4 rfl hW' rfl bel⟩
theorem over : Rows.imageFirstRow.holds Try.pinned (OpenSpec.ofChange Rows.imageFirstSpec) :=
  OpenClaim.holds_of_wide 31 Try.f31 rfl rfl rfl rfl rfl rfl rfl ⟨rfl, rfl, rfl, rfl, rfl⟩ rfl rfl rfl rfl rfl (by kernel_rfl) Try.func31 (Go.Vc.joined_of p_laidOut p_maps p_stops p_knobs p_heard p_mayEnter p_lifts p_make rfl rfl (by kernel_rfl) (by kernel_rfl) (by kernel_rfl) (by kernel_rfl) (by kernel_rfl) (by kernel_rfl) (by kernel_rfl) (by kernel_rfl) (by kernel_rfl) (by kernel_rfl) (by kernel_rfl) (by kernel_rfl) (by kernel_rfl) (by kernel_rfl) (by kernel_rfl) (by kernel_rfl) (by kernel_rfl) (by kernel_rfl) (by kernel_rfl) (by kernel_rfl) (by kernel_rfl) (by kernel_rfl) (by kernel_rfl) (by kernel_rfl) )
    (of_decide_eq_true (by kernel_rfl)) (by unfold Func.isWrapper; first | (rw [if_pos (by decide +kernel)]; kernel_rfl) | (rw [if_neg (by decide +kernel)]; exact ⟨rfl, rfl⟩))
    (fun os started H enc _ => lifted os started H enc)
theorem proved : Rows.ImageFirstSaid := over
#print axioms proved
end Go.Proofs.Ytmldccfchnlpgaa.imageFirst

