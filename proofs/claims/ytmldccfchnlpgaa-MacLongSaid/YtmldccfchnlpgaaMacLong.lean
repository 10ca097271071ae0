/- The given statement is proved: for every input the law's function answers true. No condition. -/
import Derived.Test.YtmldccfchnlpgaaRows
import Derived.Test.YtmldccfchnlpgaaPart6
import Derived.WalkKit
import Derived.ProofKit
import Derived.OpenShut
import Derived.ShutString
set_option linter.unusedVariables false
set_option linter.unusedSimpArgs false
set_option maxRecDepth 100000
set_option maxHeartbeats 1000000
namespace Go.Proofs.Ytmldccfchnlpgaa
open Go Go.Vc
theorem fill_zeros (k : List UInt8) (i : Nat) (h : k.length + i ≤ 64) : u_fill (k ++ List.replicate i 0) = u_fill k := by
  unfold u_fill
  rw [List.take_of_length_le (by rw [List.length_append, List.length_replicate]; omega), List.take_of_length_le (by omega), List.length_append, List.length_replicate, List.append_assoc, List.replicate_append_replicate]
  congr 2
  omega
theorem mac_zeros (k m : List UInt8) (i : Nat) (h : k.length + i ≤ 64) : u_mac (k ++ List.replicate i 0) m = u_mac k m := by
  have e1 : u_mkey (k ++ List.replicate i 0) = k ++ List.replicate i 0 := by
    unfold u_mkey
    rw [if_neg (by rw [List.length_append, List.length_replicate]; omega)]
  have e2 : u_mkey k = k := by
    unfold u_mkey
    rw [if_neg (by omega)]
  unfold u_mac
  rw [e1, e2]
  unfold u_mpad
  rw [fill_zeros k i h]
theorem mac_sum (k m : List UInt8) (h : 64 < k.length) : u_mac (u_sum k) m = u_mac k m := by
  have e1 : u_mkey (u_sum k) = u_sum k := by
    unfold u_mkey
    rw [if_neg (by rw [sum_len]; omega)]
  have e2 : u_mkey k = u_sum k := by
    unfold u_mkey
    rw [if_pos h]
  unfold u_mac
  rw [e1, e2]
theorem ml_long {k m : List UInt8} (h : ¬ real.pB (real.lti (real.int 64) (real.int (real.lenB k))) false) : real.eqB (us.mac k m) (us.mac (real.cutB (us.sum k) 0 32) m) = true := by
  have h1 := lt_g (j := 64) (n := k.length) h
  rw [cut32s (us.sum k) (sum_len k)]
  have e : us.mac (us.sum k) m = us.mac k m := mac_sum k m h1
  rw [e]; exact eqB_self _
theorem ml_zeros {k m : List UInt8} {i : Nat} (h : k.length + i ≤ 64) : real.eqB (us.mac k m) (us.mac (real.appB k (real.repB i)) m) = true := by
  have e : us.mac (real.appB k (real.repB i)) m = us.mac k m := mac_zeros k m i h
  rw [e]; exact eqB_self _
theorem z_step (k : List UInt8) (i : Nat) : real.appB (real.appB k (real.repB i)) [real.ofI8 (real.int 0)] = real.appB k (real.repB (i + 1)) := by
  show (k ++ List.replicate i 0) ++ [(0 : UInt8)] = k ++ List.replicate (i + 1) 0
  rw [List.append_assoc, List.replicate_succ']
theorem z_zero (k : List UInt8) : k = real.appB k (real.repB 0) := (List.append_nil k).symm
theorem z_len (k : List UInt8) (i : Nat) : real.lenB (real.appB k (real.repB i)) = k.length + i := by
  show (k ++ List.replicate i 0).length = _
  rw [List.length_append, List.length_replicate]
theorem z_lt {k : List UInt8} {i : Nat} (h : ¬ real.pB (real.lti (real.int (real.lenB (real.appB k (real.repB i)))) (real.int 64)) false) : k.length + i < 64 := by
  rw [z_len] at h
  exact lt_g (n := 64) h
theorem z_fit {k : List UInt8} {i : Nat} (h : k.length + i ≤ 64) : real.pLe (real.lenB (real.appB k (real.repB i))) 800000 := by
  rw [z_len]
  show k.length + i ≤ 800000
  omega
theorem z_cap {k : List UInt8} {i : Nat} (h : k.length + i ≤ 64) (x : UInt8) : real.pCap (real.addn (real.lenB (real.appB k (real.repB i))) (real.lenB [x])) 1 := by
  rw [z_len]
  show (k.length + i + 1) * 1 ≤ 140737488355328 ∧ k.length + i + 1 ≤ 4611686018427387904
  omega
attribute [local irreducible] u_mac u_sum
end Go.Proofs.Ytmldccfchnlpgaa
namespace Go.Proofs.Ytmldccfchnlpgaa
open Go Go.Vc
noncomputable def sp_law3_MacLong (F : Fs) (U : Us) : Specs := [(59, s_law3_known F U), (60, s_mac_Mac F U), (40, s_sha_Sum F U)]
theorem ok_law3_MacLong : SpecsOK Try.prog (sp_law3_MacLong real us) := sp_cons r_law3_known k_law3_known (sp_cons r_mac_Mac k_mac_Mac (sp_cons r_sha_Sum k_sha_Sum sp_nil))
noncomputable def an_law3_MacLong (F : Fs) (U : Us) (a b : List UInt8) (n : UInt8) : Anns := [(11, ⟨Nat, fun i => F.pLe (F.addn (F.lenB a) i) 64, fun i => F.subn 64 i, fun i => ⟨[(1, .rb 1 (.bt b)), (2, .w8 n), (7, .p 0 0 0), (9, .rw 1), (10, .i (F.int i))], [(7, 0, .bk 23 [(32, .bt (U.mac a b))]), (9, 1, .row 5 1 (.bt (F.appB a (F.repB i))))]⟩⟩)]
noncomputable def x_law3_MacLong (F : Fs) (U : Us) : Cx := ⟨Try.f14.ntmps, tt F, sp_law3_MacLong F U, [], [(8, ([(1, [0]), (3, [0])], [])), (14, ([(3, [0])], []))], [], []⟩
theorem c_law3_MacLong (a b : List UInt8) (n : UInt8) (q0 : a.length ≤ 9223372036854775807) (q1 : b.length ≤ 9223372036854775807) : vc real (x_law3_MacLong real us) (an_law3_MacLong real us a b n) [] (Try.f14.body.getD .skip) ⟨zipSl 0 [.rb 1 (.bt a), .rb 1 (.bt b), .w8 n], [], 64⟩ (retOk real (tt real) false Try.f14.results.toList [.val (.b true)]) := by
  generalize hU : us = U
  generalize hF : real = F
  have f1 : ∀ x, F.pLe (F.addn 0 32) (F.lenB (U.sum x)) := by subst hF hU; exact l32
  have f2 : ¬ F.pB (F.lti (F.int 64) (F.int (F.lenB a))) false → F.eqB (U.mac a b) (U.mac (F.cutB (U.sum a) 0 32) b) = true := by subst hF hU; exact ml_long
  cbv
  repeat' first | apply And.intro | refine Classical.or_iff_not_imp_left.2 (fun _ => ?_) | exact trivial
  all_goals try (subst hF hU; simp only [real, us, Nat.le_eq, Int.cast_ofNat_Int, decide_eq_false_iff_not, decide_eq_true_eq, List.length_take, List.length_drop, List.length_append, List.length_replicate, List.length_set, List.length_cons, List.length_nil, List.length_zipWith] at *; (try simp (disch := omega) only [wrap_sm] at *); omega)
  all_goals first
    | exact f1 _
    | exact f2 (by assumption)
    | skip
  · rename_i g1 g2 g3
    have hl : a.length ≤ 64 := by subst hF; exact ge_g (j := 64) (n := a.length) g3
    refine ⟨(0 : Nat), ?_⟩
    cbv; subst hF hU
    exact ⟨hl, z_zero a, trivial⟩
  · rename_i g1 g2 g3
    have hb : b.length ≤ 100 := by subst hF; exact ge_g (j := 100) (n := b.length) g2
    clear g1 g2 g3 f1 f2
    intro (i : Nat) hi
    have h1 : a.length + i ≤ 64 := by subst hF; exact hi
    clear hi
    have f3 : F.pLe (F.lenB (F.appB a (F.repB i))) 800000 := by subst hF; exact z_fit h1
    have f4 : ∀ x, F.pCap (F.addn (F.lenB (F.appB a (F.repB i))) (F.lenB [x])) 1 := by subst hF; exact z_cap h1
    have f5 : F.eqB (U.mac a b) (U.mac (F.appB a (F.repB i)) b) = true := by subst hF hU; exact ml_zeros h1
    cbv
    repeat' first | apply And.intro | refine Classical.or_iff_not_imp_left.2 (fun _ => ?_) | exact trivial
    all_goals try (subst hF hU; simp only [real, us, Nat.le_eq, Int.cast_ofNat_Int, decide_eq_false_iff_not, decide_eq_true_eq, List.length_take, List.length_drop, List.length_append, List.length_replicate, List.length_set, List.length_cons, List.length_nil, List.length_zipWith] at *; (try simp (disch := omega) only [wrap_sm] at *); omega)
    all_goals first
      | exact f3
      | exact f4 _
      | exact f5
      | skip
    · rename_i g1 g2
      refine ⟨(i + 1 : Nat), ?_⟩
      clear f3 f4 f5
      cbv; subst hF hU
      have hlt := z_lt g2
      exact ⟨hlt, sub_stepN (n := 64) (j := i) (by omega), ⟨addi1 (by omega), trivial⟩, z_step a i, trivial⟩
end Go.Proofs.Ytmldccfchnlpgaa
namespace Go.Proofs.Ytmldccfchnlpgaa.macLong
open Go.ChangeShapes Go.WideShapes Go.ChangeAt Go.RowKit
set_option linter.unusedVariables false
theorem own : ownKnob Try.prog.godebug = none := by kernel_rfl
theorem laidOut : laidOutB Try.prog = true := p_laidOut
set_option maxRecDepth 100000 in
theorem lifted (os : Os) (started : os.Started) (H : Type) (enc : TypeId × Value → H) :
    ReturnsInHanded {} Try.checked os 14 .any (Rows.macLongSpec.pre6 enc Try.prog Try.f14 Rows.macLongRow.domain false) (Rows.macLongSpec.post enc Try.prog Try.f14 false true false false) := by
  refine returnsInHanded_of_change (C := Try.checked) own started (by kernel_rfl) Try.func14
    (ChangeSpec.witness6 (enc := enc) (C := Try.checked) false ⟨#[], #[.slice none 0 0, .slice none 0 0, .int .u8 0], []⟩ 8 (by kernel_rfl) (by kernel_rfl) (by kernel_rfl) (by kernel_rfl)) ?_
  intro W base args ds gs before hval0 hW hcnd _
  have hval : ∀ (j : Nat) t v, Try.f14.params[j]? = some t → args[j]? = some v → Value.okWide Try.prog W .any base t v := hval0
  have hW' := hW
  obtain ⟨p, q, hA0, hV, rfl, hfz, hnd⟩ := hW
  have hA : DataW.TrodAll enc Try.prog W 0 (fun _ => true) true Try.f14.params.toList args.toList ds p := hA0
  rw [Try.params14] at hA hval
  obtain ⟨v0, vs0, d0, ds0, p0, q0, hargs, rfl, rfl, h0, r0⟩ := trodAll_cons hA
  obtain ⟨v1, vs1, d1, ds1, p1, q1, rfl, rfl, rfl, h1, r1⟩ := trodAll_cons r0
  obtain ⟨v2, vs2, d2, ds2, p2, q2, rfl, rfl, rfl, h2, r2⟩ := trodAll_cons r1
  obtain ⟨rfl, rfl, rfl⟩ := trodAll_nil r2
  obtain rfl : args = #[v0, v1, v2] := by cases args; simp_all
  obtain ⟨rfl, rfl⟩ := trodVars_none hV
  obtain ⟨a, k0, q0⟩ := Go.Vc.openL8 Try.underlying27 Try.underlying5 (by kernel_rfl) (hval 0 27 v0 rfl rfl) h0
  obtain ⟨b, k1, q1⟩ := Go.Vc.openL8 Try.underlying27 Try.underlying5 (by kernel_rfl) (hval 1 27 v1 rfl rfl) h1
  obtain ⟨n, k2⟩ := Go.Vc.open8 Try.underlying5 (hval 2 5 v2 rfl rfl) h2
  clear hA0 hval0
  refine (Go.Vc.law_walk2 (x := x_law3_MacLong Go.Vc.real us) (an := (an_law3_MacLong Go.Vc.real us a b n)) (cu := []) (l := [.rb 1 (.bt a), .rb 1 (.bt b), .w8 n]) (vals := [v0, v1, v2]) ⟨tt_ok, ok_law3_MacLong, Go.Vc.ks_nil⟩ mixed Try.func14 rfl rfl (by kernel_rfl) (Nat.le_of_ble_eq_true rfl) (Go.Vc.rvs_cons k0 (Go.Vc.rvs_cons k1 (Go.Vc.rvs_cons k2 Go.Vc.rvs_nil))) (c_law3_MacLong a b n q0 q1)).mono fun e W' ⟨he, bel⟩ => ?_
  subst he
  exact ⟨_, rfl, Go.Vc.post_true (tb := 4) laidOut (by kernel_rfl) rfl Try.underlying4 rfl hW' rfl bel⟩
theorem over : Rows.macLongRow.holds Try.pinned (OpenSpec.ofChange Rows.macLongSpec) :=
  OpenClaim.holds_of_wide 14 Try.f14 rfl rfl rfl rfl rfl rfl rfl ⟨rfl, rfl, rfl, rfl, rfl⟩ rfl rfl rfl rfl rfl (by kernel_rfl) Try.func14 (Go.Vc.joined_of p_laidOut p_maps p_stops p_knobs p_heard p_mayEnter p_lifts p_make rfl rfl (by kernel_rfl) (by kernel_rfl) (by kernel_rfl) (by kernel_rfl) (by kernel_rfl) (by kernel_rfl) (by kernel_rfl) (by kernel_rfl) (by kernel_rfl) (by kernel_rfl) (by kernel_rfl) (by kernel_rfl) (by kernel_rfl) (by kernel_rfl) (by kernel_rfl) (by kernel_rfl) (by kernel_rfl) (by kernel_rfl) (by kernel_rfl) (by kernel_rfl) (by kernel_rfl) (by kernel_rfl) (by kernel_rfl) (by kernel_rfl) )
    (of_decide_eq_true (by kernel_rfl)) (by unfold Func.isWrapper; first | (rw [if_pos (by decide +kernel)]; kernel_rfl) | (rw [if_neg (by decide +kernel)]; exact ⟨rfl, rfl⟩))
    (fun os started H enc _ => lifted os started H enc)
theorem proved : Rows.MacLongSaid := over
#print axioms proved
end Go.Proofs.Ytmldccfchnlpgaa.macLong

