/- The given statement is proved: for every input the law's function answers true. No condition. -/
import Derived.Test.YtmldccfchnlpgaaRows
import Derived.Test.YtmldccfchnlpgaaPart6
import Derived.WalkKit
import Derived.ProofKit
import Derived.OpenShut
import Derived.ShutString
set_option linter.unusedVariables false
set_option linter.unusedSimpArgs false
set_option maxRecDepth 100000
set_option maxHeartbeats 1000000
namespace Go.Proofs.Ytmldccfchnlpgaa
open Go Go.Vc
theorem mr_m (n : UInt8) : real.addi (real.wrapi (real.toI8 (real.rem8 n (real.ofI8 (real.int 5))))) (real.int 1) = ((n.toNat % 5 + 1 : Nat) : Int) := by
  have e : real.toI8 (real.rem8 n (real.ofI8 (real.int 5))) = ((n.toNat % 5 : Nat) : Int) := by
    show ((n % 5).toNat : Int) = _
    rw [UInt8.toNat_mod]; rfl
  rw [e]
  show IntKind.i64.wrap (IntKind.i64.wrap ((n.toNat % 5 : Nat) : Int) + 1) = _
  simp (disch := omega) only [wrap_sm]
  omega
theorem r_n {M : Int} {m : Nat} (hM : M = (m : Int)) (hm : m ≤ 5) : real.mini (real.maxi (real.muli (real.int 32) M) (real.int 0)) (real.int 8160) = ((32 * m : Nat) : Int) := by
  rw [hM, nn_eq]
  have e : real.muli (real.int 32) (m : Int) = ((32 * m : Nat) : Int) := by
    show IntKind.i64.wrap (32 * (m : Int)) = _
    rw [wrap_sm (by omega) (by omega)]; omega
  rw [e]
  unfold nN
  omega
theorem r_i {i : Nat} (hi : i ≤ 5) : real.muli (real.int 32) (real.int i) = ((32 * i : Nat) : Int) := by
  show IntKind.i64.wrap (32 * (i : Int)) = _
  rw [wrap_sm (by omega) (by omega)]; omega
theorem r_j {i : Nat} (hi : i ≤ 5) : real.addi (real.muli (real.int 32) (real.int i)) (real.int 32) = ((32 * i + 32 : Nat) : Int) := by
  rw [r_i hi]
  show IntKind.i64.wrap (((32 * i : Nat) : Int) + 32) = _
  rw [wrap_sm (by omega) (by omega)]; omega
theorem r_c {M : Int} {m : Nat} (hM : M = (m : Int)) (hm : m ≤ 5) : us.chN (real.repB (real.nat (real.mini (real.maxi (real.muli (real.int 32) M) (real.int 0)) (real.int 8160)))) = m := by
  rw [r_n hM hm]
  show ((List.replicate (32 * m) (0 : UInt8)).length + 31) / 32 = m
  rw [List.length_replicate]; omega
theorem r_lt {M : Int} {m i : Nat} (hM : M = (m : Int)) (h : ¬ real.pB (real.lti (real.int i) M) false) : i < m := by
  rw [hM] at h; exact lt_g h
theorem r_ge {M : Int} {m i : Nat} (hM : M = (m : Int)) (h : ¬ real.pB (real.lti (real.int i) M) true) : m ≤ i := by
  rw [hM] at h; exact ge_g h
theorem r3 {M : Int} {m i : Nat} (hM : M = (m : Int)) (hm : m ≤ 5) (hi : i < m) : real.pLe (real.nat (real.addi (real.muli (real.int 32) (real.int i)) (real.int 32))) (real.nat (real.mini (real.maxi (real.muli (real.int 32) M) (real.int 0)) (real.int 8160))) := by
  rw [r_n hM hm, r_j (by omega)]
  show 32 * i + 32 ≤ 32 * m
  omega
theorem r4 (k info : List UInt8) {M : Int} {m i : Nat} (hM : M = (m : Int)) (hm : m ≤ 5) (hi : i < m) : real.pLe (real.addn (real.addn 0 (real.nat (real.muli (real.int 32) (real.int i)))) (real.subn (real.nat (real.addi (real.muli (real.int 32) (real.int i)) (real.int 32))) (real.nat (real.muli (real.int 32) (real.int i))))) (real.lenB (us.mxO k info (us.chN (real.repB (real.nat (real.mini (real.maxi (real.muli (real.int 32) M) (real.int 0)) (real.int 8160))))))) := by
  rw [r_c hM hm, r_j (by omega), r_i (by omega)]
  show 0 + 32 * i + (32 * i + 32 - 32 * i) ≤ (u_mxO k info m).length
  rw [mxO_len]; omega
theorem r_get (k info : List UInt8) {m i : Nat} (hi : i < m) : ((u_mxO k info m).drop (32 * i)).take 32 = u_mxL k info (i + 1) := by
  obtain ⟨T, hT⟩ := mxO_ext k info (i + 1) (m - (i + 1))
  rw [show i + 1 + (m - (i + 1)) = m by omega] at hT
  have hl := mxL_len k info i
  have ho := mxO_len k info i
  rw [hT, u_mxO, List.append_assoc, ← ho, List.drop_left, List.take_append_of_le_length (by omega), List.take_of_length_le (by omega)]
theorem r_step {k info : List UInt8} {i : Nat} (hk : k.length = 32) (hi : i ≤ 5) : real.cutB (us.mac (real.cutB k 0 32) (real.appB (real.appB (us.mxL k info i) info) [real.ofI8 (real.addi (real.int i) (real.int 1))])) 0 32 = us.mxL k info (i + 1) := by
  have e : real.addi (real.int i) (real.int 1) = real.int (i + 1) := addi1 (by omega)
  rw [cutk hk, e, byte_of, cut32s (us.mac _ _) (mac_len _ _)]
  rfl
theorem r5 {k info : List UInt8} {M : Int} {m i : Nat} (hM : M = (m : Int)) (hm : m ≤ 5) (hi : i < m) (hk : k.length = 32) : real.pB (real.notb (real.eqB (real.cutB (us.mxO k info (us.chN (real.repB (real.nat (real.mini (real.maxi (real.muli (real.int 32) M) (real.int 0)) (real.int 8160)))))) (real.addn 0 (real.nat (real.muli (real.int 32) (real.int i)))) (real.subn (real.nat (real.addi (real.muli (real.int 32) (real.int i)) (real.int 32))) (real.nat (real.muli (real.int 32) (real.int i))))) (real.cutB (us.mac (real.cutB k 0 32) (real.appB (real.appB (us.mxL k info i) info) [real.ofI8 (real.addi (real.int i) (real.int 1))])) 0 32))) false := by
  rw [r_c hM hm, r_j (by omega), r_i (by omega), r_step hk (by omega)]
  have e : real.cutB (us.mxO k info m) (real.addn 0 (real.nat ((32 * i : Nat) : Int))) (real.subn (real.nat ((32 * i + 32 : Nat) : Int)) (real.nat ((32 * i : Nat) : Int))) = us.mxL k info (i + 1) := by
    show ((u_mxO k info m).drop (0 + 32 * i)).take (32 * i + 32 - 32 * i) = _
    rw [Nat.zero_add, Nat.add_sub_cancel_left]
    exact r_get k info hi
  rw [e]
  have h := eqB_self (us.mxL k info (i + 1))
  rw [h]; rfl
theorem r_end {M : Int} {m : Nat} (hM : M = (m : Int)) (hm : m ≤ 5) : real.eqi (real.int (real.nat (real.mini (real.maxi (real.muli (real.int 32) M) (real.int 0)) (real.int 8160)))) (real.muli (real.int 32) M) = true := by
  rw [r_n hM hm, hM, show (m : Int) = real.int m from rfl, r_i hm]
  show (((32 * m : Nat) : Int) == ((32 * m : Nat) : Int)) = true
  simp
theorem r_st {M : Int} {m i : Nat} (hM : M = (m : Int)) (h : i < m) : real.pLe (i + 1) (real.nat M) := by rw [hM]; exact h
theorem r_mu {M : Int} {m i : Nat} (hM : M = (m : Int)) (h : i < m) : real.subn (real.nat M) (i + 1) < real.subn (real.nat M) i := by rw [hM]; exact sub_stepN (n := m) h
theorem mxL0 (k info : List UInt8) : us.mxL k info 0 = [] := rfl
theorem mxL_le (k info : List UInt8) : ∀ i, (u_mxL k info i).length ≤ 32
  | 0 => Nat.zero_le _
  | j + 1 => by rw [mxL_len]; omega
theorem mr_5 : real.pNe (real.toI8 (real.ofI8 (real.int 5))) := by show ¬ (_ = _); decide
attribute [local irreducible] u_mac u_sum
end Go.Proofs.Ytmldccfchnlpgaa
attribute [local irreducible] Go.Proofs.Ytmldccfchnlpgaa.u_mac Go.Proofs.Ytmldccfchnlpgaa.u_mxL Go.Proofs.Ytmldccfchnlpgaa.u_mxO Go.Proofs.Ytmldccfchnlpgaa.u_chN Go.Proofs.Ytmldccfchnlpgaa.u_sum
namespace Go.Proofs.Ytmldccfchnlpgaa
end Go.Proofs.Ytmldccfchnlpgaa
namespace Go.Proofs.Ytmldccfchnlpgaa
open Go Go.Vc
noncomputable def sp_law3_MacRows (F : Fs) (U : Us) : Specs := [(59, s_law3_known F U), (61, s_mac_Expand F U), (60, s_mac_Mac F U)]
theorem ok_law3_MacRows : SpecsOK Try.prog (sp_law3_MacRows real us) := sp_cons r_law3_known k_law3_known (sp_cons r_mac_Expand k_mac_Expand (sp_cons r_mac_Mac k_mac_Mac sp_nil))
noncomputable def an_law3_MacRows (F : Fs) (U : Us) (k info : List UInt8) (n : UInt8) : Anns := [(9, ⟨Nat, fun i => F.pLe i (F.nat (F.addi (F.wrapi (F.toI8 (F.rem8 n (F.ofI8 (F.int 5))))) (F.int 1))), fun i => F.subn (F.nat (F.addi (F.wrapi (F.toI8 (F.rem8 n (F.ofI8 (F.int 5))))) (F.int 1))) i, fun i => ⟨[(1, .rb 1 (.bt info)), (3, .p 0 0 0), (7, .i (F.addi (F.wrapi (F.toI8 (F.rem8 n (F.ofI8 (F.int 5))))) (F.int 1))), (8, .sl 1 0 0 1 0 (F.nat (F.mini (F.maxi (F.muli (F.int 32) (F.addi (F.wrapi (F.toI8 (F.rem8 n (F.ofI8 (F.int 5))))) (F.int 1))) (F.int 0)) (F.int 8160)))), (9, .rw 2), (10, .i (F.int i))], [(3, 0, .bk 24 [(32, .bt k)]), (8, 1, .row 5 1 (.bt (U.mxO k info (U.chN (F.repB (F.nat (F.mini (F.maxi (F.muli (F.int 32) (F.addi (F.wrapi (F.toI8 (F.rem8 n (F.ofI8 (F.int 5))))) (F.int 1))) (F.int 0)) (F.int 8160)))))))), (9, 2, .row 5 1 (.bt (U.mxL k info i)))]⟩⟩)]
noncomputable def x_law3_MacRows (F : Fs) (U : Us) : Cx := ⟨Try.f17.ntmps, tt F, sp_law3_MacRows F U, [], [(11, ([(0, [2, 4]), (2, [0]), (4, [0]), (7, [0, 2, 4]), (8, [0, 2, 4]), (9, [0]), (11, [0, 2, 4, 7, 8, 9, 10])], [(4, [2]), (9, [4])])), (13, ([(9, [6, 7])], []))], [], []⟩
theorem c_law3_MacRows (k info : List UInt8) (n : UInt8) (q0 : k.length = 32) (q1 : info.length ≤ 9223372036854775807) : vc real (x_law3_MacRows real us) (an_law3_MacRows real us k info n) [] (Try.f17.body.getD .skip) ⟨zipSl 0 [.ag 32 (.bt k), .rb 1 (.bt info), .w8 n], [], 64⟩ (retOk real (tt real) false Try.f17.results.toList [.val (.b true)]) := by
  generalize hU : us = U
  generalize hF : real = F
  cbv
  repeat' first | apply And.intro | refine Classical.or_iff_not_imp_left.2 (fun _ => ?_) | exact trivial
  all_goals try (subst hF hU; simp only [real, us, Nat.le_eq, Int.cast_ofNat_Int, decide_eq_false_iff_not, decide_eq_true_eq, List.length_take, List.length_drop, List.length_append, List.length_replicate, List.length_set, List.length_cons, List.length_nil, List.length_zipWith] at *; (try simp (disch := omega) only [wrap_sm] at *); omega)
  · subst hF; exact mr_5
  · subst hU; exact q0
  · refine ⟨(0 : Nat), ?_⟩
    cbv; subst hF hU
    exact ⟨Nat.zero_le _, mxL0 k info, trivial⟩
  · rename_i g0
    have hi0 : info.length ≤ 50 := by subst hF; exact ge_g (j := 50) (n := info.length) g0
    clear g0
    intro (i : Nat) hi
    have h1 : i ≤ n.toNat % 5 + 1 := by
      subst hF
      have h : i ≤ (real.addi (real.wrapi (real.toI8 (real.rem8 n (real.ofI8 (real.int 5))))) (real.int 1)).toNat := hi
      rw [mr_m] at h
      omega
    clear hi
    have hL := mxL_le k info i
    cbv
    repeat' first | apply And.intro | refine Classical.or_iff_not_imp_left.2 (fun _ => ?_) | exact trivial
    all_goals try (subst hF hU; simp only [real, us, Nat.le_eq, Int.cast_ofNat_Int, decide_eq_false_iff_not, decide_eq_true_eq, List.length_take, List.length_drop, List.length_append, List.length_replicate, List.length_set, List.length_cons, List.length_nil, List.length_zipWith] at *; (try simp (disch := omega) only [wrap_sm] at *); omega)
    · rename_i g1
      have hlt : i < n.toNat % 5 + 1 := by subst hF; exact r_lt (mr_m n) g1
      subst hF hU; exact l32m _ _
    · rename_i g1
      subst hF
      exact r3 (mr_m n) (by omega) (r_lt (mr_m n) g1)
    · rename_i g1
      subst hF hU
      exact r4 k info (mr_m n) (by omega) (r_lt (mr_m n) g1)
    · rename_i g1 g2
      subst hF hU
      exact absurd (r5 (mr_m n) (by omega) (r_lt (mr_m n) g1) q0) g2
    · rename_i g1 g2
      refine ⟨(i + 1 : Nat), ?_⟩
      clear g2
      cbv; subst hF hU
      have hlt := r_lt (mr_m n) g1
      exact ⟨r_st (mr_m n) hlt, r_mu (mr_m n) hlt, ⟨addi1 (by omega), trivial⟩, r_step q0 (by omega), trivial⟩
    · subst hF; exact r_end (mr_m n) (by omega)
end Go.Proofs.Ytmldccfchnlpgaa
namespace Go.Proofs.Ytmldccfchnlpgaa.macRows
open Go.ChangeShapes Go.WideShapes Go.ChangeAt Go.RowKit
set_option linter.unusedVariables false
theorem own : ownKnob Try.prog.godebug = none := by kernel_rfl
theorem laidOut : laidOutB Try.prog = true := p_laidOut
set_option maxRecDepth 100000 in
theorem lifted (os : Os) (started : os.Started) (H : Type) (enc : TypeId × Value → H) :
    ReturnsInHanded {} Try.checked os 17 .any (Rows.macRowsSpec.pre6 enc Try.prog Try.f17 Rows.macRowsRow.domain false) (Rows.macRowsSpec.post enc Try.prog Try.f17 false true false false) := by
  refine returnsInHanded_of_change (C := Try.checked) own started (by kernel_rfl) Try.func17
    (ChangeSpec.witness6 (enc := enc) (C := Try.checked) false ⟨#[], #[.agg #[.int .u8 0, .int .u8 0, .int .u8 0, .int .u8 0, .int .u8 0, .int .u8 0, .int .u8 0, .int .u8 0, .int .u8 0, .int .u8 0, .int .u8 0, .int .u8 0, .int .u8 0, .int .u8 0, .int .u8 0, .int .u8 0, .int .u8 0, .int .u8 0, .int .u8 0, .int .u8 0, .int .u8 0, .int .u8 0, .int .u8 0, .int .u8 0, .int .u8 0, .int .u8 0, .int .u8 0, .int .u8 0, .int .u8 0, .int .u8 0, .int .u8 0, .int .u8 0], .slice none 0 0, .int .u8 0], []⟩ 8 (by kernel_rfl) (by kernel_rfl) (by kernel_rfl) (by kernel_rfl)) ?_
  intro W base args ds gs before hval0 hW hcnd _
  have hval : ∀ (j : Nat) t v, Try.f17.params[j]? = some t → args[j]? = some v → Value.okWide Try.prog W .any base t v := hval0
  have hW' := hW
  obtain ⟨p, q, hA0, hV, rfl, hfz, hnd⟩ := hW
  have hA : DataW.TrodAll enc Try.prog W 0 (fun _ => true) true Try.f17.params.toList args.toList ds p := hA0
  rw [Try.params17] at hA hval
  obtain ⟨v0, vs0, d0, ds0, p0, q0, hargs, rfl, rfl, h0, r0⟩ := trodAll_cons hA
  obtain ⟨v1, vs1, d1, ds1, p1, q1, rfl, rfl, rfl, h1, r1⟩ := trodAll_cons r0
  obtain ⟨v2, vs2, d2, ds2, p2, q2, rfl, rfl, rfl, h2, r2⟩ := trodAll_cons r1
  obtain ⟨rfl, rfl, rfl⟩ := trodAll_nil r2
  obtain rfl : args = #[v0, v1, v2] := by cases args; simp_all
  obtain ⟨rfl, rfl⟩ := trodVars_none hV
  obtain ⟨k, k0, q0⟩ := Go.Vc.openA8 Try.underlying24 Try.underlying5 (by kernel_rfl) (by kernel_rfl) (hval 0 24 v0 rfl rfl) h0
  obtain ⟨info, k1, q1⟩ := Go.Vc.openL8 Try.underlying27 Try.underlying5 (by kernel_rfl) (hval 1 27 v1 rfl rfl) h1
  obtain ⟨n, k2⟩ := Go.Vc.open8 Try.underlying5 (hval 2 5 v2 rfl rfl) h2
  clear hA0 hval0
  refine (Go.Vc.law_walk2 (x := x_law3_MacRows Go.Vc.real us) (an := (an_law3_MacRows Go.Vc.real us k info n)) (cu := []) (l := [.ag 32 (.bt k), .rb 1 (.bt info), .w8 n]) (vals := [v0, v1, v2]) ⟨tt_ok, ok_law3_MacRows, Go.Vc.ks_nil⟩ mixed Try.func17 rfl rfl (by kernel_rfl) (Nat.le_of_ble_eq_true rfl) (Go.Vc.rvs_cons k0 (Go.Vc.rvs_cons k1 (Go.Vc.rvs_cons k2 Go.Vc.rvs_nil))) (c_law3_MacRows k info n q0 q1)).mono fun e W' ⟨he, bel⟩ => ?_
  subst he
  exact ⟨_, rfl, Go.Vc.post_true (tb := 4) laidOut (by kernel_rfl) rfl Try.underlying4 rfl hW' rfl bel⟩
theorem over : Rows.macRowsRow.holds Try.pinned (OpenSpec.ofChange Rows.macRowsSpec) :=
  OpenClaim.holds_of_wide 17 Try.f17 rfl rfl rfl rfl rfl rfl rfl ⟨rfl, rfl, rfl, rfl, rfl⟩ rfl rfl rfl rfl rfl (by kernel_rfl) Try.func17 (Go.Vc.joined_of p_laidOut p_maps p_stops p_knobs p_heard p_mayEnter p_lifts p_make rfl rfl (by kernel_rfl) (by kernel_rfl) (by kernel_rfl) (by kernel_rfl) (by kernel_rfl) (by kernel_rfl) (by kernel_rfl) (by kernel_rfl) (by kernel_rfl) (by kernel_rfl) (by kernel_rfl) (by kernel_rfl) (by kernel_rfl) (by kernel_rfl) (by kernel_rfl) (by kernel_rfl) (by kernel_rfl) (by kernel_rfl) (by kernel_rfl) (by kernel_rfl) (by kernel_rfl) (by kernel_rfl) (by kernel_rfl) (by kernel_rfl) )
    (of_decide_eq_true (by kernel_rfl)) (by unfold Func.isWrapper; first | (rw [if_pos (by decide +kernel)]; kernel_rfl) | (rw [if_neg (by decide +kernel)]; exact ⟨rfl, rfl⟩))
    (fun os started H enc _ => lifted os started H enc)
theorem proved : Rows.MacRowsSaid := over
#print axioms proved
end Go.Proofs.Ytmldccfchnlpgaa.macRows

