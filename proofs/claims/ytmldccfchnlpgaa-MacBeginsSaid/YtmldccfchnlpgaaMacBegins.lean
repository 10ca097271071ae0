/- The given statement is proved: for every input the law's function answers true. No condition. -/
import Derived.Test.YtmldccfchnlpgaaRows
import Derived.Test.YtmldccfchnlpgaaPart6
import Derived.WalkKit
import Derived.ProofKit
import Derived.OpenShut
import Derived.ShutString
set_option linter.unusedVariables false
set_option linter.unusedSimpArgs false
set_option maxRecDepth 100000
set_option maxHeartbeats 1000000
namespace Go.Proofs.Ytmldccfchnlpgaa
open Go Go.Vc
theorem w8 (u : UInt8) : real.wrapi (real.toI8 u) = (u.toNat : Int) := by
  have h := u.toNat_lt
  show IntKind.i64.wrap ((u.toNat : Nat) : Int) = _
  rw [wrap_sm (by omega) (by omega)]
theorem w8n (u : UInt8) : real.mini (real.maxi (real.wrapi (real.toI8 u)) (real.int 0)) (real.int 8160) = (u.toNat : Int) := by
  have h := u.toNat_lt
  rw [w8, nn_eq]
  unfold nN
  omega
theorem mm8 (n m : UInt8) : (real.min8 n m).toNat ≤ (real.max8 n m).toNat := by
  show (if m.toNat < n.toNat then m else n).toNat ≤ (if m.toNat > n.toNat then m else n).toNat
  split <;> split <;> omega
theorem mdv_len (k info : List UInt8) (x : UInt32) : (us.mdv k info x).length = 32 := by
  have e : us.mdv k info x = us.mx k (info ++ putK (UInt64.ofNat x.toNat) 4) 32 := rfl
  rw [e, mx_len]
  decide
theorem y1 (u : UInt8) : real.p0 (real.wrapi (real.toI8 u)) := by rw [w8]; show (0 : Int) ≤ _; omega
theorem y2 (n m : UInt8) : real.pLe (real.nat (real.wrapi (real.toI8 (real.min8 n m)))) (real.nat (real.mini (real.maxi (real.wrapi (real.toI8 (real.max8 n m))) (real.int 0)) (real.int 8160))) := by
  rw [w8, w8n]
  exact mm8 n m
theorem cnW (u : UInt8) : us.chN (real.repB (real.nat (real.mini (real.maxi (real.wrapi (real.toI8 u)) (real.int 0)) (real.int 8160)))) = (u.toNat + 31) / 32 := by
  rw [w8n]
  show ((List.replicate u.toNat (0 : UInt8)).length + 31) / 32 = _
  rw [List.length_replicate]
theorem y3 (k info : List UInt8) (n m : UInt8) : real.pLe (real.addn 0 (real.nat (real.wrapi (real.toI8 (real.min8 n m))))) (real.lenB (us.mxO k info (us.chN (real.repB (real.nat (real.mini (real.maxi (real.wrapi (real.toI8 (real.max8 n m))) (real.int 0)) (real.int 8160))))))) := by
  have h := mm8 n m
  rw [cnW, w8]
  show 0 + (real.min8 n m).toNat ≤ (u_mxO k info _).length
  rw [mxO_len]
  omega
attribute [local irreducible] u_mdv in
theorem y6 (k info : List UInt8) (x : UInt32) : real.pLe (real.addn 0 32) (real.lenB (us.mdv k info x)) := by
  have e : real.lenB (us.mdv k info x) = 32 := mdv_len k info x
  rw [e]
  exact Nat.le_refl 32
theorem y8 (u : UInt8) : real.eqi (real.int (real.nat (real.mini (real.maxi (real.subi (real.nint 0) (real.wrapi (real.toI8 u))) (real.int 0)) (real.int 8160)))) (real.int 0) = true := by
  have h := u.toNat_lt
  have e : real.subi (real.nint 0) (real.wrapi (real.toI8 u)) = -1 - (u.toNat : Int) := by
    rw [w8]
    show IntKind.i64.wrap (Int.negSucc 0 - (u.toNat : Int)) = _
    rw [wrap_sm (by omega) (by omega)]
    omega
  rw [e, nn_eq]
  have e2 : nN (-1 - (u.toNat : Int)) = 0 := by unfold nN; omega
  rw [e2]; rfl
theorem v1 (u : UInt8) : real.pB (real.eqi (real.int (real.nat (real.mini (real.maxi (real.wrapi (real.toI8 u)) (real.int 0)) (real.int 8160)))) (real.wrapi (real.toI8 u))) true := by
  rw [w8n, w8]
  show ((u.toNat : Int) == (u.toNat : Int)) = true
  simp
theorem v3 (k info : List UInt8) (n m : UInt8) : real.pB (real.eqB (real.cutB (us.mxO k info (us.chN (real.repB (real.nat (real.mini (real.maxi (real.wrapi (real.toI8 (real.max8 n m))) (real.int 0)) (real.int 8160)))))) 0 (real.nat (real.wrapi (real.toI8 (real.min8 n m))))) (real.cutB (us.mxO k info (us.chN (real.repB (real.nat (real.mini (real.maxi (real.wrapi (real.toI8 (real.min8 n m))) (real.int 0)) (real.int 8160)))))) 0 (real.nat (real.mini (real.maxi (real.wrapi (real.toI8 (real.min8 n m))) (real.int 0)) (real.int 8160))))) true := by
  have h := mm8 n m
  rw [cnW, cnW, w8n, w8]
  obtain ⟨T, hT⟩ := mxO_ext k info (((real.min8 n m).toNat + 31) / 32) (((real.max8 n m).toNat + 31) / 32 - ((real.min8 n m).toNat + 31) / 32)
  rw [show ((real.min8 n m).toNat + 31) / 32 + (((real.max8 n m).toNat + 31) / 32 - ((real.min8 n m).toNat + 31) / 32) = ((real.max8 n m).toNat + 31) / 32 by omega] at hT
  have e : real.cutB (us.mxO k info (((real.max8 n m).toNat + 31) / 32)) 0 (real.nat ((real.min8 n m).toNat : Int)) = real.cutB (us.mxO k info (((real.min8 n m).toNat + 31) / 32)) 0 (real.nat ((real.min8 n m).toNat : Int)) := by
    show ((u_mxO k info (((real.max8 n m).toNat + 31) / 32)).drop 0).take (real.min8 n m).toNat = ((u_mxO k info (((real.min8 n m).toNat + 31) / 32)).drop 0).take (real.min8 n m).toNat
    rw [List.drop_zero, List.drop_zero, hT, List.take_append_of_le_length (by rw [mxO_len]; omega)]
  rw [e]
  exact eqB_self _
theorem v4 (k info : List UInt8) : real.pB (real.eqB (real.cutB (us.mdv k info (real.ofI32 (real.int 7))) 0 32) (real.cutB (us.mxO k (real.appB info [real.ofI8 (real.int 0), real.ofI8 (real.int 0), real.ofI8 (real.int 0), real.ofI8 (real.int 7)]) (cnM (real.int 32))) 0 (real.nat (real.mini (real.maxi (real.int 32) (real.int 0)) (real.int 8160))))) true := by
  have hl : (us.mdv k info (real.ofI32 (real.int 7))).length = 32 := mdv_len _ _ _
  rw [mx_cut, cut32s _ hl]
  have e : real.appB info [real.ofI8 (real.int 0), real.ofI8 (real.int 0), real.ofI8 (real.int 0), real.ofI8 (real.int 7)] = info ++ putK (UInt64.ofNat (real.ofI32 (real.int 7)).toNat) 4 := by
    have e2 : putK (UInt64.ofNat (real.ofI32 (real.int 7)).toNat) 4 = [0, 0, 0, 7] := by decide
    rw [e2]; rfl
  rw [e]
  exact eqB_self _
attribute [local irreducible] u_mac u_sum
end Go.Proofs.Ytmldccfchnlpgaa
namespace Go.Proofs.Ytmldccfchnlpgaa
open Go Go.Vc
noncomputable def sp_law3_MacBegins (F : Fs) (U : Us) : Specs := [(59, s_law3_known F U), (61, s_mac_Expand F U), (62, s_mac_Derive F U)]
theorem ok_law3_MacBegins : SpecsOK Try.prog (sp_law3_MacBegins real us) := sp_cons r_law3_known k_law3_known (sp_cons r_mac_Expand k_mac_Expand (sp_cons r_mac_Derive k_mac_Derive sp_nil))
noncomputable def x_law3_MacBegins (F : Fs) (U : Us) : Cx := ⟨Try.f15.ntmps, tt F, sp_law3_MacBegins F U, [], [(6, ([(4, [0, 3])], [])), (8, ([(0, [2]), (2, [0]), (3, [0, 2]), (4, [0])], [(4, [2])])), (9, ([(16, [13, 14]), (23, [20, 21])], []))], [], []⟩
theorem c_law3_MacBegins (k info : List UInt8) (n m : UInt8) (q0 : k.length = 32) (q1 : info.length ≤ 9223372036854775807) : vc real (x_law3_MacBegins real us) [] [] (Try.f15.body.getD .skip) ⟨zipSl 0 [.ag 32 (.bt k), .rb 1 (.bt info), .w8 n, .w8 m], [], 64⟩ (retOk real (tt real) false Try.f15.results.toList [.val (.b true)]) := by
  generalize hU : us = U
  generalize hF : real = F
  have f1 : ∀ u, F.p0 (F.wrapi (F.toI8 u)) := by subst hF; exact y1
  have f2 : F.pLe (F.nat (F.wrapi (F.toI8 (F.min8 n m)))) (F.nat (F.mini (F.maxi (F.wrapi (F.toI8 (F.max8 n m))) (F.int 0)) (F.int 8160))) := by subst hF; exact y2 n m
  have f3 : F.pLe (F.addn 0 (F.nat (F.wrapi (F.toI8 (F.min8 n m))))) (F.lenB (U.mxO k info (U.chN (F.repB (F.nat (F.mini (F.maxi (F.wrapi (F.toI8 (F.max8 n m))) (F.int 0)) (F.int 8160))))))) := by subst hF hU; exact y3 k info n m
  have f4 : ∀ x e, F.pLe (F.addn 0 (F.nat (F.mini (F.maxi e (F.int 0)) (F.int 8160)))) (F.lenB (U.mxO k x (U.chN (F.repB (F.nat (F.mini (F.maxi e (F.int 0)) (F.int 8160))))))) := by subst hF hU; exact fun x e => sl_fit k x e
  have f6 : F.pLe (F.addn 0 32) (F.lenB (U.mdv k info (F.ofI32 (F.int 7)))) := by subst hF hU; exact y6 k info _
  have f8 : F.eqi (F.int (F.nat (F.mini (F.maxi (F.subi (F.nint 0) (F.wrapi (F.toI8 (F.min8 n m)))) (F.int 0)) (F.int 8160)))) (F.int 0) = true := by subst hF; exact y8 _
  have b1 : ∀ u, F.pB (F.eqi (F.int (F.nat (F.mini (F.maxi (F.wrapi (F.toI8 u)) (F.int 0)) (F.int 8160)))) (F.wrapi (F.toI8 u))) true := by subst hF; exact v1
  have b3 : F.pB (F.eqB (F.cutB (U.mxO k info (U.chN (F.repB (F.nat (F.mini (F.maxi (F.wrapi (F.toI8 (F.max8 n m))) (F.int 0)) (F.int 8160)))))) 0 (F.nat (F.wrapi (F.toI8 (F.min8 n m))))) (F.cutB (U.mxO k info (U.chN (F.repB (F.nat (F.mini (F.maxi (F.wrapi (F.toI8 (F.min8 n m))) (F.int 0)) (F.int 8160)))))) 0 (F.nat (F.mini (F.maxi (F.wrapi (F.toI8 (F.min8 n m))) (F.int 0)) (F.int 8160))))) true := by subst hF hU; exact v3 k info n m
  have b4 : F.pB (F.eqB (F.cutB (U.mdv k info (F.ofI32 (F.int 7))) 0 32) (F.cutB (U.mxO k (F.appB info [F.ofI8 (F.int 0), F.ofI8 (F.int 0), F.ofI8 (F.int 0), F.ofI8 (F.int 7)]) (U.chN (F.repB (F.nat (F.mini (F.maxi (F.int 32) (F.int 0)) (F.int 8160)))))) 0 (F.nat (F.mini (F.maxi (F.int 32) (F.int 0)) (F.int 8160))))) true := by subst hF hU; exact v4 k info
  cbv
  repeat' first | apply And.intro | refine Classical.or_iff_not_imp_left.2 (fun _ => ?_) | exact trivial
  all_goals try (subst hF hU; simp only [real, us, Nat.le_eq, Int.cast_ofNat_Int, decide_eq_false_iff_not, decide_eq_true_eq, List.length_take, List.length_drop, List.length_append, List.length_replicate, List.length_set, List.length_cons, List.length_nil, List.length_zipWith] at *; (try simp (disch := omega) only [wrap_sm] at *); omega)
  all_goals first
    | (subst hU; assumption)
    | exact f1 _
    | exact f2
    | exact f3
    | exact f4 _ _
    | exact f6
    | exact f8
    | (rename_i h; exact absurd (b1 _) h)
    | (rename_i h; exact absurd b3 h)
    | (rename_i h; exact absurd b4 h)
    | skip
end Go.Proofs.Ytmldccfchnlpgaa
namespace Go.Proofs.Ytmldccfchnlpgaa.macBegins
open Go.ChangeShapes Go.WideShapes Go.ChangeAt Go.RowKit
set_option linter.unusedVariables false
theorem own : ownKnob Try.prog.godebug = none := by kernel_rfl
theorem laidOut : laidOutB Try.prog = true := p_laidOut
set_option maxRecDepth 100000 in
theorem lifted (os : Os) (started : os.Started) (H : Type) (enc : TypeId × Value → H) :
    ReturnsInHanded {} Try.checked os 15 .any (Rows.macBeginsSpec.pre6 enc Try.prog Try.f15 Rows.macBeginsRow.domain false) (Rows.macBeginsSpec.post enc Try.prog Try.f15 false true false false) := by
  refine returnsInHanded_of_change (C := Try.checked) own started (by kernel_rfl) Try.func15
    (ChangeSpec.witness6 (enc := enc) (C := Try.checked) false ⟨#[], #[.agg #[.int .u8 0, .int .u8 0, .int .u8 0, .int .u8 0, .int .u8 0, .int .u8 0, .int .u8 0, .int .u8 0, .int .u8 0, .int .u8 0, .int .u8 0, .int .u8 0, .int .u8 0, .int .u8 0, .int .u8 0, .int .u8 0, .int .u8 0, .int .u8 0, .int .u8 0, .int .u8 0, .int .u8 0, .int .u8 0, .int .u8 0, .int .u8 0, .int .u8 0, .int .u8 0, .int .u8 0, .int .u8 0, .int .u8 0, .int .u8 0, .int .u8 0, .int .u8 0], .slice none 0 0, .int .u8 0, .int .u8 0], []⟩ 8 (by kernel_rfl) (by kernel_rfl) (by kernel_rfl) (by kernel_rfl)) ?_
  intro W base args ds gs before hval0 hW hcnd _
  have hval : ∀ (j : Nat) t v, Try.f15.params[j]? = some t → args[j]? = some v → Value.okWide Try.prog W .any base t v := hval0
  have hW' := hW
  obtain ⟨p, q, hA0, hV, rfl, hfz, hnd⟩ := hW
  have hA : DataW.TrodAll enc Try.prog W 0 (fun _ => true) true Try.f15.params.toList args.toList ds p := hA0
  rw [Try.params15] at hA hval
  obtain ⟨v0, vs0, d0, ds0, p0, q0, hargs, rfl, rfl, h0, r0⟩ := trodAll_cons hA
  obtain ⟨v1, vs1, d1, ds1, p1, q1, rfl, rfl, rfl, h1, r1⟩ := trodAll_cons r0
  obtain ⟨v2, vs2, d2, ds2, p2, q2, rfl, rfl, rfl, h2, r2⟩ := trodAll_cons r1
  obtain ⟨v3, vs3, d3, ds3, p3, q3, rfl, rfl, rfl, h3, r3⟩ := trodAll_cons r2
  obtain ⟨rfl, rfl, rfl⟩ := trodAll_nil r3
  obtain rfl : args = #[v0, v1, v2, v3] := by cases args; simp_all
  obtain ⟨rfl, rfl⟩ := trodVars_none hV
  obtain ⟨k, k0, q0⟩ := Go.Vc.openA8 Try.underlying24 Try.underlying5 (by kernel_rfl) (by kernel_rfl) (hval 0 24 v0 rfl rfl) h0
  obtain ⟨info, k1, q1⟩ := Go.Vc.openL8 Try.underlying27 Try.underlying5 (by kernel_rfl) (hval 1 27 v1 rfl rfl) h1
  obtain ⟨n, k2⟩ := Go.Vc.open8 Try.underlying5 (hval 2 5 v2 rfl rfl) h2
  obtain ⟨m, k3⟩ := Go.Vc.open8 Try.underlying5 (hval 3 5 v3 rfl rfl) h3
  clear hA0 hval0
  refine (Go.Vc.law_walk2 (x := x_law3_MacBegins Go.Vc.real us) (an := []) (cu := []) (l := [.ag 32 (.bt k), .rb 1 (.bt info), .w8 n, .w8 m]) (vals := [v0, v1, v2, v3]) ⟨tt_ok, ok_law3_MacBegins, Go.Vc.ks_nil⟩ mixed Try.func15 rfl rfl (by kernel_rfl) (Nat.le_of_ble_eq_true rfl) (Go.Vc.rvs_cons k0 (Go.Vc.rvs_cons k1 (Go.Vc.rvs_cons k2 (Go.Vc.rvs_cons k3 Go.Vc.rvs_nil)))) (c_law3_MacBegins k info n m q0 q1)).mono fun e W' ⟨he, bel⟩ => ?_
  subst he
  exact ⟨_, rfl, Go.Vc.post_true (tb := 4) laidOut (by kernel_rfl) rfl Try.underlying4 rfl hW' rfl bel⟩
theorem over : Rows.macBeginsRow.holds Try.pinned (OpenSpec.ofChange Rows.macBeginsSpec) :=
  OpenClaim.holds_of_wide 15 Try.f15 rfl rfl rfl rfl rfl rfl rfl ⟨rfl, rfl, rfl, rfl, rfl⟩ rfl rfl rfl rfl rfl (by kernel_rfl) Try.func15 (Go.Vc.joined_of p_laidOut p_maps p_stops p_knobs p_heard p_mayEnter p_lifts p_make rfl rfl (by kernel_rfl) (by kernel_rfl) (by kernel_rfl) (by kernel_rfl) (by kernel_rfl) (by kernel_rfl) (by kernel_rfl) (by kernel_rfl) (by kernel_rfl) (by kernel_rfl) (by kernel_rfl) (by kernel_rfl) (by kernel_rfl) (by kernel_rfl) (by kernel_rfl) (by kernel_rfl) (by kernel_rfl) (by kernel_rfl) (by kernel_rfl) (by kernel_rfl) (by kernel_rfl) (by kernel_rfl) (by kernel_rfl) (by kernel_rfl) )
    (of_decide_eq_true (by kernel_rfl)) (by unfold Func.isWrapper; first | (rw [if_pos (by decide +kernel)]; kernel_rfl) | (rw [if_neg (by decide +kernel)]; exact ⟨rfl, rfl⟩))
    (fun os started H enc _ => lifted os started H enc)
theorem proved : Rows.MacBeginsSaid := over
#print axioms proved
end Go.Proofs.Ytmldccfchnlpgaa.macBegins

