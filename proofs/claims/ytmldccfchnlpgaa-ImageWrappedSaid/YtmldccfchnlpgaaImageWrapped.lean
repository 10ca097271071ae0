/- The given statement is proved: for every input the law's function answers true. No condition. -/
import Derived.Test.YtmldccfchnlpgaaRows
import Derived.Test.YtmldccfchnlpgaaPart6
import Derived.Test.YtmldccfchnlpgaaPart7
import Derived.WalkKit
import Derived.HandedShaped
import Derived.ProofKit
import Derived.OpenShut
import Derived.ShutString
set_option linter.unusedVariables false
set_option linter.unusedSimpArgs false
set_option maxRecDepth 100000
set_option maxHeartbeats 1000000
namespace Go.Proofs.Ytmldccfchnlpgaa
open Go Go.Vc
noncomputable abbrev gG (a : UInt8) : UInt64 := real.ofI64 (real.toI8 (real.rem8 a (real.ofI8 (real.int 25))))
noncomputable abbrev gW (k : List UInt8) (s : UInt32) (a : UInt8) (key : List UInt8) : List UInt8 := us.wrp k s (gG a) key
noncomputable abbrev gI (p q k : List UInt8) (s : UInt32) (a : UInt8) (key : List UInt8) : List UInt8 := real.appB (real.appB p (real.cutB (gW k s a key) 0 48)) q
noncomputable abbrev gX (p : List UInt8) (c : UInt8) : Int := real.addi (real.addi (real.int (real.lenB p)) (real.int 32)) (real.wrapi (real.toI8 (real.rem8 c (real.ofI8 (real.int 16)))))
noncomputable abbrev gJ (p q k : List UInt8) (s : UInt32) (a : UInt8) (key : List UInt8) (c d : UInt8) : List UInt8 := real.setB (gI p q k s a key) (real.nat (gX p c)) (real.xor8 (real.getB (gI p q k s a key) (real.nat (gX p c))) d)
theorem gw_ne25 : real.pNe (real.toI8 (real.ofI8 (real.int 25))) := by show ¬ (_ = _); decide
theorem gw_ne16 : real.pNe (real.toI8 (real.ofI8 (real.int 16))) := by show ¬ (_ = _); decide
theorem gw_plen {n : Nat} {p : List UInt8} (h : ¬ real.pB (real.lti (real.int n) (real.int (real.lenB p))) true) : p.length ≤ n := by
  by_cases e : n < p.length
  · exact absurd (decide_eq_true (show (n : Int) < (p.length : Int) by omega)) h
  · omega
theorem gw_w {k key : List UInt8} {s : UInt32} {a : UInt8} (h : key.length = 32) : (gW k s a key).length = 48 := wrp_len _ _ _ _ h
theorem gw_pw {k key : List UInt8} {s : UInt32} {a : UInt8} (h : key.length = 32) : real.pLe (real.addn 0 48) (real.lenB (gW k s a key)) := by
  have := gw_w (k := k) (s := s) (a := a) h
  show 48 ≤ (gW k s a key).length
  omega
theorem gw_x {p : List UInt8} {c : UInt8} (hp : p.length ≤ 20) : gX p c = ((p.length + 32 + c.toNat % 16 : Nat) : Int) := by
  have hc := c.toNat_lt
  have e : (real.ofI8 (real.int 16)).toNat = 16 := rfl
  have e2 : (real.rem8 c (real.ofI8 (real.int 16))).toNat = c.toNat % 16 := by
    show (c % real.ofI8 (real.int 16)).toNat = _
    rw [UInt8.toNat_mod, e]
  have e3 : real.wrapi (real.toI8 (real.rem8 c (real.ofI8 (real.int 16)))) = ((c.toNat % 16 : Nat) : Int) := by
    show IntKind.i64.wrap (((real.rem8 c (real.ofI8 (real.int 16))).toNat : Nat) : Int) = _
    rw [e2, wrap_sm (by omega) (by omega)]
  show real.addi (real.addi (real.int (real.lenB p)) (real.int 32)) (real.wrapi (real.toI8 (real.rem8 c (real.ofI8 (real.int 16))))) = _
  rw [e3]
  have e4 : real.addi (real.int (real.lenB p)) (real.int 32) = ((p.length + 32 : Nat) : Int) := by
    show IntKind.i64.wrap ((p.length : Int) + 32) = _
    rw [wrap_sm (by omega) (by omega)]
    omega
  rw [e4]
  show IntKind.i64.wrap (((p.length + 32 : Nat) : Int) + ((c.toNat % 16 : Nat) : Int)) = _
  rw [wrap_sm (by omega) (by omega)]
  omega
theorem gw_len {p q k key : List UInt8} {s : UInt32} {a : UInt8} (h : key.length = 32) : (gI p q k s a key).length = p.length + 48 + q.length := by
  have h1 := gw_w (k := k) (s := s) (a := a) h
  show ((p ++ (gW k s a key).take 48) ++ q).length = _
  rw [List.length_append, List.length_append, List.length_take, h1]
  omega
theorem gw_pin {p q k key : List UInt8} {s : UInt32} {a c : UInt8} (hp : p.length ≤ 20) (h : key.length = 32) : real.pIn (gX p c) (real.lenB (gI p q k s a key)) := by
  have hl := gw_len (p := p) (q := q) (k := k) (s := s) (a := a) h
  rw [gw_x hp]
  show (0 : Int) ≤ ((p.length + 32 + c.toNat % 16 : Nat) : Int) ∧ ((p.length + 32 + c.toNat % 16 : Nat) : Int) < ((gI p q k s a key).length : Int)
  rw [hl]
  omega
theorem gw_plt {p q k key : List UInt8} {s : UInt32} {a c : UInt8} (hp : p.length ≤ 20) (h : key.length = 32) : real.pLt (real.nat (gX p c)) (real.lenB (gI p q k s a key)) := by
  have hl := gw_len (p := p) (q := q) (k := k) (s := s) (a := a) h
  rw [gw_x hp]
  show (((p.length + 32 + c.toNat % 16 : Nat) : Int)).toNat < (gI p q k s a key).length
  rw [hl]
  omega
theorem gw_wmm (x : UInt64) : us.wm (real.min64 x (real.ofI64 (real.int 20))) = us.wm x := by
  show min (if (20 : UInt64).toNat < x.toNat then (20 : UInt64) else x).toNat 20 = min x.toNat 20
  have e : (20 : UInt64).toNat = 20 := rfl
  split <;> omega
theorem gw_le (x : UInt64) : real.pB (real.le64 (real.min64 x (real.ofI64 (real.int 20))) (real.ofI64 (real.int 20))) true := by
  show decide ((if (20 : UInt64).toNat < x.toNat then (20 : UInt64) else x).toNat ≤ (20 : UInt64).toNat) = true
  have e : (20 : UInt64).toNat = 20 := rfl
  rw [decide_eq_true_eq]
  split <;> omega
theorem gw_end {im k : List UInt8} {s : UInt32} {x : UInt64} (h : ¬ real.pB (real.notb (us.wrE im k s (us.wm x))) true) : real.cond (us.wrE im k s (us.wm (real.min64 x (real.ofI64 (real.int 20))))) (real.eqB (us.wrK im k s (us.wm (real.min64 x (real.ofI64 (real.int 20))))) (us.wrK im k s (us.wm x))) false = true := by
  rw [gw_wmm]
  have e : us.wrE im k s (us.wm x) = true := by
    cases g : us.wrE im k s (us.wm x) with
    | true => rfl
    | false =>
      refine absurd ?_ h
      show (!(us.wrE im k s (us.wm x))) = true
      rw [g]; rfl
  rw [e]
  show (us.wrK im k s (us.wm x) == us.wrK im k s (us.wm x)) = true
  simp
theorem gw_yes {p q k key : List UInt8} {s : UInt32} {a b c d : UInt8} (hp : p.length ≤ 20) (hk : key.length = 32) (hd : ¬ real.pB (real.eq8 d (real.ofI8 (real.int 0))) false) (hg : ¬ real.pB (real.le64 (gG a) (real.min64 (gG b) (real.ofI64 (real.int 20)))) false) : us.wrE (gJ p q k s a key c d) k s (us.wm (gG b)) = true := by
  have h1 := gw_w (k := k) (s := s) (a := a) hk
  have hl := gw_len (p := p) (q := q) (k := k) (s := s) (a := a) hk
  have hd0 : d = 0 := by
    by_cases e : d = 0
    · exact e
    · exact absurd (show (d == 0) = false from beq_eq_false_iff_ne.2 e) hd
  have hg1 : (gG a).toNat ≤ us.wm (gG b) := by
    rw [← gw_wmm]
    have h2 : (gG a).toNat ≤ (real.min64 (gG b) (real.ofI64 (real.int 20))).toNat := by
      by_cases e : (gG a).toNat ≤ (real.min64 (gG b) (real.ofI64 (real.int 20))).toNat
      · exact e
      · exact absurd (decide_eq_false e) hg
    have h3 := of_decide_eq_true (gw_le (gG b))
    have h4 : (real.ofI64 (real.int 20)).toNat = 20 := rfl
    show _ ≤ min (real.min64 (gG b) (real.ofI64 (real.int 20))).toNat 20
    omega
  have e : gJ p q k s a key c d = gI p q k s a key := by
    show (gI p q k s a key).set (gX p c).toNat ((gI p q k s a key).getD (gX p c).toNat 0 ^^^ d) = _
    refine (turn_eq _ _ d ?_).2 hd0
    exact gw_plt hp hk
  rw [e]
  refine wrE_of (i := p.length) (g := (gG a).toNat) (by rw [hl]; omega) hg1 ?_
  have e2 : u_cut48 (gI p q k s a key) p.length = gW k s a key := by
    show (((p ++ (gW k s a key).take 48) ++ q).drop p.length).take 48 = _
    rw [List.append_assoc, List.drop_left, List.take_append_of_le_length (by rw [List.length_take, h1]; omega), List.take_take, List.take_of_length_le (by omega)]
  rw [e2, UInt64.ofNat_toNat]
  exact (uw_wrp k s (gG a) key).1
theorem ip5 : real.pB (real.notb true) false := rfl
end Go.Proofs.Ytmldccfchnlpgaa
attribute [local irreducible] Go.Proofs.Ytmldccfchnlpgaa.u_uwE Go.Proofs.Ytmldccfchnlpgaa.u_uwK Go.Proofs.Ytmldccfchnlpgaa.u_cut48 Go.Proofs.Ytmldccfchnlpgaa.u_wrI Go.Proofs.Ytmldccfchnlpgaa.u_wrO Go.Proofs.Ytmldccfchnlpgaa.u_wrF Go.Proofs.Ytmldccfchnlpgaa.u_wrp Go.Proofs.Ytmldccfchnlpgaa.u_smL Go.Proofs.Ytmldccfchnlpgaa.u_smN Go.Proofs.Ytmldccfchnlpgaa.u_find Go.Proofs.Ytmldccfchnlpgaa.u_plain Go.Proofs.Ytmldccfchnlpgaa.u_wm
namespace Go.Proofs.Ytmldccfchnlpgaa
open Go Go.Vc
noncomputable def sp_law27_ImageWrapped (F : Fs) (U : Us) : Specs := [(81, s_law27_known F U), (80, s_ref4_Wrap F U), (86, s_image_Wrapped F U), (87, s_law27_found F U)]
theorem ok_law27_ImageWrapped : SpecsOK Try.prog (sp_law27_ImageWrapped real us) := sp_cons r_law27_known k_law27_known (sp_cons r_ref4_Wrap k_ref4_Wrap (sp_cons r_image_Wrapped k_image_Wrapped (sp_cons r_law27_found k_law27_found sp_nil)))
noncomputable def x_law27_ImageWrapped (F : Fs) (U : Us) : Cx := ⟨Try.f27.ntmps, tt F, sp_law27_ImageWrapped F U, [], [(7, ([(2, [1])], []))], [], []⟩
theorem c_law27_ImageWrapped (p q k key : List UInt8) (s : UInt32) (a b c d : UInt8) (q0 : p.length ≤ 9223372036854775807) (q1 : q.length ≤ 9223372036854775807) (q2 : k.length = 32) (q3 : key.length = 32) : vc real (x_law27_ImageWrapped real us) [] [] (Try.f27.body.getD .skip) ⟨zipSl 0 [.rb 1 (.bt p), .rb 1 (.bt q), .ag 32 (.bt k), .ag 32 (.bt key), .w32 s, .w8 a, .w8 b, .w8 c, .w8 d], [], 64⟩ (retOk real (tt real) false Try.f27.results.toList [.val (.b true)]) := by
  generalize hU : us = U
  generalize hF : real = F
  cbv
  repeat' first | apply And.intro | refine Classical.or_iff_not_imp_left.2 (fun _ => ?_) | exact trivial
  all_goals try (subst hF hU; simp only [real, us, Nat.le_eq, Int.cast_ofNat_Int, decide_eq_false_iff_not, decide_eq_true_eq, List.length_take, List.length_drop, List.length_append, List.length_replicate, List.length_set, List.length_cons, List.length_nil, List.length_zipWith] at *; (try simp (disch := omega) only [wrap_sm] at *); omega)
  all_goals subst hF hU
  all_goals first
    | exact absurd ip5 (by assumption)
    | exact gw_ne25
    | exact gw_ne16
    | exact q2
    | exact q3
    | exact gw_pw q3
    | exact gw_pin (gw_plen (by assumption)) q3
    | exact gw_plt (gw_plen (by assumption)) q3
    | exact gw_le _
    | exact wrK_len _ _ _ _
    | exact gw_end (by assumption)
    | exact gw_yes (p := p) (gw_plen (by assumption)) q3 (by assumption) (by assumption)
end Go.Proofs.Ytmldccfchnlpgaa
namespace Go.Proofs.Ytmldccfchnlpgaa.imageWrapped
open Go.ChangeShapes Go.WideShapes Go.ChangeAt Go.RowKit
set_option linter.unusedVariables false
theorem own : ownKnob Try.prog.godebug = none := by kernel_rfl
theorem laidOut : laidOutB Try.prog = true := p_laidOut
set_option maxRecDepth 100000 in
theorem lifted (os : Os) (started : os.Started) (H : Type) (enc : TypeId × Value → H) :
    ReturnsInHanded {} Try.checked os 27 .any (Rows.imageWrappedSpec.pre6 enc Try.prog Try.f27 Rows.imageWrappedRow.domain false) (Rows.imageWrappedSpec.post enc Try.prog Try.f27 false true false false) := by
  refine returnsInHanded_of_change_shaped (C := Try.checked) own started (by kernel_rfl) Try.func27
    (ChangeSpec.witness6 (enc := enc) (C := Try.checked) false ⟨#[], #[.slice none 0 0, .slice none 0 0, .agg #[.int .u8 0, .int .u8 0, .int .u8 0, .int .u8 0, .int .u8 0, .int .u8 0, .int .u8 0, .int .u8 0, .int .u8 0, .int .u8 0, .int .u8 0, .int .u8 0, .int .u8 0, .int .u8 0, .int .u8 0, .int .u8 0, .int .u8 0, .int .u8 0, .int .u8 0, .int .u8 0, .int .u8 0, .int .u8 0, .int .u8 0, .int .u8 0, .int .u8 0, .int .u8 0, .int .u8 0, .int .u8 0, .int .u8 0, .int .u8 0, .int .u8 0, .int .u8 0], .agg #[.int .u8 0, .int .u8 0, .int .u8 0, .int .u8 0, .int .u8 0, .int .u8 0, .int .u8 0, .int .u8 0, .int .u8 0, .int .u8 0, .int .u8 0, .int .u8 0, .int .u8 0, .int .u8 0, .int .u8 0, .int .u8 0, .int .u8 0, .int .u8 0, .int .u8 0, .int .u8 0, .int .u8 0, .int .u8 0, .int .u8 0, .int .u8 0, .int .u8 0, .int .u8 0, .int .u8 0, .int .u8 0, .int .u8 0, .int .u8 0, .int .u8 0, .int .u8 0], .int .u32 0, .int .u8 0, .int .u8 0, .int .u8 0, .int .u8 0], []⟩ 8 (by kernel_rfl) (by kernel_rfl) (by kernel_rfl) (by kernel_rfl)) ?_
  intro W base args ds gs before hval0 hW hcnd hrch hsh _
  have hval : ∀ (j : Nat) t v, Try.f27.params[j]? = some t → args[j]? = some v → Value.okWide Try.prog W .any base t v := hval0
  have hW' := hW
  obtain ⟨p, q, hA0, hV, rfl, hfz, hnd⟩ := hW
  have hA : DataW.TrodAll enc Try.prog W 0 (fun _ => true) true Try.f27.params.toList args.toList ds p := hA0
  rw [Try.params27] at hA hval
  obtain ⟨v0, vs0, d0, ds0, p0, q0, hargs, rfl, rfl, h0, r0⟩ := trodAll_cons hA
  obtain ⟨v1, vs1, d1, ds1, p1, q1, rfl, rfl, rfl, h1, r1⟩ := trodAll_cons r0
  obtain ⟨v2, vs2, d2, ds2, p2, q2, rfl, rfl, rfl, h2, r2⟩ := trodAll_cons r1
  obtain ⟨v3, vs3, d3, ds3, p3, q3, rfl, rfl, rfl, h3, r3⟩ := trodAll_cons r2
  obtain ⟨v4, vs4, d4, ds4, p4, q4, rfl, rfl, rfl, h4, r4⟩ := trodAll_cons r3
  obtain ⟨v5, vs5, d5, ds5, p5, q5, rfl, rfl, rfl, h5, r5⟩ := trodAll_cons r4
  obtain ⟨v6, vs6, d6, ds6, p6, q6, rfl, rfl, rfl, h6, r6⟩ := trodAll_cons r5
  obtain ⟨v7, vs7, d7, ds7, p7, q7, rfl, rfl, rfl, h7, r7⟩ := trodAll_cons r6
  obtain ⟨v8, vs8, d8, ds8, p8, q8, rfl, rfl, rfl, h8, r8⟩ := trodAll_cons r7
  obtain ⟨rfl, rfl, rfl⟩ := trodAll_nil r8
  obtain rfl : args = #[v0, v1, v2, v3, v4, v5, v6, v7, v8] := by cases args; simp_all
  obtain ⟨rfl, rfl⟩ := trodVars_none hV
  obtain ⟨p, k0, q0⟩ := Go.Vc.openL8 Try.underlying27 Try.underlying5 (by kernel_rfl) (hval 0 27 v0 rfl rfl) h0
  obtain ⟨q, k1, q1⟩ := Go.Vc.openL8 Try.underlying27 Try.underlying5 (by kernel_rfl) (hval 1 27 v1 rfl rfl) h1
  obtain ⟨k, k2, q2⟩ := Go.Vc.openA8 Try.underlying24 Try.underlying5 (by kernel_rfl) (by kernel_rfl) (hval 2 24 v2 rfl rfl) h2
  obtain ⟨key, k3, q3⟩ := Go.Vc.openA8 Try.underlying24 Try.underlying5 (by kernel_rfl) (by kernel_rfl) (hval 3 24 v3 rfl rfl) h3
  obtain ⟨s, k4⟩ := Go.Vc.open32 Try.underlying22 (hval 4 22 v4 rfl rfl) h4
  obtain ⟨a, k5⟩ := Go.Vc.open8 Try.underlying5 (hval 5 5 v5 rfl rfl) h5
  obtain ⟨b, k6⟩ := Go.Vc.open8 Try.underlying5 (hval 6 5 v6 rfl rfl) h6
  obtain ⟨c, k7⟩ := Go.Vc.open8 Try.underlying5 (hval 7 5 v7 rfl rfl) h7
  obtain ⟨d, k8⟩ := Go.Vc.open8 Try.underlying5 (hval 8 5 v8 rfl rfl) h8
  clear hA0 hval0
  refine (Go.Vc.law_walk2 (x := x_law27_ImageWrapped Go.Vc.real us) (an := []) (cu := []) (l := [.rb 1 (.bt p), .rb 1 (.bt q), .ag 32 (.bt k), .ag 32 (.bt key), .w32 s, .w8 a, .w8 b, .w8 c, .w8 d]) (vals := [v0, v1, v2, v3, v4, v5, v6, v7, v8]) ⟨tt_ok, ok_law27_ImageWrapped, Go.Vc.ks_nil⟩ mixed Try.func27 rfl rfl (by kernel_rfl) hsh (Nat.le_of_ble_eq_true rfl) (Go.Vc.rvs_cons k0 (Go.Vc.rvs_cons k1 (Go.Vc.rvs_cons k2 (Go.Vc.rvs_cons k3 (Go.Vc.rvs_cons k4 (Go.Vc.rvs_cons k5 (Go.Vc.rvs_cons k6 (Go.Vc.rvs_cons k7 (Go.Vc.rvs_cons k8 Go.Vc.rvs_nil))))))))) (c_law27_ImageWrapped p q k key s a b c d q0 q1 q2 q3)).mono fun e W' ⟨he, bel⟩ => ?_
  subst he
  exact ⟨_, rfl, Go.Vc.post_true (tb := 4) laidOut (by kernel_rfl) rfl Try.underlying4 rfl hW' rfl bel⟩
theorem over : Rows.imageWrappedRow.holds Try.pinned (OpenSpec.ofChange Rows.imageWrappedSpec) :=
  OpenClaim.holds_of_wide 27 Try.f27 rfl rfl rfl rfl rfl rfl rfl ⟨rfl, rfl, rfl, rfl, rfl⟩ rfl rfl rfl rfl rfl (by kernel_rfl) Try.func27 (Go.Vc.joined_of p_laidOut p_maps p_stops p_knobs p_heard p_mayEnter p_lifts p_make rfl rfl (by kernel_rfl) (by kernel_rfl) (by kernel_rfl) (by kernel_rfl) (by kernel_rfl) (by kernel_rfl) (by kernel_rfl) (by kernel_rfl) (by kernel_rfl) (by kernel_rfl) (by kernel_rfl) (by kernel_rfl) (by kernel_rfl) (by kernel_rfl) (by kernel_rfl) (by kernel_rfl) (by kernel_rfl) (by kernel_rfl) (by kernel_rfl) (by kernel_rfl) (by kernel_rfl) (by kernel_rfl) (by kernel_rfl) (by kernel_rfl) )
    (of_decide_eq_true (by kernel_rfl)) (by unfold Func.isWrapper; first | (rw [if_pos (by decide +kernel)]; kernel_rfl) | (rw [if_neg (by decide +kernel)]; exact ⟨rfl, rfl⟩))
    (fun os started H enc _ => lifted os started H enc)
theorem proved : Rows.ImageWrappedSaid := over
#print axioms proved
end Go.Proofs.Ytmldccfchnlpgaa.imageWrapped

