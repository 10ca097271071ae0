/- The given statement is proved: for every input the law's function answers true. No condition. -/
import Derived.Test.YtmldccfchnlpgaaRows
import Derived.Test.YtmldccfchnlpgaaPart6
import Derived.Test.YtmldccfchnlpgaaPart5
import Derived.WalkKit
import Derived.HandedShaped
import Derived.ProofKit
import Derived.OpenShut
import Derived.ShutString
set_option linter.unusedVariables false
set_option linter.unusedSimpArgs false
set_option maxRecDepth 100000
set_option maxHeartbeats 1000000
namespace Go.Proofs.Ytmldccfchnlpgaa
open Go Go.Vc
theorem sn_put (x y : UInt64) : ∀ (k : Nat), putK x k = putK y k → x.toNat % 2 ^ (8 * k) = y.toNat % 2 ^ (8 * k)
  | 0, _ => by simp [Nat.mod_one]
  | k + 1, h => by
    rw [putK, putK] at h
    injection h with h1 h2
    have ih := sn_put x y k h2
    have hx : (UInt8.ofNat (x.toNat / 2 ^ (8 * k))).toNat = x.toNat / 2 ^ (8 * k) % 256 := by simp
    have hy : (UInt8.ofNat (y.toNat / 2 ^ (8 * k))).toNat = y.toNat / 2 ^ (8 * k) % 256 := by simp
    have h3 : x.toNat / 2 ^ (8 * k) % 256 = y.toNat / 2 ^ (8 * k) % 256 := by rw [← hx, ← hy, h1]
    have e1 : 2 ^ (8 * (k + 1)) = 2 ^ (8 * k) * 256 := by rw [Nat.mul_add, Nat.pow_add]
    rw [e1, Nat.mod_mul, Nat.mod_mul, ih, h3]
theorem sn_inj {p q : UInt32} {g h : UInt64} (e : u_nonce p g = u_nonce q h) : p = q ∧ g = h := by
  unfold u_nonce at e
  have l1 : (putK (UInt64.ofNat p.toNat) 4).length = (putK (UInt64.ofNat q.toNat) 4).length := by rw [putK_len, putK_len]
  obtain ⟨e1, e2⟩ := List.append_inj e l1
  constructor
  · have hp := p.toNat_lt
    have hq := q.toNat_lt
    have := sn_put _ _ 4 e1
    rw [UInt64.toNat_ofNat', UInt64.toNat_ofNat'] at this
    apply UInt32.toNat_inj.1
    omega
  · have hg := g.toNat_lt
    have hh := h.toNat_lt
    have := sn_put _ _ 8 e2
    apply UInt64.toNat_inj.1
    omega
theorem sn1 (p q : UInt32) (g h : UInt64) : real.eqB (us.nonce p g) (us.nonce q h) = (decide (p = q) && decide (g = h)) := by
  show (u_nonce p g == u_nonce q h) = _
  by_cases e : u_nonce p g = u_nonce q h
  · obtain ⟨e1, e2⟩ := sn_inj e
    subst e1 e2
    simp
  · have e0 : (u_nonce p g == u_nonce q h) = false := beq_eq_false_iff_ne.2 e
    rw [e0]
    by_cases e1 : p = q
    · by_cases e2 : g = h
      · subst e1 e2; exact absurd rfl e
      · simp [e2]
    · simp [e1]
noncomputable abbrev snM (x y : List UInt8) : MD := real.mset (real.mset { es := [], clock := 0 } (D.l8 x) (D.i (real.int 1))) (D.l8 y) (D.i (real.int 2))
theorem sn_get (x y : List UInt8) : real.dI (real.mget (snM x y) (D.l8 x) (real.dz Sh.i)) = if x = y then 2 else 1 := by
  show real.dI (MD.get (MD.set (MD.set _ _ _) _ _) _ _) = _
  rw [md_get, md_get, if_pos rfl]
  by_cases e : x = y
  · subst e; rw [if_pos rfl, if_pos rfl]; rfl
  · rw [if_neg (fun h => e (by injection h)), if_neg e]; rfl
theorem sn_len (x y : List UInt8) : real.mlen (snM x y) = if x = y then 1 else 2 := by
  show (MD.set (MD.set { es := [], clock := 0 } _ _) _ _).es.length = _
  by_cases e : x = y
  · subst e; rw [if_pos rfl]; simp [MD.set, MD.has, MD.find, MD.upd]
  · rw [if_neg e]
    have e2 : ¬ D.l8 x = D.l8 y := fun h => e (by injection h)
    simp [MD.set, MD.has, MD.find, MD.upd, e2]
theorem sn2 (x y : List UInt8) : real.eqb (real.eqi (real.dI (real.mget (snM x y) (D.l8 x) (real.dz Sh.i))) (real.int 2)) (real.eqB x y) = true := by
  rw [sn_get]
  show (((if x = y then (2 : Int) else 1) == 2) == (x == y)) = true
  by_cases e : x = y
  · rw [if_pos e]; simp [e]
  · rw [if_neg e]; simp [e]
theorem sn3 (x y : List UInt8) : real.eqi (real.int (real.mlen (snM x y))) (real.subi (real.int 2) (real.quoi (real.dI (real.mget (snM x y) (D.l8 x) (real.dz Sh.i))) (real.int 2))) = true := by
  rw [sn_get, sn_len]
  by_cases e : x = y
  · rw [if_pos e, if_pos e]; decide +kernel
  · rw [if_neg e, if_neg e]; decide +kernel
theorem sn4 (p q : UInt32) (g h : UInt64) (hg : ¬ real.pB (real.eq32 p q) false) : real.eqb (real.eqB (us.nonce p g) (us.nonce q h)) (real.eq64 g h) = true := by
  have e : p = q := by
    by_cases e : p = q
    · exact e
    · exact absurd (show decide (p = q) = false from decide_eq_false e) hg
  rw [sn1]
  show ((decide (p = q) && decide (g = h)) == decide (g = h)) = true
  simp [e]
theorem sn5 (p q : UInt32) (g h : UInt64) (hg : ¬ real.pB (real.eq32 p q) true) : real.eqb (real.eqB (us.nonce p g) (us.nonce q h)) false = true := by
  have e : ¬ p = q := fun e => hg (show decide (p = q) = true from decide_eq_true e)
  rw [sn1]
  simp [e]
  rfl
attribute [local irreducible] u_mac u_sum u_mdv u_seal u_nonce u_enc u_tag u_opB u_opE u_wrp u_uwE u_uwK
end Go.Proofs.Ytmldccfchnlpgaa
attribute [local irreducible] Go.Proofs.Ytmldccfchnlpgaa.u_mac Go.Proofs.Ytmldccfchnlpgaa.u_sum Go.Proofs.Ytmldccfchnlpgaa.u_mdv Go.Proofs.Ytmldccfchnlpgaa.u_seal Go.Proofs.Ytmldccfchnlpgaa.u_nonce Go.Proofs.Ytmldccfchnlpgaa.u_enc Go.Proofs.Ytmldccfchnlpgaa.u_tag Go.Proofs.Ytmldccfchnlpgaa.u_opB Go.Proofs.Ytmldccfchnlpgaa.u_opE Go.Proofs.Ytmldccfchnlpgaa.u_wrp Go.Proofs.Ytmldccfchnlpgaa.u_uwE Go.Proofs.Ytmldccfchnlpgaa.u_uwK
namespace Go.Proofs.Ytmldccfchnlpgaa
open Go Go.Vc
noncomputable def sp_law5_SealNonces (F : Fs) (U : Us) : Specs := [(68, s_law5_known F U), (69, s_seal_NonceOf F U), (77, s_seal_Seal F U), (70, s_seal_Open F U), (72, s_seal_Unwrap F U), (79, s_seal_Wrap F U), (75, s_seal_TagOf F U)]
theorem ok_law5_SealNonces : SpecsOK Try.prog (sp_law5_SealNonces real us) := sp_cons r_law5_known k_law5_known (sp_cons r_seal_NonceOf k_seal_NonceOf (sp_cons r_seal_Seal k_seal_Seal (sp_cons r_seal_Open k_seal_Open (sp_cons r_seal_Unwrap k_seal_Unwrap (sp_cons r_seal_Wrap k_seal_Wrap (sp_cons r_seal_TagOf k_seal_TagOf sp_nil))))))
noncomputable def x_law5_SealNonces (F : Fs) (U : Us) : Cx := ⟨Try.f24.ntmps, tt F, sp_law5_SealNonces F U, [], [(6, ([(1, [0]), (17, [14, 15]), (18, [14, 15, 17]), (26, [24]), (27, [24])], []))], [], []⟩
theorem c_law5_SealNonces (p q : UInt32) (g h : UInt64)  : vc real (x_law5_SealNonces real us) [] [] (Try.f24.body.getD .skip) ⟨zipSl 0 [.w32 p, .w32 q, .w64 g, .w64 h], [], 64⟩ (retOk real (tt real) false Try.f24.results.toList [.val (.b true)]) := by
  generalize hU : us = U
  generalize hF : real = F
  cbv
  repeat' first | apply And.intro | refine Classical.or_iff_not_imp_left.2 (fun _ => ?_) | exact trivial
  all_goals try (subst hF hU; simp only [real, us, Nat.le_eq, Int.cast_ofNat_Int, decide_eq_false_iff_not, decide_eq_true_eq, List.length_take, List.length_drop, List.length_append, List.length_replicate, List.length_set, List.length_cons, List.length_nil, List.length_zipWith] at *; (try simp (disch := omega) only [wrap_sm] at *); omega)
  all_goals
    subst hF hU
    first
    | exact sn3 _ _
    | exact absurd (sn2 _ _) (by assumption)
    | exact absurd (sn4 _ _ _ _ (by assumption)) (by assumption)
    | exact absurd (sn5 _ _ _ _ (by assumption)) (by assumption)
end Go.Proofs.Ytmldccfchnlpgaa
namespace Go.Proofs.Ytmldccfchnlpgaa.sealNonces
open Go.ChangeShapes Go.WideShapes Go.ChangeAt Go.RowKit
set_option linter.unusedVariables false
theorem own : ownKnob Try.prog.godebug = none := by kernel_rfl
theorem laidOut : laidOutB Try.prog = true := p_laidOut
set_option maxRecDepth 100000 in
theorem lifted (os : Os) (started : os.Started) (H : Type) (enc : TypeId × Value → H) :
    ReturnsInHanded {} Try.checked os 24 .any (Rows.sealNoncesSpec.pre6 enc Try.prog Try.f24 Rows.sealNoncesRow.domain false) (Rows.sealNoncesSpec.post enc Try.prog Try.f24 false true false false) := by
  refine returnsInHanded_of_change_shaped (C := Try.checked) own started (by kernel_rfl) Try.func24
    (ChangeSpec.witness6 (enc := enc) (C := Try.checked) false ⟨#[], #[.int .u32 0, .int .u32 0, .int .u64 0, .int .u64 0], []⟩ 8 (by kernel_rfl) (by kernel_rfl) (by kernel_rfl) (by kernel_rfl)) ?_
  intro W base args ds gs before hval0 hW hcnd hrch hsh _
  have hval : ∀ (j : Nat) t v, Try.f24.params[j]? = some t → args[j]? = some v → Value.okWide Try.prog W .any base t v := hval0
  have hW' := hW
  obtain ⟨p, q, hA0, hV, rfl, hfz, hnd⟩ := hW
  have hA : DataW.TrodAll enc Try.prog W 0 (fun _ => true) true Try.f24.params.toList args.toList ds p := hA0
  rw [Try.params24] at hA hval
  obtain ⟨v0, vs0, d0, ds0, p0, q0, hargs, rfl, rfl, h0, r0⟩ := trodAll_cons hA
  obtain ⟨v1, vs1, d1, ds1, p1, q1, rfl, rfl, rfl, h1, r1⟩ := trodAll_cons r0
  obtain ⟨v2, vs2, d2, ds2, p2, q2, rfl, rfl, rfl, h2, r2⟩ := trodAll_cons r1
  obtain ⟨v3, vs3, d3, ds3, p3, q3, rfl, rfl, rfl, h3, r3⟩ := trodAll_cons r2
  obtain ⟨rfl, rfl, rfl⟩ := trodAll_nil r3
  obtain rfl : args = #[v0, v1, v2, v3] := by cases args; simp_all
  obtain ⟨rfl, rfl⟩ := trodVars_none hV
  obtain ⟨p, k0⟩ := Go.Vc.open32 Try.underlying22 (hval 0 22 v0 rfl rfl) h0
  obtain ⟨q, k1⟩ := Go.Vc.open32 Try.underlying22 (hval 1 22 v1 rfl rfl) h1
  obtain ⟨g, k2⟩ := Go.Vc.open64 Try.underlying88 (hval 2 88 v2 rfl rfl) h2
  obtain ⟨h, k3⟩ := Go.Vc.open64 Try.underlying88 (hval 3 88 v3 rfl rfl) h3
  clear hA0 hval0
  refine (Go.Vc.law_walk2 (x := x_law5_SealNonces Go.Vc.real us) (an := []) (cu := []) (l := [.w32 p, .w32 q, .w64 g, .w64 h]) (vals := [v0, v1, v2, v3]) ⟨tt_ok, ok_law5_SealNonces, Go.Vc.ks_nil⟩ mixed Try.func24 rfl rfl (by kernel_rfl) hsh (Nat.le_of_ble_eq_true rfl) (Go.Vc.rvs_cons k0 (Go.Vc.rvs_cons k1 (Go.Vc.rvs_cons k2 (Go.Vc.rvs_cons k3 Go.Vc.rvs_nil)))) (c_law5_SealNonces p q g h )).mono fun e W' ⟨he, bel⟩ => ?_
  subst he
  exact ⟨_, rfl, Go.Vc.post_true (tb := 4) laidOut (by kernel_rfl) rfl Try.underlying4 rfl hW' rfl bel⟩
theorem over : Rows.sealNoncesRow.holds Try.pinned (OpenSpec.ofChange Rows.sealNoncesSpec) :=
  OpenClaim.holds_of_wide 24 Try.f24 rfl rfl rfl rfl rfl rfl rfl ⟨rfl, rfl, rfl, rfl, rfl⟩ rfl rfl rfl rfl rfl (by kernel_rfl) Try.func24 (Go.Vc.joined_of p_laidOut p_maps p_stops p_knobs p_heard p_mayEnter p_lifts p_make rfl rfl (by kernel_rfl) (by kernel_rfl) (by kernel_rfl) (by kernel_rfl) (by kernel_rfl) (by kernel_rfl) (by kernel_rfl) (by kernel_rfl) (by kernel_rfl) (by kernel_rfl) (by kernel_rfl) (by kernel_rfl) (by kernel_rfl) (by kernel_rfl) (by kernel_rfl) (by kernel_rfl) (by kernel_rfl) (by kernel_rfl) (by kernel_rfl) (by kernel_rfl) (by kernel_rfl) (by kernel_rfl) (by kernel_rfl) (by kernel_rfl) )
    (of_decide_eq_true (by kernel_rfl)) (by unfold Func.isWrapper; first | (rw [if_pos (by decide +kernel)]; kernel_rfl) | (rw [if_neg (by decide +kernel)]; exact ⟨rfl, rfl⟩))
    (fun os started H enc _ => lifted os started H enc)
theorem proved : Rows.SealNoncesSaid := over
#print axioms proved
end Go.Proofs.Ytmldccfchnlpgaa.sealNonces

