/- The given statement is proved: for every input the law's function answers true. No condition. -/
import Derived.Test.YtmldccfchnlpgaaRows
import Derived.Test.YtmldccfchnlpgaaPart6
import Derived.Test.YtmldccfchnlpgaaPart7
import Derived.WalkKit
import Derived.ProofKit
import Derived.OpenShut
import Derived.ShutString
set_option linter.unusedVariables false
set_option linter.unusedSimpArgs false
set_option maxRecDepth 100000
set_option maxHeartbeats 1000000
namespace Go.Proofs.Ytmldccfchnlpgaa
open Go Go.Vc
attribute [local irreducible] u_mac u_sum u_mdv u_seal u_nonce u_enc u_tag u_opB u_opE u_wrp u_uwE u_uwK
theorem sl_j (a : UInt8) {p : List UInt8} (h : p.length ≤ 150) : real.remi (real.wrapi (real.toI8 a)) (real.int (real.lenB p)) = real.int (a.toNat % p.length) := by
  have ha := a.toNat_lt
  have e : real.wrapi (real.toI8 a) = (a.toNat : Int) := by
    show IntKind.i64.wrap ((a.toNat : Nat) : Int) = _
    rw [wrap_sm (by omega) (by omega)]
  rw [e]
  rfl
theorem sl_ne {p : List UInt8} (h : ¬ real.pB (real.eqi (real.int (real.lenB p)) (real.int 0)) true) : 0 < p.length := by
  have h1 : ¬ (real.eqi (real.int (real.lenB p)) (real.int 0) = true) := h
  rw [eqi_iff] at h1
  have h2 : ((p.length : Nat) : Int) ≠ 0 := h1
  omega
theorem sl_len {k n aad p : List UInt8} (hp : p.length ≤ 150) : real.pB (real.notb (real.eqi (real.int (real.lenB (us.sel k n aad p))) (real.addi (real.int (real.lenB p)) (real.int 16)))) false := by
  have e : real.addi (real.int (real.lenB p)) (real.int 16) = real.int (p.length + 16) := addiN (i := p.length) (by omega) (by omega)
  have h : real.lenB (us.sel k n aad p) = p.length + 16 := selLen k n aad p
  rw [e, h]
  show (!real.eqi _ _) = false
  rw [eqI rfl]
  rfl
theorem sl_len2 (k n aad p : List UInt8) (j : Nat) (x : UInt8) : real.pB (real.notb (real.eqi (real.int (real.lenB (us.sel k n aad (real.setB p j x)))) (real.int (real.lenB (us.sel k n aad p))))) false := by
  have h : real.lenB (us.sel k n aad p) = p.length + 16 := selLen k n aad p
  have h2 : real.lenB (us.sel k n aad (real.setB p j x)) = p.length + 16 := by
    have := selLen k n aad (real.setB p j x)
    rw [show (real.setB p j x).length = p.length from List.length_set ..] at this
    exact this
  rw [h, h2]
  show (!real.eqi _ _) = false
  rw [eqI rfl]
  rfl
theorem sl_get {k n aad p : List UInt8} {i : Nat} (h : i < p.length) : real.getB (us.sel k n aad p) (real.nat (real.int i)) = (u_enc k n p).getD i 0 := by
  have hl := enc_len k n p
  have e : us.sel k n aad p = u_enc k n p ++ u_tag k n aad (u_enc k n p) := by
    show u_seal k n aad p = _
    unfold u_seal
    rfl
  show (us.sel k n aad p).getD i 0 = _
  rw [e, List.getD_eq_getElem?_getD, List.getElem?_append_left (by omega), ← List.getD_eq_getElem?_getD]
theorem sl_x {k n aad p : List UInt8} (a b : UInt8) {i : Nat} (h : i < p.length) : real.xor8 (real.getB (us.sel k n aad p) (real.nat (real.int i))) (real.getB (us.sel k n aad (real.setB p (real.nat (real.int (a.toNat % p.length))) (real.xor8 (real.getB p (real.nat (real.int (a.toNat % p.length)))) b))) (real.nat (real.int i))) = if i = a.toNat % p.length then b else 0 := by
  have hj : a.toNat % p.length < p.length := Nat.mod_lt _ (by omega)
  generalize a.toNat % p.length = j at hj
  have hs : (real.setB p (real.nat (real.int j)) (real.xor8 (real.getB p (real.nat (real.int j))) b)).length = p.length := List.length_set ..
  rw [sl_get h, sl_get (by omega)]
  show ((u_enc k n p).getD i 0 ^^^ _) = _
  rw [enc_get k n p _ i h (by omega)]
  show (p.getD i 0 ^^^ (p.set j (p.getD j 0 ^^^ b)).getD i 0) = _
  by_cases e : i = j
  · subst e
    rw [if_pos rfl]
    rw [List.getD_eq_getElem?_getD (l := p.set i _), List.getElem?_set_self (by omega)]
    show p.getD i 0 ^^^ (p.getD i 0 ^^^ b) = b
    rw [← UInt8.xor_assoc, UInt8.xor_self, UInt8.zero_xor]
  · rw [if_neg e, List.getD_eq_getElem?_getD (l := p.set j _), List.getElem?_set_ne (fun h => e h.symm), ← List.getD_eq_getElem?_getD, UInt8.xor_self]
theorem sl_b1 {k n aad p : List UInt8} (a b : UInt8) {i : Nat} (h : i < p.length) (h1 : ¬ real.pB (real.eqi (real.int i) (real.int (a.toNat % p.length))) false) : real.pB (real.notb (real.eqb (real.notb (real.eq8 (real.xor8 (real.getB (us.sel k n aad p) (real.nat (real.int i))) (real.getB (us.sel k n aad (real.setB p (real.nat (real.int (a.toNat % p.length))) (real.xor8 (real.getB p (real.nat (real.int (a.toNat % p.length)))) b))) (real.nat (real.int i)))) (real.ofI8 (real.int 0)))) (real.notb (real.eq8 b (real.ofI8 (real.int 0)))))) false := by
  have e : i = a.toNat % p.length := by
    have := (eqi_iff _ _).1 (trueF rfl h1)
    have h2 : ((i : Nat) : Int) = ((a.toNat % p.length : Nat) : Int) := this
    omega
  rw [sl_x a b h, if_pos e]
  show (!(real.eqb _ _)) = false
  rw [eqb_iff Iff.rfl]
  rfl
theorem sl_b2 {k n aad p : List UInt8} (a b : UInt8) {i : Nat} (h : i < p.length) (h1 : ¬ real.pB (real.eqi (real.int i) (real.int (a.toNat % p.length))) true) : real.pB (real.notb (real.eqb (real.notb (real.eq8 (real.xor8 (real.getB (us.sel k n aad p) (real.nat (real.int i))) (real.getB (us.sel k n aad (real.setB p (real.nat (real.int (a.toNat % p.length))) (real.xor8 (real.getB p (real.nat (real.int (a.toNat % p.length)))) b))) (real.nat (real.int i)))) (real.ofI8 (real.int 0)))) false)) false := by
  have e : i ≠ a.toNat % p.length := by
    intro e
    apply h1
    show real.eqi _ _ = true
    rw [eqi_iff, e]
  rw [sl_x a b h, if_neg e]
  rfl
end Go.Proofs.Ytmldccfchnlpgaa
attribute [local irreducible] Go.Proofs.Ytmldccfchnlpgaa.u_mac Go.Proofs.Ytmldccfchnlpgaa.u_sum Go.Proofs.Ytmldccfchnlpgaa.u_mdv Go.Proofs.Ytmldccfchnlpgaa.u_seal Go.Proofs.Ytmldccfchnlpgaa.u_nonce Go.Proofs.Ytmldccfchnlpgaa.u_enc Go.Proofs.Ytmldccfchnlpgaa.u_tag Go.Proofs.Ytmldccfchnlpgaa.u_opB Go.Proofs.Ytmldccfchnlpgaa.u_opE Go.Proofs.Ytmldccfchnlpgaa.u_wrp Go.Proofs.Ytmldccfchnlpgaa.u_uwE Go.Proofs.Ytmldccfchnlpgaa.u_uwK
namespace Go.Proofs.Ytmldccfchnlpgaa
open Go Go.Vc
noncomputable def sp_law5_SealLengths (F : Fs) (U : Us) : Specs := [(68, s_law5_known F U), (69, s_seal_NonceOf F U), (77, s_seal_Seal F U), (70, s_seal_Open F U), (72, s_seal_Unwrap F U), (79, s_seal_Wrap F U), (75, s_seal_TagOf F U)]
theorem ok_law5_SealLengths : SpecsOK Try.prog (sp_law5_SealLengths real us) := sp_cons r_law5_known k_law5_known (sp_cons r_seal_NonceOf k_seal_NonceOf (sp_cons r_seal_Seal k_seal_Seal (sp_cons r_seal_Open k_seal_Open (sp_cons r_seal_Unwrap k_seal_Unwrap (sp_cons r_seal_Wrap k_seal_Wrap (sp_cons r_seal_TagOf k_seal_TagOf sp_nil))))))
noncomputable def an_law5_SealLengths (F : Fs) (U : Us) (k n aad p : List UInt8) (a b : UInt8) : Anns := [(12, ⟨Nat, fun i => F.pLe i (F.lenB p), fun i => F.subn (F.lenB p) i, fun i => ⟨[(3, .rb 1 (.bt p)), (5, .w8 b), (14, .i (F.remi (F.wrapi (F.toI8 a)) (F.int (F.lenB p)))), (15, .rw 0), (16, .rw 1), (17, .i (F.int i))], [(15, 0, .row 5 1 (.bt (U.sel k n aad p))), (16, 1, .row 5 1 (.bt (U.sel k n aad (F.setB p (F.nat (F.remi (F.wrapi (F.toI8 a)) (F.int (F.lenB p)))) (F.xor8 (F.getB p (F.nat (F.remi (F.wrapi (F.toI8 a)) (F.int (F.lenB p))))) b)))))]⟩⟩)]
noncomputable def x_law5_SealLengths (F : Fs) (U : Us) : Cx := ⟨Try.f25.ntmps, tt F, sp_law5_SealLengths F U, [], [(8, ([(1, [0]), (5, [0, 1, 4]), (6, [0, 1, 4, 5])], [])), (14, ([(6, [2, 3]), (7, [2, 3])], []))], [], []⟩
theorem c_law5_SealLengths (k n aad p : List UInt8) (a b : UInt8) (q0 : k.length = 32) (q1 : n.length = 12) (q2 : aad.length ≤ 9223372036854775807) (q3 : p.length ≤ 9223372036854775807) : vc real (x_law5_SealLengths real us) (an_law5_SealLengths real us k n aad p a b) [] (Try.f25.body.getD .skip) ⟨zipSl 0 [.ag 32 (.bt k), .ag 12 (.bt n), .rb 1 (.bt aad), .rb 1 (.bt p), .w8 a, .w8 b], [], 64⟩ (retOk real (tt real) false Try.f25.results.toList [.val (.b true)]) := by
  generalize hU : us = U
  generalize hF : real = F
  have g0 : ¬ F.pB (F.eqi (F.int (F.lenB p)) (F.int 0)) true → 0 < p.length := by subst hF; exact sl_ne
  have g1 : ¬ F.pB (F.lti (F.int 150) (F.int (F.lenB p))) true → p.length ≤ 150 := by subst hF; exact ge_g (j := 150)
  by_cases hp : p.length ≤ 150 ∧ 0 < p.length
  · obtain ⟨hp, hp0⟩ := hp
    obtain ⟨j, hjd⟩ : ∃ j, a.toNat % p.length = j := ⟨_, rfl⟩
    have hj : j < p.length := by rw [← hjd]; exact Nat.mod_lt _ hp0
    have e1 : F.remi (F.wrapi (F.toI8 a)) (F.int (F.lenB p)) = F.int j := by rw [← hjd]; subst hF; exact sl_j a hp
    have b1 : F.pB (F.notb (F.eqi (F.int (F.lenB (U.sel k n aad p))) (F.addi (F.int (F.lenB p)) (F.int 16)))) false := by subst hF hU; exact sl_len hp
    have b2 : ∀ j x, F.pB (F.notb (F.eqi (F.int (F.lenB (U.sel k n aad (F.setB p j x)))) (F.int (F.lenB (U.sel k n aad p))))) false := by subst hF hU; exact sl_len2 k n aad p
    clear g0 g1
    cbv
    repeat' first | apply And.intro | refine Classical.or_iff_not_imp_left.2 (fun _ => ?_) | exact trivial
    all_goals (try simp only [e1] at *)
    all_goals try (subst hF hU; simp only [real, us, Nat.le_eq, Int.cast_ofNat_Int, decide_eq_false_iff_not, decide_eq_true_eq, List.length_take, List.length_drop, List.length_append, List.length_replicate, List.length_set, List.length_cons, List.length_nil, List.length_zipWith] at *; (try simp (disch := omega) only [wrap_sm] at *); omega)
    all_goals first
      | (subst hU; exact q0)
      | (subst hU; exact q1)
      | (subst hF; show ¬ ((p.length : Int) = 0); omega)
      | (exfalso; rename_i h; exact absurd b1 h)
      | (exfalso; rename_i h; exact absurd (b2 _ _) h)
      | skip
    · refine ⟨(0 : Nat), ?_⟩
      clear b1 b2
      cbv; subst hF hU
      exact ⟨Nat.zero_le _, trivial⟩
    · clear b1 b2
      intro (i : Nat) hi
      have h1 : i ≤ p.length := by subst hF; exact hi
      have hs1 := seal_len k n aad p
      have hs2 : (us.sel k n aad (real.setB p (real.nat (real.int j)) (real.xor8 (real.getB p (real.nat (real.int j))) b))).length = p.length + 16 := by
        have := seal_len k n aad (p.set j (p.getD j 0 ^^^ b))
        rw [List.length_set] at this
        exact this
      clear hi
      cbv
      repeat' first | apply And.intro | refine Classical.or_iff_not_imp_left.2 (fun _ => ?_) | exact trivial
      all_goals (try simp only [e1] at *)
      all_goals try (subst hF hU; simp only [real, us, Nat.le_eq, Int.cast_ofNat_Int, decide_eq_false_iff_not, decide_eq_true_eq, List.length_take, List.length_drop, List.length_append, List.length_replicate, List.length_set, List.length_cons, List.length_nil, List.length_zipWith] at *; (try simp (disch := omega) only [wrap_sm] at *); omega)
      · rename_i g1 g2 g3
        subst hF hU hjd
        exact absurd (sl_b1 a b (lt_g (n := p.length) g1) g2) g3
      · rename_i g1 g2 g3
        refine ⟨(i + 1 : Nat), ?_⟩
        clear g2 g3
        cbv; subst hF hU
        have hlt := lt_g (n := p.length) g1
        exact ⟨hlt, sub_stepN hlt, ⟨addi1 (by omega), trivial⟩, trivial⟩
      · rename_i g1 g2 g3
        subst hF hU hjd
        exact absurd (sl_b2 a b (lt_g (n := p.length) g1) g2) g3
      · rename_i g1 g2 g3
        refine ⟨(i + 1 : Nat), ?_⟩
        clear g2 g3
        cbv; subst hF hU
        have hlt := lt_g (n := p.length) g1
        exact ⟨hlt, sub_stepN hlt, ⟨addi1 (by omega), trivial⟩, trivial⟩
  · have b0 : ¬ F.pB (F.eqi (F.int (F.lenB p)) (F.int 0)) true → ¬ F.pB (F.lti (F.int 150) (F.int (F.lenB p))) true → False := fun h1 h2 => hp ⟨g1 h2, g0 h1⟩
    cbv
    repeat' first | apply And.intro | refine Classical.or_iff_not_imp_left.2 (fun _ => ?_) | exact trivial
    all_goals try (subst hF hU; simp only [real, us, Nat.le_eq, Int.cast_ofNat_Int, decide_eq_false_iff_not, decide_eq_true_eq, List.length_take, List.length_drop, List.length_append, List.length_replicate, List.length_set, List.length_cons, List.length_nil, List.length_zipWith] at *; (try simp (disch := omega) only [wrap_sm] at *); omega)
    all_goals exact absurd (by assumption) (b0 (by assumption))
end Go.Proofs.Ytmldccfchnlpgaa
namespace Go.Proofs.Ytmldccfchnlpgaa.sealLengths
open Go.ChangeShapes Go.WideShapes Go.ChangeAt Go.RowKit
set_option linter.unusedVariables false
theorem own : ownKnob Try.prog.godebug = none := by kernel_rfl
theorem laidOut : laidOutB Try.prog = true := p_laidOut
set_option maxRecDepth 100000 in
theorem lifted (os : Os) (started : os.Started) (H : Type) (enc : TypeId × Value → H) :
    ReturnsInHanded {} Try.checked os 25 .any (Rows.sealLengthsSpec.pre6 enc Try.prog Try.f25 Rows.sealLengthsRow.domain false) (Rows.sealLengthsSpec.post enc Try.prog Try.f25 false true false false) := by
  refine returnsInHanded_of_change (C := Try.checked) own started (by kernel_rfl) Try.func25
    (ChangeSpec.witness6 (enc := enc) (C := Try.checked) false ⟨#[], #[.agg #[.int .u8 0, .int .u8 0, .int .u8 0, .int .u8 0, .int .u8 0, .int .u8 0, .int .u8 0, .int .u8 0, .int .u8 0, .int .u8 0, .int .u8 0, .int .u8 0, .int .u8 0, .int .u8 0, .int .u8 0, .int .u8 0, .int .u8 0, .int .u8 0, .int .u8 0, .int .u8 0, .int .u8 0, .int .u8 0, .int .u8 0, .int .u8 0, .int .u8 0, .int .u8 0, .int .u8 0, .int .u8 0, .int .u8 0, .int .u8 0, .int .u8 0, .int .u8 0], .agg #[.int .u8 0, .int .u8 0, .int .u8 0, .int .u8 0, .int .u8 0, .int .u8 0, .int .u8 0, .int .u8 0, .int .u8 0, .int .u8 0, .int .u8 0, .int .u8 0], .slice none 0 0, .slice none 0 0, .int .u8 0, .int .u8 0], []⟩ 8 (by kernel_rfl) (by kernel_rfl) (by kernel_rfl) (by kernel_rfl)) ?_
  intro W base args ds gs before hval0 hW hcnd _
  have hval : ∀ (j : Nat) t v, Try.f25.params[j]? = some t → args[j]? = some v → Value.okWide Try.prog W .any base t v := hval0
  have hW' := hW
  obtain ⟨p, q, hA0, hV, rfl, hfz, hnd⟩ := hW
  have hA : DataW.TrodAll enc Try.prog W 0 (fun _ => true) true Try.f25.params.toList args.toList ds p := hA0
  rw [Try.params25] at hA hval
  obtain ⟨v0, vs0, d0, ds0, p0, q0, hargs, rfl, rfl, h0, r0⟩ := trodAll_cons hA
  obtain ⟨v1, vs1, d1, ds1, p1, q1, rfl, rfl, rfl, h1, r1⟩ := trodAll_cons r0
  obtain ⟨v2, vs2, d2, ds2, p2, q2, rfl, rfl, rfl, h2, r2⟩ := trodAll_cons r1
  obtain ⟨v3, vs3, d3, ds3, p3, q3, rfl, rfl, rfl, h3, r3⟩ := trodAll_cons r2
  obtain ⟨v4, vs4, d4, ds4, p4, q4, rfl, rfl, rfl, h4, r4⟩ := trodAll_cons r3
  obtain ⟨v5, vs5, d5, ds5, p5, q5, rfl, rfl, rfl, h5, r5⟩ := trodAll_cons r4
  obtain ⟨rfl, rfl, rfl⟩ := trodAll_nil r5
  obtain rfl : args = #[v0, v1, v2, v3, v4, v5] := by cases args; simp_all
  obtain ⟨rfl, rfl⟩ := trodVars_none hV
  obtain ⟨k, k0, q0⟩ := Go.Vc.openA8 Try.underlying24 Try.underlying5 (by kernel_rfl) (by kernel_rfl) (hval 0 24 v0 rfl rfl) h0
  obtain ⟨n, k1, q1⟩ := Go.Vc.openA8 Try.underlying26 Try.underlying5 (by kernel_rfl) (by kernel_rfl) (hval 1 26 v1 rfl rfl) h1
  obtain ⟨aad, k2, q2⟩ := Go.Vc.openL8 Try.underlying27 Try.underlying5 (by kernel_rfl) (hval 2 27 v2 rfl rfl) h2
  obtain ⟨p, k3, q3⟩ := Go.Vc.openL8 Try.underlying27 Try.underlying5 (by kernel_rfl) (hval 3 27 v3 rfl rfl) h3
  obtain ⟨a, k4⟩ := Go.Vc.open8 Try.underlying5 (hval 4 5 v4 rfl rfl) h4
  obtain ⟨b, k5⟩ := Go.Vc.open8 Try.underlying5 (hval 5 5 v5 rfl rfl) h5
  clear hA0 hval0
  refine (Go.Vc.law_walk2 (x := x_law5_SealLengths Go.Vc.real us) (an := (an_law5_SealLengths Go.Vc.real us k n aad p a b)) (cu := []) (l := [.ag 32 (.bt k), .ag 12 (.bt n), .rb 1 (.bt aad), .rb 1 (.bt p), .w8 a, .w8 b]) (vals := [v0, v1, v2, v3, v4, v5]) ⟨tt_ok, ok_law5_SealLengths, Go.Vc.ks_nil⟩ mixed Try.func25 rfl rfl (by kernel_rfl) (Nat.le_of_ble_eq_true rfl) (Go.Vc.rvs_cons k0 (Go.Vc.rvs_cons k1 (Go.Vc.rvs_cons k2 (Go.Vc.rvs_cons k3 (Go.Vc.rvs_cons k4 (Go.Vc.rvs_cons k5 Go.Vc.rvs_nil)))))) (c_law5_SealLengths k n aad p a b q0 q1 q2 q3)).mono fun e W' ⟨he, bel⟩ => ?_
  subst he
  exact ⟨_, rfl, Go.Vc.post_true (tb := 4) laidOut (by kernel_rfl) rfl Try.underlying4 rfl hW' rfl bel⟩
theorem over : Rows.sealLengthsRow.holds Try.pinned (OpenSpec.ofChange Rows.sealLengthsSpec) :=
  OpenClaim.holds_of_wide 25 Try.f25 rfl rfl rfl rfl rfl rfl rfl ⟨rfl, rfl, rfl, rfl, rfl⟩ rfl rfl rfl rfl rfl (by kernel_rfl) Try.func25 (Go.Vc.joined_of p_laidOut p_maps p_stops p_knobs p_heard p_mayEnter p_lifts p_make rfl rfl (by kernel_rfl) (by kernel_rfl) (by kernel_rfl) (by kernel_rfl) (by kernel_rfl) (by kernel_rfl) (by kernel_rfl) (by kernel_rfl) (by kernel_rfl) (by kernel_rfl) (by kernel_rfl) (by kernel_rfl) (by kernel_rfl) (by kernel_rfl) (by kernel_rfl) (by kernel_rfl) (by kernel_rfl) (by kernel_rfl) (by kernel_rfl) (by kernel_rfl) (by kernel_rfl) (by kernel_rfl) (by kernel_rfl) (by kernel_rfl) )
    (of_decide_eq_true (by kernel_rfl)) (by unfold Func.isWrapper; first | (rw [if_pos (by decide +kernel)]; kernel_rfl) | (rw [if_neg (by decide +kernel)]; exact ⟨rfl, rfl⟩))
    (fun os started H enc _ => lifted os started H enc)
theorem proved : Rows.SealLengthsSaid := over
#print axioms proved
end Go.Proofs.Ytmldccfchnlpgaa.sealLengths

