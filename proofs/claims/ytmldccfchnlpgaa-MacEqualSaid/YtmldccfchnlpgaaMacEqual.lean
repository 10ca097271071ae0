/- The given statement is proved: for every input the law's function answers true. No condition. -/
import Derived.Test.YtmldccfchnlpgaaRows
import Derived.Test.YtmldccfchnlpgaaPart6
import Derived.Test.YtmldccfchnlpgaaPart4
import Derived.WalkKit
import Derived.HandedShaped
import Derived.ProofKit
import Derived.OpenShut
import Derived.ShutString
set_option linter.unusedVariables false
set_option linter.unusedSimpArgs false
set_option maxRecDepth 100000
set_option maxHeartbeats 1000000
namespace Go.Proofs.Ytmldccfchnlpgaa
open Go Go.Vc
theorem me_j (a : List UInt8) (p : UInt8) : real.remi (real.wrapi (real.toI8 p)) (real.int (real.lenB a)) = real.int (p.toNat % a.length) := by
  have ha := p.toNat_lt
  have e : real.wrapi (real.toI8 p) = (p.toNat : Int) := by
    show IntKind.i64.wrap ((p.toNat : Nat) : Int) = _
    rw [wrap_sm (by omega) (by omega)]
  rw [e]
  rfl
theorem me_self (a : List UInt8) : real.pB (us.meq a a) true := by
  show decide (a = a) = true
  exact decide_eq_true rfl
theorem me_p0 {a : List UInt8} (h : ¬ real.pB (real.eqi (real.int (real.lenB a)) (real.int 0)) true) : 0 < a.length := by
  have h1 : ¬ (((a.length : Int) == 0) = true) := h
  have h2 : (a.length : Int) ≠ 0 := by simpa using h1
  omega
theorem me_sub {a : List UInt8} (hp : 0 < a.length) (hl : a.length ≤ 100) (j : Nat) (x : UInt8) : real.subi (real.int (real.lenB (real.setB a j x))) (real.int 1) = real.int (a.length - 1) := by
  have e : real.lenB (real.setB a j x) = a.length := List.length_set ..
  rw [e]
  exact subiN (i := a.length) (k := 1) (by omega) (by omega)
theorem me_q {a : List UInt8} (hp : 0 < a.length) (hl : a.length ≤ 100) (j : Nat) (x : UInt8) : real.p0 (real.subi (real.int (real.lenB (real.setB a j x))) (real.int 1)) := by
  rw [me_sub hp hl]
  exact Int.natCast_nonneg _
theorem me_cut {a : List UInt8} (hp : 0 < a.length) (hl : a.length ≤ 100) (j : Nat) (x : UInt8) : us.meq a (real.cutB (real.setB a j x) 0 (real.nat (real.subi (real.int (real.lenB (real.setB a j x))) (real.int 1)))) = false := by
  rw [me_sub hp hl]
  show decide (a = ((a.set j x).drop 0).take (a.length - 1)) = false
  refine decide_eq_false fun h => ?_
  have h2 := congrArg List.length h
  rw [List.length_take, List.drop_zero, List.length_set] at h2
  omega
theorem me_turn (t : List UInt8) (i : Nat) (c : UInt8) (h : i < t.length) : t.set i (t.getD i 0 ^^^ c) = t ↔ c = 0 := by
  have hg : t.getD i 0 = t[i] := by rw [List.getD_eq_getElem?_getD, List.getElem?_eq_getElem h]; rfl
  constructor
  · intro e
    have e2 : (t.set i (t.getD i 0 ^^^ c))[i]? = t[i]? := by rw [e]
    rw [List.getElem?_set_self h, List.getElem?_eq_getElem h, hg] at e2
    have e3 : t[i] ^^^ c = t[i] := Option.some.inj e2
    have e4 : t[i] ^^^ (t[i] ^^^ c) = t[i] ^^^ t[i] := by rw [e3]
    rw [← UInt8.xor_assoc, UInt8.xor_self, UInt8.zero_xor] at e4
    exact e4
  · intro e
    subst e
    rw [UInt8.xor_zero, hg, List.set_getElem_self]
theorem me_set {a : List UInt8} {j : Nat} (hj : j < a.length) (c : UInt8) : us.meq a (real.setB a (real.nat (real.int j)) (real.xor8 (real.getB a (real.nat (real.int j))) c)) = decide (c = 0) := by
  show decide (a = a.set j (a.getD j 0 ^^^ c)) = decide (c = 0)
  have h := me_turn a j c hj
  by_cases e : c = 0
  · rw [decide_eq_true e, decide_eq_true (h.2 e).symm]
  · rw [decide_eq_false e, decide_eq_false (fun q => e (h.1 q.symm))]
theorem me_c0 {c : UInt8} (h : ¬ real.pB (real.eq8 c (real.ofI8 (real.int 0))) false) : c = 0 := by
  have h1 : ¬ ((c == 0) = false) := h
  simpa using h1
theorem me_c1 {c : UInt8} (h : ¬ real.pB (real.eq8 c (real.ofI8 (real.int 0))) true) : c ≠ 0 := by
  have h1 : ¬ ((c == 0) = true) := h
  simpa using h1
theorem me_f {x : Bool} (h : x = false) : real.pB (real.eqb x false) true := by subst h; rfl
theorem me_t {x : Bool} (h : x = true) : real.pB (real.eqb x (real.notb false)) true := by subst h; rfl
theorem me_sym (a b : List UInt8) : real.eqb (us.meq b a) (us.meq a b) = true := by
  show (decide (b = a) == decide (a = b)) = true
  by_cases h : a = b
  · subst h; simp
  · rw [decide_eq_false h, decide_eq_false (fun e => h e.symm)]; rfl
end Go.Proofs.Ytmldccfchnlpgaa
namespace Go.Proofs.Ytmldccfchnlpgaa
open Go Go.Vc
noncomputable def sp_law3_MacEqual (F : Fs) (U : Us) : Specs := [(59, s_law3_known F U), (63, s_mac_Equal F U)]
theorem ok_law3_MacEqual : SpecsOK Try.prog (sp_law3_MacEqual real us) := sp_cons r_law3_known k_law3_known (sp_cons r_mac_Equal k_mac_Equal sp_nil)
noncomputable def x_law3_MacEqual (F : Fs) (U : Us) : Cx := ⟨Try.f18.ntmps, tt F, sp_law3_MacEqual F U, [], [], [], []⟩
theorem c_law3_MacEqual (a : List UInt8) (p c : UInt8) (cut : Bool) (q0 : a.length ≤ 140737488351232) : vc real (x_law3_MacEqual real us) [] [] (Try.f18.body.getD .skip) ⟨zipSl 0 [.rb 1 (.bt a), .w8 p, .w8 c, .b cut], [], 64⟩ (retOk real (tt real) false Try.f18.results.toList [.val (.b true)]) := by
  generalize hU : us = U
  generalize hF : real = F
  have b1 : F.pB (U.meq a a) true := by subst hF hU; exact me_self a
  have b2 : ∀ x, F.eqb (U.meq x a) (U.meq a x) = true := by subst hF hU; exact me_sym a
  obtain ⟨j, hjd⟩ : ∃ j, p.toNat % a.length = j := ⟨_, rfl⟩
  have hj : 0 < a.length → j < a.length := by rw [← hjd]; exact fun h => Nat.mod_lt _ h
  have e1 : F.remi (F.wrapi (F.toI8 p)) (F.int (F.lenB a)) = F.int j := by rw [← hjd]; subst hF; exact me_j a p
  have h0 : ¬ F.pB (F.eqi (F.int (F.lenB a)) (F.int 0)) true → 0 < a.length := by subst hF; exact me_p0
  have h100 : ¬ F.pB (F.lti (F.int 100) (F.int (F.lenB a))) true → a.length ≤ 100 := by subst hF; exact ge_g (j := 100)
  cbv
  repeat' first | apply And.intro | refine Classical.or_iff_not_imp_left.2 (fun _ => ?_) | exact trivial
  all_goals (try simp only [e1] at *)
  all_goals try (subst hF hU; simp only [real, us, Nat.le_eq, Int.cast_ofNat_Int, decide_eq_false_iff_not, decide_eq_true_eq, List.length_take, List.length_drop, List.length_append, List.length_replicate, List.length_set, List.length_cons, List.length_nil, List.length_zipWith] at *; (try simp (disch := omega) only [wrap_sm] at *); omega)
  all_goals first
    | exact b2 _
    | (rename_i h; exact absurd b1 h)
    | skip
  · rename_i g1 g2; have z := h0 g1; subst hF; show ¬ ((a.length : Int) = 0); omega
  · rename_i g1 g2; have z := hj (h0 g1); subst hF; exact inF rfl (n := a.length) z
  · rename_i g1 g2; have z := hj (h0 g1); subst hF; exact z
  · rename_i g1 g2; have z := hj (h0 g1); subst hF; exact inF rfl (n := a.length) z
  · rename_i g1 g2; have z := hj (h0 g1); subst hF; exact z
  · rename_i g1 g2 g3
    have z := h0 g1; have z2 := h100 g2; subst hF
    exact me_q z z2 _ _
  · rename_i g1 g2 g3 g4 g5
    have z := h0 g1; have z2 := h100 g2
    have hcut : cut = true := trueF hF g3
    subst hcut hF hU
    exact absurd (me_f (me_cut z z2 _ _)) g5
  · rename_i g1 g2 g3 g4 g5
    have z := h0 g1; have z2 := h100 g2
    subst hF hU
    exact absurd (me_f (me_cut z z2 _ _)) g5
  · rename_i g1 g2 g3 g4 g5
    have z := hj (h0 g1)
    have hcut : cut = false := falseF hF g3
    subst hcut hF hU
    have e := me_c0 g4
    exact absurd (me_t ((me_set z c).trans (decide_eq_true e))) g5
  · rename_i g1 g2 g3 g4 g5
    have z := hj (h0 g1)
    subst hF hU
    have e := me_c1 g4
    exact absurd (me_f ((me_set z c).trans (decide_eq_false e))) g5
end Go.Proofs.Ytmldccfchnlpgaa
namespace Go.Proofs.Ytmldccfchnlpgaa.macEqual
open Go.ChangeShapes Go.WideShapes Go.ChangeAt Go.RowKit
set_option linter.unusedVariables false
theorem own : ownKnob Try.prog.godebug = none := by kernel_rfl
theorem laidOut : laidOutB Try.prog = true := p_laidOut
set_option maxRecDepth 100000 in
theorem lifted (os : Os) (started : os.Started) (H : Type) (enc : TypeId × Value → H) :
    ReturnsInHanded {} Try.checked os 18 .any (Rows.macEqualSpec.pre6 enc Try.prog Try.f18 Rows.macEqualRow.domain false) (Rows.macEqualSpec.post enc Try.prog Try.f18 false true false false) := by
  refine returnsInHanded_of_change_shaped (C := Try.checked) own started (by kernel_rfl) Try.func18
    (ChangeSpec.witness6 (enc := enc) (C := Try.checked) false ⟨#[], #[.slice none 0 0, .int .u8 0, .int .u8 0, .bool false], []⟩ 8 (by kernel_rfl) (by kernel_rfl) (by kernel_rfl) (by kernel_rfl)) ?_
  intro W base args ds gs before hval0 hW hcnd hrch hsh _
  have hval : ∀ (j : Nat) t v, Try.f18.params[j]? = some t → args[j]? = some v → Value.okWide Try.prog W .any base t v := hval0
  have hW' := hW
  obtain ⟨p, q, hA0, hV, rfl, hfz, hnd⟩ := hW
  have hA : DataW.TrodAll enc Try.prog W 0 (fun _ => true) true Try.f18.params.toList args.toList ds p := hA0
  rw [Try.params18] at hA hval
  obtain ⟨v0, vs0, d0, ds0, p0, q0, hargs, rfl, rfl, h0, r0⟩ := trodAll_cons hA
  obtain ⟨v1, vs1, d1, ds1, p1, q1, rfl, rfl, rfl, h1, r1⟩ := trodAll_cons r0
  obtain ⟨v2, vs2, d2, ds2, p2, q2, rfl, rfl, rfl, h2, r2⟩ := trodAll_cons r1
  obtain ⟨v3, vs3, d3, ds3, p3, q3, rfl, rfl, rfl, h3, r3⟩ := trodAll_cons r2
  obtain ⟨rfl, rfl, rfl⟩ := trodAll_nil r3
  obtain rfl : args = #[v0, v1, v2, v3] := by cases args; simp_all
  obtain ⟨rfl, rfl⟩ := trodVars_none hV
  obtain ⟨a, k0, q0⟩ := Go.Vc.openL8 Try.underlying27 Try.underlying5 (by kernel_rfl) (hval 0 27 v0 rfl rfl) h0
  replace q0 := Go.Vc.reach8 Try.underlying27 k0 h0 (R := reachBytes) (fun elems spare hd => by
    have hz := sized_slice hrch (j := 0) (t := 27) (e := 5) (elems := elems) (spare := spare) (by rw [Try.params18]; rfl) (by rw [hd]; rfl) Try.underlying27
    rw [show Try.checked.prog.bytesOf 5 = 1 by kernel_rfl, Nat.mul_one] at hz
    exact hz)
  obtain ⟨p, k1⟩ := Go.Vc.open8 Try.underlying5 (hval 1 5 v1 rfl rfl) h1
  obtain ⟨c, k2⟩ := Go.Vc.open8 Try.underlying5 (hval 2 5 v2 rfl rfl) h2
  obtain ⟨cut, k3⟩ := Go.Vc.openB Try.underlying4 (hval 3 4 v3 rfl rfl) h3
  clear hA0 hval0
  refine (Go.Vc.law_walk2 (x := x_law3_MacEqual Go.Vc.real us) (an := []) (cu := []) (l := [.rb 1 (.bt a), .w8 p, .w8 c, .b cut]) (vals := [v0, v1, v2, v3]) ⟨tt_ok, ok_law3_MacEqual, Go.Vc.ks_nil⟩ mixed Try.func18 rfl rfl (by kernel_rfl) hsh (Nat.le_of_ble_eq_true rfl) (Go.Vc.rvs_cons k0 (Go.Vc.rvs_cons k1 (Go.Vc.rvs_cons k2 (Go.Vc.rvs_cons k3 Go.Vc.rvs_nil)))) (c_law3_MacEqual a p c cut q0)).mono fun e W' ⟨he, bel⟩ => ?_
  subst he
  exact ⟨_, rfl, Go.Vc.post_true (tb := 4) laidOut (by kernel_rfl) rfl Try.underlying4 rfl hW' rfl bel⟩
theorem over : Rows.macEqualRow.holds Try.pinned (OpenSpec.ofChange Rows.macEqualSpec) :=
  OpenClaim.holds_of_wide 18 Try.f18 rfl rfl rfl rfl rfl rfl rfl ⟨rfl, rfl, rfl, rfl, rfl⟩ rfl rfl rfl rfl rfl (by kernel_rfl) Try.func18 (Go.Vc.joined_of p_laidOut p_maps p_stops p_knobs p_heard p_mayEnter p_lifts p_make rfl rfl (by kernel_rfl) (by kernel_rfl) (by kernel_rfl) (by kernel_rfl) (by kernel_rfl) (by kernel_rfl) (by kernel_rfl) (by kernel_rfl) (by kernel_rfl) (by kernel_rfl) (by kernel_rfl) (by kernel_rfl) (by kernel_rfl) (by kernel_rfl) (by kernel_rfl) (by kernel_rfl) (by kernel_rfl) (by kernel_rfl) (by kernel_rfl) (by kernel_rfl) (by kernel_rfl) (by kernel_rfl) (by kernel_rfl) (by kernel_rfl) )
    (of_decide_eq_true (by kernel_rfl)) (by unfold Func.isWrapper; first | (rw [if_pos (by decide +kernel)]; kernel_rfl) | (rw [if_neg (by decide +kernel)]; exact ⟨rfl, rfl⟩))
    (fun os started H enc _ => lifted os started H enc)
theorem proved : Rows.MacEqualSaid := over
#print axioms proved
end Go.Proofs.Ytmldccfchnlpgaa.macEqual

