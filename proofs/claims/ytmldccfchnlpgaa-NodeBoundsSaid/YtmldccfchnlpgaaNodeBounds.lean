/- The given statement is proved: for every input the law's function answers true. No condition. -/
import Derived.Test.YtmldccfchnlpgaaRows
import Derived.Test.YtmldccfchnlpgaaPart6
import Derived.WalkKit
import Derived.ProofKit
import Derived.OpenShut
import Derived.ShutString
set_option linter.unusedVariables false
set_option linter.unusedSimpArgs false
set_option maxRecDepth 100000
set_option maxHeartbeats 1000000
namespace Go.Proofs.Ytmldccfchnlpgaa
open Go Go.Vc
noncomputable abbrev zK (k : UInt8) : List UInt8 := real.repB (real.nat (real.wrapi (real.toI8 k)))
theorem k_wrap (k : UInt8) : real.wrapi (real.toI8 k) = (k.toNat : Int) := by
  have h := k.toNat_lt
  show IntKind.i64.wrap ((k.toNat : Nat) : Int) = _
  rw [wrap_sm (by omega) (by omega)]
theorem zK_len (k : UInt8) : (zK k).length = k.toNat := by
  unfold zK
  rw [k_wrap]
  show (List.replicate _ _).length = _
  rw [List.length_replicate]; rfl
theorem leaf_one (x y : List UInt8) (hx : x.length < 256) (hy : y.length < 256) : u_leafE [.t [.s x, .s y]] = if 1 ≤ x.length ∧ x.length ≤ 60 ∧ y.length ≤ 150 then 0 else 90 := by
  have e1 : u_okN [.t [.s x, .s y]] 1 = (decide (1 ≤ x.length) && decide (x.length ≤ 60) && decide (y.length ≤ 150)) := by
    show (true && ((u_isKey x && decide (y.length ≤ 150)) && (decide (0 = 0) || _))) = _
    unfold u_isKey
    simp
  have e2 : u_nsz [.t [.s x, .s y]] 1 = min 100000 (3 + 4 + min 100000 (x.length : Int) + min 100000 (y.length : Int)) := rfl
  unfold u_leafE
  rw [show [D.t [D.s x, D.s y]].length = 1 from rfl, e1, e2]
  by_cases c : 1 ≤ x.length ∧ x.length ≤ 60 ∧ y.length ≤ 150
  · rw [if_pos c, if_neg (by simp; omega), if_neg (by omega)]
  · rw [if_neg c, if_pos (by simp; omega)]
theorem br_one (x : List UInt8) (hx : x.length < 256) (a b : UInt32) : u_brE [x] [a, b] = if 1 ≤ x.length ∧ x.length ≤ 60 then 0 else 90 := by
  have e1 : u_okK [x] 1 = (decide (1 ≤ x.length) && decide (x.length ≤ 60)) := by
    show (true && (u_isKey x && (decide (0 = 0) || _))) = _
    unfold u_isKey
    simp
  have e2 : u_bsz [x] 1 = min (7 + (x.length : Int) + 2 + 4) 100000 := rfl
  unfold u_brE
  rw [show [x].length = 1 from rfl, show [a, b].length = 2 from rfl, e1, e2]
  by_cases c : 1 ≤ x.length ∧ x.length ≤ 60
  · rw [if_pos c, if_neg (by simp; omega), if_neg (by omega)]
  · rw [if_neg c, if_pos (by simp; omega)]
noncomputable abbrev eV (k v : UInt8) : Int := us.leafE [.t [.s (zK k), .s (zK v)]]
noncomputable abbrev fV (k : UInt8) : Int := us.brE [zK k] [real.ofI32 (real.int 0), real.ofI32 (real.int 1)]
theorem eV_eq (k v : UInt8) : eV k v = if 1 ≤ k.toNat ∧ k.toNat ≤ 60 ∧ v.toNat ≤ 150 then 0 else 90 := by
  have hk := k.toNat_lt
  have hv := v.toNat_lt
  have h := leaf_one (zK k) (zK v) (by rw [zK_len]; omega) (by rw [zK_len]; omega)
  rw [zK_len, zK_len] at h
  exact h
theorem fV_eq (k : UInt8) : fV k = if 1 ≤ k.toNat ∧ k.toNat ≤ 60 then 0 else 90 := by
  have hk := k.toNat_lt
  have h := br_one (zK k) (by rw [zK_len]; omega) (real.ofI32 (real.int 0)) (real.ofI32 (real.int 1))
  rw [zK_len] at h
  exact h
theorem eV_two (k v : UInt8) : eV k v = 0 ∨ eV k v = 90 := by rw [eV_eq]; split <;> simp
theorem fV_two (k : UInt8) : fV k = 0 ∨ fV k = 90 := by rw [fV_eq]; split <;> simp
theorem ge_k {k : UInt8} (h : ¬ real.pB (real.le8 (real.ofI8 (real.int 1)) k) false) : 1 ≤ k.toNat := by
  have h1 : ¬ (decide ((1 : UInt8).toNat ≤ k.toNat) = false) := h
  simp at h1; omega
theorem lt_k {k : UInt8} (h : ¬ real.pB (real.le8 (real.ofI8 (real.int 1)) k) true) : ¬ 1 ≤ k.toNat := by
  have h1 : ¬ (decide ((1 : UInt8).toNat ≤ k.toNat) = true) := h
  simpa using h1
theorem le_k60 {k : UInt8} (h : ¬ real.pB (real.lei (real.wrapi (real.toI8 k)) (real.int 60)) false) : k.toNat ≤ 60 := by
  rw [k_wrap] at h
  have h1 : ¬ (decide ((k.toNat : Int) ≤ 60) = false) := h
  simp at h1; omega
theorem gt_k60 {k : UInt8} (h : ¬ real.pB (real.lei (real.wrapi (real.toI8 k)) (real.int 60)) true) : ¬ k.toNat ≤ 60 := by
  rw [k_wrap] at h
  have h1 : ¬ (decide ((k.toNat : Int) ≤ 60) = true) := h
  simp at h1; omega
theorem eqb_of {x y : Bool} (h : x = y) : real.pB (real.eqb x y) true := by subst h; cases x <;> rfl
theorem q1 {k v : UInt8} (h1 : ¬ real.pB (real.le8 (real.ofI8 (real.int 1)) k) false) (h2 : ¬ real.pB (real.lei (real.wrapi (real.toI8 k)) (real.int 60)) false) : real.pB (real.eqb (real.eqi (eV k v) (real.int 0)) (real.lei (real.wrapi (real.toI8 v)) (real.int 150))) true := by
  have a1 := ge_k h1
  have a2 := le_k60 h2
  apply eqb_of
  rw [k_wrap]
  show (eV k v == 0) = decide ((v.toNat : Int) ≤ 150)
  rw [eV_eq]
  by_cases c : v.toNat ≤ 150
  · rw [if_pos ⟨a1, a2, c⟩, decide_eq_true (by omega)]; rfl
  · rw [if_neg (fun h => c h.2.2), decide_eq_false (by omega)]; rfl
theorem q2 {k v : UInt8} (h1 : ¬ real.pB (real.le8 (real.ofI8 (real.int 1)) k) true) : real.pB (real.eqb (real.eqi (eV k v) (real.int 0)) false) true := by
  have a1 := lt_k h1
  apply eqb_of
  show (eV k v == 0) = false
  rw [eV_eq, if_neg (fun h => a1 h.1)]; rfl
theorem q3 {k v : UInt8} (h1 : ¬ real.pB (real.lei (real.wrapi (real.toI8 k)) (real.int 60)) true) : real.pB (real.eqb (real.eqi (eV k v) (real.int 0)) false) true := by
  have a1 := gt_k60 h1
  apply eqb_of
  show (eV k v == 0) = false
  rw [eV_eq, if_neg (fun h => a1 h.2.1)]; rfl
theorem q4 {k : UInt8} (h1 : ¬ real.pB (real.le8 (real.ofI8 (real.int 1)) k) false) : real.pB (real.eqb (real.eqi (fV k) (real.int 0)) (real.lei (real.wrapi (real.toI8 k)) (real.int 60))) true := by
  have a1 := ge_k h1
  apply eqb_of
  rw [k_wrap]
  show (fV k == 0) = decide ((k.toNat : Int) ≤ 60)
  rw [fV_eq]
  by_cases c : k.toNat ≤ 60
  · rw [if_pos ⟨a1, c⟩, decide_eq_true (by omega)]; rfl
  · rw [if_neg (fun h => c h.2), decide_eq_false (by omega)]; rfl
theorem q5 {k : UInt8} (h1 : ¬ real.pB (real.le8 (real.ofI8 (real.int 1)) k) true) : real.pB (real.eqb (real.eqi (fV k) (real.int 0)) false) true := by
  have a1 := lt_k h1
  apply eqb_of
  show (fV k == 0) = false
  rw [fV_eq, if_neg (fun h => a1 h.1)]; rfl
theorem mk1 (k : UInt8) : real.p0 (real.wrapi (real.toI8 k)) ∧ real.pMk (real.wrapi (real.toI8 k)) 1 := by
  have h := k.toNat_lt
  rw [k_wrap]
  show 0 ≤ (k.toNat : Int) ∧ (0 ≤ (k.toNat : Int) ∧ (k.toNat : Int) * ((1 : Nat) : Int) ≤ 281474976710656 ∧ (k.toNat : Int) ≤ 4611686018427387904)
  omega
attribute [local irreducible] u_leafE u_brE
end Go.Proofs.Ytmldccfchnlpgaa
namespace Go.Proofs.Ytmldccfchnlpgaa
open Go Go.Vc
noncomputable def sp_law8_NodeBounds (F : Fs) (U : Us) : Specs := [(48, s_law8_known F U), (49, s_node_Leaf F U), (50, s_node_Branch F U)]
theorem ok_law8_NodeBounds : SpecsOK Try.prog (sp_law8_NodeBounds real us) := sp_cons r_law8_known k_law8_known (sp_cons r_node_Leaf k_node_Leaf (sp_cons r_node_Branch k_node_Branch sp_nil))
noncomputable def x_law8_NodeBounds (F : Fs) (U : Us) : Cx := ⟨Try.f9.ntmps, tt F, sp_law8_NodeBounds F U, [], [(3, ([(5, [1, 2, 3]), (6, [1, 2, 3]), (7, [1, 2, 3])], []))], [], []⟩
theorem c_law8_NodeBounds (k v : UInt8)  : vc real (x_law8_NodeBounds real us) [] [] (Try.f9.body.getD .skip) ⟨zipSl 0 [.w8 k, .w8 v], [], 64⟩ (retOk real (tt real) false Try.f9.results.toList [.val (.b true)]) := by
  generalize hU : us = U
  generalize hF : real = F
  have m1 : ∀ x : UInt8, F.p0 (F.wrapi (F.toI8 x)) ∧ F.pMk (F.wrapi (F.toI8 x)) 1 := by subst hF; exact mk1
  have tE : ¬ F.pB (F.eqi (U.leafE [.t [.s (F.repB (F.nat (F.wrapi (F.toI8 k)))), .s (F.repB (F.nat (F.wrapi (F.toI8 v))))]]) (F.int 0)) true → F.pB (F.eqi (U.leafE [.t [.s (F.repB (F.nat (F.wrapi (F.toI8 k)))), .s (F.repB (F.nat (F.wrapi (F.toI8 v))))]]) (F.int 90)) true := by subst hF hU; exact two_e (eV_two k v)
  have tF : ¬ F.pB (F.eqi (U.brE [F.repB (F.nat (F.wrapi (F.toI8 k)))] [F.ofI32 (F.int 0), F.ofI32 (F.int 1)]) (F.int 0)) true → F.eqi (U.brE [F.repB (F.nat (F.wrapi (F.toI8 k)))] [F.ofI32 (F.int 0), F.ofI32 (F.int 1)]) (F.int 90) = true := by subst hF hU; exact two_e (fV_two k)
  have a1 : ¬ F.pB (F.le8 (F.ofI8 (F.int 1)) k) false → ¬ F.pB (F.lei (F.wrapi (F.toI8 k)) (F.int 60)) false → F.pB (F.eqb (F.eqi (U.leafE [.t [.s (F.repB (F.nat (F.wrapi (F.toI8 k)))), .s (F.repB (F.nat (F.wrapi (F.toI8 v))))]]) (F.int 0)) (F.lei (F.wrapi (F.toI8 v)) (F.int 150))) true := by subst hF hU; exact q1
  have a2 : ¬ F.pB (F.le8 (F.ofI8 (F.int 1)) k) true → F.pB (F.eqb (F.eqi (U.leafE [.t [.s (F.repB (F.nat (F.wrapi (F.toI8 k)))), .s (F.repB (F.nat (F.wrapi (F.toI8 v))))]]) (F.int 0)) false) true := by subst hF hU; exact q2
  have a3 : ¬ F.pB (F.lei (F.wrapi (F.toI8 k)) (F.int 60)) true → F.pB (F.eqb (F.eqi (U.leafE [.t [.s (F.repB (F.nat (F.wrapi (F.toI8 k)))), .s (F.repB (F.nat (F.wrapi (F.toI8 v))))]]) (F.int 0)) false) true := by subst hF hU; exact q3
  have a4 : ¬ F.pB (F.le8 (F.ofI8 (F.int 1)) k) false → F.pB (F.eqb (F.eqi (U.brE [F.repB (F.nat (F.wrapi (F.toI8 k)))] [F.ofI32 (F.int 0), F.ofI32 (F.int 1)]) (F.int 0)) (F.lei (F.wrapi (F.toI8 k)) (F.int 60))) true := by subst hF hU; exact q4
  have a5 : ¬ F.pB (F.le8 (F.ofI8 (F.int 1)) k) true → F.pB (F.eqb (F.eqi (U.brE [F.repB (F.nat (F.wrapi (F.toI8 k)))] [F.ofI32 (F.int 0), F.ofI32 (F.int 1)]) (F.int 0)) false) true := by subst hF hU; exact q5
  cbv
  repeat' first | apply And.intro | refine Classical.or_iff_not_imp_left.2 (fun _ => ?_) | exact trivial
  all_goals try (subst hF hU; simp only [real, us, Nat.le_eq, Int.cast_ofNat_Int, decide_eq_false_iff_not, decide_eq_true_eq, List.length_take, List.length_drop, List.length_append, List.length_replicate, List.length_set, List.length_cons, List.length_nil, List.length_zipWith] at *; (try simp (disch := omega) only [wrap_sm] at *); omega)
  all_goals first
    | exact (m1 _).1
    | exact (m1 _).2
    | exact tF (by assumption)
    | (rename_i g h; exact absurd (tE g) h)
    | (rename_i h; exact absurd (a1 (by assumption) (by assumption)) h)
    | (rename_i h; exact absurd (a2 (by assumption)) h)
    | (rename_i h; exact absurd (a3 (by assumption)) h)
    | (rename_i h; exact absurd (a4 (by assumption)) h)
    | (rename_i h; exact absurd (a5 (by assumption)) h)
end Go.Proofs.Ytmldccfchnlpgaa
namespace Go.Proofs.Ytmldccfchnlpgaa.nodeBounds
open Go.ChangeShapes Go.WideShapes Go.ChangeAt Go.RowKit
set_option linter.unusedVariables false
theorem own : ownKnob Try.prog.godebug = none := by kernel_rfl
theorem laidOut : laidOutB Try.prog = true := p_laidOut
set_option maxRecDepth 100000 in
theorem lifted (os : Os) (started : os.Started) (H : Type) (enc : TypeId × Value → H) :
    ReturnsInHanded {} Try.checked os 9 .any (Rows.nodeBoundsSpec.pre6 enc Try.prog Try.f9 Rows.nodeBoundsRow.domain false) (Rows.nodeBoundsSpec.post enc Try.prog Try.f9 false true false false) := by
  refine returnsInHanded_of_change (C := Try.checked) own started (by kernel_rfl) Try.func9
    (ChangeSpec.witness6 (enc := enc) (C := Try.checked) false ⟨#[], #[.int .u8 0, .int .u8 0], []⟩ 8 (by kernel_rfl) (by kernel_rfl) (by kernel_rfl) (by kernel_rfl)) ?_
  intro W base args ds gs before hval0 hW hcnd _
  have hval : ∀ (j : Nat) t v, Try.f9.params[j]? = some t → args[j]? = some v → Value.okWide Try.prog W .any base t v := hval0
  have hW' := hW
  obtain ⟨p, q, hA0, hV, rfl, hfz, hnd⟩ := hW
  have hA : DataW.TrodAll enc Try.prog W 0 (fun _ => true) true Try.f9.params.toList args.toList ds p := hA0
  rw [Try.params9] at hA hval
  obtain ⟨v0, vs0, d0, ds0, p0, q0, hargs, rfl, rfl, h0, r0⟩ := trodAll_cons hA
  obtain ⟨v1, vs1, d1, ds1, p1, q1, rfl, rfl, rfl, h1, r1⟩ := trodAll_cons r0
  obtain ⟨rfl, rfl, rfl⟩ := trodAll_nil r1
  obtain rfl : args = #[v0, v1] := by cases args; simp_all
  obtain ⟨rfl, rfl⟩ := trodVars_none hV
  obtain ⟨k, k0⟩ := Go.Vc.open8 Try.underlying5 (hval 0 5 v0 rfl rfl) h0
  obtain ⟨v, k1⟩ := Go.Vc.open8 Try.underlying5 (hval 1 5 v1 rfl rfl) h1
  clear hA0 hval0
  refine (Go.Vc.law_walk2 (x := x_law8_NodeBounds Go.Vc.real us) (an := []) (cu := []) (l := [.w8 k, .w8 v]) (vals := [v0, v1]) ⟨tt_ok, ok_law8_NodeBounds, Go.Vc.ks_nil⟩ mixed Try.func9 rfl rfl (by kernel_rfl) (Nat.le_of_ble_eq_true rfl) (Go.Vc.rvs_cons k0 (Go.Vc.rvs_cons k1 Go.Vc.rvs_nil)) (c_law8_NodeBounds k v )).mono fun e W' ⟨he, bel⟩ => ?_
  subst he
  exact ⟨_, rfl, Go.Vc.post_true (tb := 4) laidOut (by kernel_rfl) rfl Try.underlying4 rfl hW' rfl bel⟩
theorem over : Rows.nodeBoundsRow.holds Try.pinned (OpenSpec.ofChange Rows.nodeBoundsSpec) :=
  OpenClaim.holds_of_wide 9 Try.f9 rfl rfl rfl rfl rfl rfl rfl ⟨rfl, rfl, rfl, rfl, rfl⟩ rfl rfl rfl rfl rfl (by kernel_rfl) Try.func9 (Go.Vc.joined_of p_laidOut p_maps p_stops p_knobs p_heard p_mayEnter p_lifts p_make rfl rfl (by kernel_rfl) (by kernel_rfl) (by kernel_rfl) (by kernel_rfl) (by kernel_rfl) (by kernel_rfl) (by kernel_rfl) (by kernel_rfl) (by kernel_rfl) (by kernel_rfl) (by kernel_rfl) (by kernel_rfl) (by kernel_rfl) (by kernel_rfl) (by kernel_rfl) (by kernel_rfl) (by kernel_rfl) (by kernel_rfl) (by kernel_rfl) (by kernel_rfl) (by kernel_rfl) (by kernel_rfl) (by kernel_rfl) (by kernel_rfl) )
    (of_decide_eq_true (by kernel_rfl)) (by unfold Func.isWrapper; first | (rw [if_pos (by decide +kernel)]; kernel_rfl) | (rw [if_neg (by decide +kernel)]; exact ⟨rfl, rfl⟩))
    (fun os started H enc _ => lifted os started H enc)
theorem proved : Rows.NodeBoundsSaid := over
#print axioms proved
end Go.Proofs.Ytmldccfchnlpgaa.nodeBounds

