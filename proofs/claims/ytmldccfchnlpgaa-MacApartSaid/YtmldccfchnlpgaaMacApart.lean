/- The given statement is proved: for every input the law's function answers true. No condition. -/
import Derived.Test.YtmldccfchnlpgaaRows
import Derived.Test.YtmldccfchnlpgaaPart6
import Derived.WalkKit
import Derived.ProofKit
import Derived.OpenShut
import Derived.ShutString
set_option linter.unusedVariables false
set_option linter.unusedSimpArgs false
set_option maxRecDepth 100000
set_option maxHeartbeats 1000000
namespace Go.Proofs.Ytmldccfchnlpgaa
open Go Go.Vc
attribute [local irreducible] u_mac u_sum u_mdv
theorem apL_0 (k : List UInt8) (ls : List (List UInt8)) (ns : List UInt32) : us.apL k ls ns 0 = [] := rfl
theorem apM_0 (k : List UInt8) (ls : List (List UInt8)) (ns : List UInt32) : (⟨[], 0⟩ : MD) = us.apM k ls ns 0 := rfl
theorem apL_s (k : List UInt8) (ls : List (List UInt8)) (ns : List UInt32) (i : Nat) : real.appD (us.apL k ls ns i) [D.l8 (us.mdv k (real.getS ls (real.nat (real.int i))) (real.getW ns (real.nat (real.int i))))] = us.apL k ls ns (i + 1) := rfl
theorem apM_s (k : List UInt8) (ls : List (List UInt8)) (ns : List UInt32) (i : Nat) (h : i ≤ 8) : real.mset (us.apM k ls ns i) (D.l8 (us.mdv k (real.getS ls (real.nat (real.int i))) (real.getW ns (real.nat (real.int i))))) (D.i (real.addi (real.int i) (real.int 1))) = us.apM k ls ns (i + 1) := by
  have e : real.addi (real.int i) (real.int 1) = (i : Int) + 1 := by
    show IntKind.i64.wrap ((i : Int) + 1) = _
    rw [wrap_sm (by omega) (by omega)]
  rw [e]
  rfl
theorem apK_is (k : List UInt8) (ls : List (List UInt8)) (ns : List UInt32) (j : Nat) : us.mdv k (real.getS ls (real.nat (real.int j))) (real.getW ns (real.nat (real.int j))) = u_apK k ls ns j := rfl
theorem le40 {ls : List (List UInt8)} {i : Nat} (h : ¬ real.pB (real.lti (real.int 40) (real.int (real.lenB (real.getS ls (real.nat (real.int i)))))) true) : (ls.getD i []).length ≤ 40 := ge_g (j := 40) (n := (ls.getD i []).length) h
attribute [local irreducible] u_apK
theorem apL_len (k : List UInt8) (ls : List (List UInt8)) (ns : List UInt32) : ∀ n, (u_apL k ls ns n).length = n
  | 0 => rfl
  | n + 1 => by rw [u_apL, List.length_append, apL_len k ls ns n]; rfl
theorem apL_get (k : List UInt8) (ls : List (List UInt8)) (ns : List UInt32) : ∀ n i, i < n → (u_apL k ls ns n).getD i D.no = .l8 (u_apK k ls ns i)
  | 0, i, h => absurd h (Nat.not_lt_zero i)
  | n + 1, i, h => by
    have hl := apL_len k ls ns n
    rw [u_apL, List.getD_eq_getElem?_getD]
    by_cases e : i < n
    · rw [List.getElem?_append_left (by omega), ← List.getD_eq_getElem?_getD]
      exact apL_get k ls ns n i e
    · have e2 : i = n := by omega
      subst e2
      rw [List.getElem?_append_right (by omega), hl, Nat.sub_self]
      rfl
theorem apL_cap (k : List UInt8) (ls : List (List UInt8)) (ns : List UInt32) (i : Nat) (h : i ≤ 8) (x : D) : real.pCap (real.addn (real.lenD (us.apL k ls ns i)) (real.lenD [x])) 32 := by
  have hl := apL_len k ls ns i
  show ((u_apL k ls ns i).length + 1) * 32 ≤ 140737488355328 ∧ (u_apL k ls ns i).length + 1 ≤ 4611686018427387904
  omega
theorem ap_find (k : List UInt8) (ls : List (List UInt8)) (ns : List UInt32) : ∀ n i, i < n → ∃ j, i ≤ j ∧ j < n ∧ MD.find (u_apM k ls ns n).es (.l8 (u_apK k ls ns i)) = some (.i ((j : Int) + 1)) ∧ u_apK k ls ns j = u_apK k ls ns i
  | 0, i, h => absurd h (Nat.not_lt_zero i)
  | n + 1, i, h => by
    by_cases e : u_apK k ls ns i = u_apK k ls ns n
    · refine ⟨n, by omega, by omega, ?_, e.symm⟩
      rw [u_apM, md_set, if_pos (by rw [e])]
    · have hn : i ≠ n := fun h => e (by rw [h])
      obtain ⟨j, h1, h2, h3, h4⟩ := ap_find k ls ns n i (by omega)
      refine ⟨j, h1, by omega, ?_, h4⟩
      rw [u_apM, md_set, if_neg, h3]
      intro h
      injection h with h
      exact e h
theorem ap_J (k : List UInt8) (ls : List (List UInt8)) (ns : List UInt32) (n i : Nat) (h : i < n) (hn : n ≤ 8) : ∃ j, i ≤ j ∧ j < n ∧ real.subi (real.dI (real.mget (us.apM k ls ns n) (.l8 (real.dL8 (real.getD (us.apL k ls ns n) (real.nat (real.int i))))) (real.dz .i))) (real.int 1) = real.int j ∧ u_apK k ls ns j = u_apK k ls ns i := by
  obtain ⟨j, h1, h2, h3, h4⟩ := ap_find k ls ns n i h
  refine ⟨j, h1, h2, ?_, h4⟩
  have e1 : real.getD (us.apL k ls ns n) (real.nat (real.int i)) = .l8 (u_apK k ls ns i) := apL_get k ls ns n i h
  rw [e1]
  have e2 : real.mget (us.apM k ls ns n) (.l8 (real.dL8 (.l8 (u_apK k ls ns i)))) (real.dz .i) = .i ((j : Int) + 1) := by
    show (MD.find (u_apM k ls ns n).es (.l8 (u_apK k ls ns i))).getD _ = _
    rw [h3]; rfl
  rw [e2]
  show IntKind.i64.wrap ((j : Int) + 1 - 1) = (j : Int)
  rw [wrap_sm (by omega) (by omega)]; omega
theorem ap_K (k : List UInt8) (ls : List (List UInt8)) (ns : List UInt32) (n i : Nat) (h : i < n) : real.dL8 (real.getD (us.apL k ls ns n) (real.nat (real.int i))) = u_apK k ls ns i := by
  have e1 : real.getD (us.apL k ls ns n) (real.nat (real.int i)) = .l8 (u_apK k ls ns i) := apL_get k ls ns n i h
  rw [e1]; rfl
theorem ap_b0 {k : List UInt8} {ls : List (List UInt8)} {ns : List UInt32} {i n : Nat} (h : n ≤ i) : real.pB (real.lti (real.int i) (real.int (real.lenD (us.apL k ls ns n)))) false := by
  have hl := apL_len k ls ns n
  show decide ((i : Int) < ((u_apL k ls ns n).length : Int)) = false
  exact decide_eq_false (by omega)
theorem ap_b1 {i j : Nat} (h : i ≤ j) : real.pB (real.lti (real.int j) (real.int i)) false := by
  show decide ((j : Int) < (i : Int)) = false
  exact decide_eq_false (by omega)
theorem ap_b2 {k : List UInt8} {ls : List (List UInt8)} {ns : List UInt32} {i j n : Nat} (hj : j < n) (hi : i < n) (h : u_apK k ls ns j = u_apK k ls ns i) : real.pB (real.notb (real.eqB (real.dL8 (real.getD (us.apL k ls ns n) (real.nat (real.int j)))) (real.dL8 (real.getD (us.apL k ls ns n) (real.nat (real.int i)))))) false := by
  rw [ap_K k ls ns n j hj, ap_K k ls ns n i hi, h, eqB_self]
  rfl
theorem ap_b3 {k : List UInt8} {ls : List (List UInt8)} {ns : List UInt32} {i j n : Nat} (hi : i < n) (h : u_apK k ls ns j = u_apK k ls ns i) : real.pB (real.notb (real.eqB (us.mdv k (real.getS ls (real.nat (real.int j))) (real.getW ns (real.nat (real.int j)))) (real.dL8 (real.getD (us.apL k ls ns n) (real.nat (real.int i)))))) false := by
  have e : us.mdv k (real.getS ls (real.nat (real.int j))) (real.getW ns (real.nat (real.int j))) = u_apK k ls ns j := apK_is k ls ns j
  rw [e, ap_K k ls ns n i hi, h, eqB_self]
  rfl
end Go.Proofs.Ytmldccfchnlpgaa
attribute [local irreducible] Go.Proofs.Ytmldccfchnlpgaa.u_mac Go.Proofs.Ytmldccfchnlpgaa.u_sum Go.Proofs.Ytmldccfchnlpgaa.u_mdv Go.Proofs.Ytmldccfchnlpgaa.u_apK Go.Proofs.Ytmldccfchnlpgaa.u_apL Go.Proofs.Ytmldccfchnlpgaa.u_apM
namespace Go.Proofs.Ytmldccfchnlpgaa
open Go Go.Vc
noncomputable def sp_law3_MacApart (F : Fs) (U : Us) : Specs := [(59, s_law3_known F U), (62, s_mac_Derive F U)]
theorem ok_law3_MacApart : SpecsOK Try.prog (sp_law3_MacApart real us) := sp_cons r_law3_known k_law3_known (sp_cons r_mac_Derive k_mac_Derive sp_nil)
noncomputable def an_law3_MacApart (F : Fs) (U : Us) (k : List UInt8) (ls : List (List UInt8)) (ns : List UInt32) : Anns := [(8, ⟨Nat, fun i => F.pLe i (F.lenS ls) ∧ ∀ j, j < i → F.pLe (F.lenB (F.getS ls (F.nat (F.int j)))) 40, fun i => F.subn (F.lenS ls) i, fun i => ⟨[(1, .rb 1 (.ss ls)), (2, .rb 1 (.wd ns)), (3, .p 0 0 0), (7, .mh 1), (8, .rw 2), (9, .i (F.int i))], [(3, 0, .bk 24 [(32, .bt k)]), (7, 1, .mp 80 (.l8 32) .i (U.apM k ls ns i)), (8, 2, .row 24 32 (.ds (.l8 32) (U.apL k ls ns i)))]⟩⟩),
  (16, ⟨Nat, fun i => F.pLe i (F.lenS ls) ∧ ∀ j, j < F.lenS ls → F.pLe (F.lenB (F.getS ls (F.nat (F.int j)))) 40, fun i => F.subn (F.lenS ls) i, fun i => ⟨[(1, .rb 1 (.ss ls)), (2, .rb 1 (.wd ns)), (3, .p 0 0 0), (7, .mh 1), (8, .rw 2), (11, .i (F.int i))], [(3, 0, .bk 24 [(32, .bt k)]), (7, 1, .mp 80 (.l8 32) .i (U.apM k ls ns (F.lenS ls))), (8, 2, .row 24 32 (.ds (.l8 32) (U.apL k ls ns (F.lenS ls))))]⟩⟩)]
noncomputable def x_law3_MacApart (F : Fs) (U : Us) : Cx := ⟨Try.f16.ntmps, tt F, sp_law3_MacApart F U, [], [(12, ([(3, [0]), (4, [0]), (7, [0, 3, 4]), (8, [0, 3, 4]), (10, [0, 3, 4, 7, 8, 9])], [])), (19, ([(10, [6, 7]), (11, [6, 7]), (18, [15]), (19, [15]), (22, [15, 18, 19]), (23, [15, 18, 19]), (27, [15, 18, 19, 22, 23, 24]), (28, [15, 18, 19, 22, 23, 24])], []))], [], []⟩
theorem c_law3_MacApart (k : List UInt8) (ls : List (List UInt8)) (ns : List UInt32) (q0 : k.length = 32) (q1 : ls.length ≤ 9223372036854775807) (m1 : ∀ x ∈ ls, x.length ≤ 9223372036854775807) (q2 : ns.length ≤ 9223372036854775807) : vc real (x_law3_MacApart real us) (an_law3_MacApart real us k ls ns) [] (Try.f16.body.getD .skip) ⟨zipSl 0 [.ag 32 (.bt k), .rb 1 (.ss ls), .rb 1 (.wd ns)], [], 64⟩ (retOk real (tt real) false Try.f16.results.toList [.val (.b true)]) := by
  generalize hU : us = U
  generalize hF : real = F
  cbv
  repeat' first | apply And.intro | refine Classical.or_iff_not_imp_left.2 (fun _ => ?_) | exact trivial
  all_goals try (subst hF hU; simp only [real, us, Nat.le_eq, Int.cast_ofNat_Int, decide_eq_false_iff_not, decide_eq_true_eq, List.length_take, List.length_drop, List.length_append, List.length_replicate, List.length_set, List.length_cons, List.length_nil, List.length_zipWith] at *; (try simp (disch := omega) only [wrap_sm] at *); omega)
  · refine ⟨(0 : Nat), ?_⟩
    cbv; subst hF hU
    refine ⟨⟨Nat.zero_le _, fun j hj => absurd hj (Nat.not_lt_zero j)⟩, ?_⟩
    exact ⟨apM_0 k ls ns, apL_0 k ls ns, trivial⟩
  · rename_i g1 g2
    have hl8 : ls.length ≤ 8 := by subst hF; exact ge_g (j := 8) (n := ls.length) g1
    have hnl : ls.length ≤ ns.length := by subst hF; exact ge_g (j := ns.length) (n := ls.length) g2
    clear g1 g2
    intro (i : Nat) hi
    have h1 : i ≤ ls.length := by subst hF; exact hi.1
    have h2 : ∀ j, j < i → (ls.getD j []).length ≤ 40 := by subst hF; exact hi.2
    clear hi
    cbv
    repeat' first | apply And.intro | refine Classical.or_iff_not_imp_left.2 (fun _ => ?_) | exact trivial
    all_goals try (subst hF hU; simp only [real, us, Nat.le_eq, Int.cast_ofNat_Int, decide_eq_false_iff_not, decide_eq_true_eq, List.length_take, List.length_drop, List.length_append, List.length_replicate, List.length_set, List.length_cons, List.length_nil, List.length_zipWith] at *; (try simp (disch := omega) only [wrap_sm] at *); omega)
    · subst hU; exact q0
    · subst hF hU; exact apL_cap k ls ns i (by omega) (D.l8 (us.mdv k (real.getS ls (real.nat (real.int i))) (real.getW ns (real.nat (real.int i)))))
    · rename_i g1 g2
      refine ⟨(i + 1 : Nat), ?_⟩
      cbv; subst hF hU
      have hlt := lt_g (n := ls.length) g1
      refine ⟨⟨hlt, fun j hj => ?_⟩, sub_stepN hlt, ⟨addi1 (by omega), trivial⟩, apM_s k ls ns i (by omega), apL_s k ls ns i, trivial⟩
      by_cases e : j < i
      · exact h2 j e
      · have e2 : j = i := by omega
        subst e2
        exact le40 g2
    · rename_i g1
      refine ⟨(0 : Nat), ?_⟩
      cbv; subst hF hU
      have hge := ge_g (n := ls.length) g1
      have e : i = ls.length := by omega
      subst e
      exact ⟨⟨Nat.zero_le _, h2⟩, rfl, rfl, trivial⟩
    · rename_i g1
      clear g1 h2 h1
      intro (i : Nat) hi
      have h1 : i ≤ ls.length := by subst hF; exact hi.1
      have h2 : ∀ j, j < ls.length → (ls.getD j []).length ≤ 40 := by subst hF; exact hi.2
      clear hi
      by_cases hlt : i < ls.length
      · obtain ⟨j, j1, j2, j3, j4⟩ := ap_J k ls ns ls.length i hlt hl8
        have eJ : F.subi (F.dI (F.mget (U.apM k ls ns (F.lenS ls)) (.l8 (F.dL8 (F.getD (U.apL k ls ns (F.lenS ls)) (F.nat (F.int i))))) (F.dz .i))) (F.int 1) = F.int j := by subst hF hU; exact j3
        have hlL := apL_len k ls ns ls.length
        have h2j := h2 j j2
        have b1 : F.pB (F.lti (F.int j) (F.int i)) false := by subst hF; exact ap_b1 j1
        have b2 : F.pB (F.notb (F.eqB (F.dL8 (F.getD (U.apL k ls ns (F.lenS ls)) (F.nat (F.int j)))) (F.dL8 (F.getD (U.apL k ls ns (F.lenS ls)) (F.nat (F.int i)))))) false := by subst hF hU; exact ap_b2 j2 hlt j4
        have b3 : F.pB (F.notb (F.eqB (U.mdv k (F.getS ls (F.nat (F.int j))) (F.getW ns (F.nat (F.int j)))) (F.dL8 (F.getD (U.apL k ls ns (F.lenS ls)) (F.nat (F.int i)))))) false := by subst hF hU; exact ap_b3 hlt j4
        cbv
        repeat' first | apply And.intro | refine Classical.or_iff_not_imp_left.2 (fun _ => ?_) | exact trivial
        all_goals (try simp only [eJ] at *)
        all_goals try (subst hF hU; simp only [real, us, Nat.le_eq, Int.cast_ofNat_Int, decide_eq_false_iff_not, decide_eq_true_eq, List.length_take, List.length_drop, List.length_append, List.length_replicate, List.length_set, List.length_cons, List.length_nil, List.length_zipWith] at *; (try simp (disch := omega) only [wrap_sm] at *); omega)
        all_goals first
          | (subst hU; exact q0)
          | (rename_i h; exact absurd b1 h)
          | (rename_i h; exact absurd b2 h)
          | (rename_i h; exact absurd b3 h)
          | skip
        · subst hF; exact Nat.le_trans h2j (by decide)
        · refine ⟨(i + 1 : Nat), ?_⟩
          cbv; subst hF hU
          have hi1 : real.addi (real.int i) (real.int 1) = real.int (i + 1) := addi1 (by omega)
          exact ⟨⟨hlt, h2⟩, sub_stepN hlt, ⟨hi1, trivial⟩, trivial⟩
      · have b0 : F.pB (F.lti (F.int i) (F.int (F.lenD (U.apL k ls ns (F.lenS ls))))) false := by subst hF hU; exact ap_b0 (n := ls.length) (Nat.le_of_not_lt hlt)
        cbv
        repeat' first | apply And.intro | refine Classical.or_iff_not_imp_left.2 (fun _ => ?_) | exact trivial
        all_goals try (subst hF hU; simp only [real, us, Nat.le_eq, Int.cast_ofNat_Int, decide_eq_false_iff_not, decide_eq_true_eq, List.length_take, List.length_drop, List.length_append, List.length_replicate, List.length_set, List.length_cons, List.length_nil, List.length_zipWith] at *; (try simp (disch := omega) only [wrap_sm] at *); omega)
        all_goals exact absurd b0 (by assumption)
end Go.Proofs.Ytmldccfchnlpgaa
namespace Go.Proofs.Ytmldccfchnlpgaa.macApart
open Go.ChangeShapes Go.WideShapes Go.ChangeAt Go.RowKit
set_option linter.unusedVariables false
theorem own : ownKnob Try.prog.godebug = none := by kernel_rfl
theorem laidOut : laidOutB Try.prog = true := p_laidOut
set_option maxRecDepth 100000 in
theorem lifted (os : Os) (started : os.Started) (H : Type) (enc : TypeId × Value → H) :
    ReturnsInHanded {} Try.checked os 16 .any (Rows.macApartSpec.pre6 enc Try.prog Try.f16 Rows.macApartRow.domain false) (Rows.macApartSpec.post enc Try.prog Try.f16 false true false false) := by
  refine returnsInHanded_of_change (C := Try.checked) own started (by kernel_rfl) Try.func16
    (ChangeSpec.witness6 (enc := enc) (C := Try.checked) false ⟨#[], #[.agg #[.int .u8 0, .int .u8 0, .int .u8 0, .int .u8 0, .int .u8 0, .int .u8 0, .int .u8 0, .int .u8 0, .int .u8 0, .int .u8 0, .int .u8 0, .int .u8 0, .int .u8 0, .int .u8 0, .int .u8 0, .int .u8 0, .int .u8 0, .int .u8 0, .int .u8 0, .int .u8 0, .int .u8 0, .int .u8 0, .int .u8 0, .int .u8 0, .int .u8 0, .int .u8 0, .int .u8 0, .int .u8 0, .int .u8 0, .int .u8 0, .int .u8 0, .int .u8 0], .slice none 0 0, .slice none 0 0], []⟩ 8 (by kernel_rfl) (by kernel_rfl) (by kernel_rfl) (by kernel_rfl)) ?_
  intro W base args ds gs before hval0 hW hcnd _
  have hval : ∀ (j : Nat) t v, Try.f16.params[j]? = some t → args[j]? = some v → Value.okWide Try.prog W .any base t v := hval0
  have hW' := hW
  obtain ⟨p, q, hA0, hV, rfl, hfz, hnd⟩ := hW
  have hA : DataW.TrodAll enc Try.prog W 0 (fun _ => true) true Try.f16.params.toList args.toList ds p := hA0
  rw [Try.params16] at hA hval
  obtain ⟨v0, vs0, d0, ds0, p0, q0, hargs, rfl, rfl, h0, r0⟩ := trodAll_cons hA
  obtain ⟨v1, vs1, d1, ds1, p1, q1, rfl, rfl, rfl, h1, r1⟩ := trodAll_cons r0
  obtain ⟨v2, vs2, d2, ds2, p2, q2, rfl, rfl, rfl, h2, r2⟩ := trodAll_cons r1
  obtain ⟨rfl, rfl, rfl⟩ := trodAll_nil r2
  obtain rfl : args = #[v0, v1, v2] := by cases args; simp_all
  obtain ⟨rfl, rfl⟩ := trodVars_none hV
  obtain ⟨k, k0, q0⟩ := Go.Vc.openA8 Try.underlying24 Try.underlying5 (by kernel_rfl) (by kernel_rfl) (hval 0 24 v0 rfl rfl) h0
  obtain ⟨ls, k1, q1, m1⟩ := Go.Vc.openLS Try.underlying58 Try.underlying9 (by kernel_rfl) (hval 1 58 v1 rfl rfl) h1
  obtain ⟨ns, k2, q2⟩ := Go.Vc.openL32 Try.underlying59 Try.underlying22 (by kernel_rfl) (hval 2 59 v2 rfl rfl) h2
  clear hA0 hval0
  refine (Go.Vc.law_walk2 (x := x_law3_MacApart Go.Vc.real us) (an := (an_law3_MacApart Go.Vc.real us k ls ns)) (cu := []) (l := [.ag 32 (.bt k), .rb 1 (.ss ls), .rb 1 (.wd ns)]) (vals := [v0, v1, v2]) ⟨tt_ok, ok_law3_MacApart, Go.Vc.ks_nil⟩ mixed Try.func16 rfl rfl (by kernel_rfl) (Nat.le_of_ble_eq_true rfl) (Go.Vc.rvs_cons k0 (Go.Vc.rvs_cons k1 (Go.Vc.rvs_cons k2 Go.Vc.rvs_nil))) (c_law3_MacApart k ls ns q0 q1 m1 q2)).mono fun e W' ⟨he, bel⟩ => ?_
  subst he
  exact ⟨_, rfl, Go.Vc.post_true (tb := 4) laidOut (by kernel_rfl) rfl Try.underlying4 rfl hW' rfl bel⟩
theorem over : Rows.macApartRow.holds Try.pinned (OpenSpec.ofChange Rows.macApartSpec) :=
  OpenClaim.holds_of_wide 16 Try.f16 rfl rfl rfl rfl rfl rfl rfl ⟨rfl, rfl, rfl, rfl, rfl⟩ rfl rfl rfl rfl rfl (by kernel_rfl) Try.func16 (Go.Vc.joined_of p_laidOut p_maps p_stops p_knobs p_heard p_mayEnter p_lifts p_make rfl rfl (by kernel_rfl) (by kernel_rfl) (by kernel_rfl) (by kernel_rfl) (by kernel_rfl) (by kernel_rfl) (by kernel_rfl) (by kernel_rfl) (by kernel_rfl) (by kernel_rfl) (by kernel_rfl) (by kernel_rfl) (by kernel_rfl) (by kernel_rfl) (by kernel_rfl) (by kernel_rfl) (by kernel_rfl) (by kernel_rfl) (by kernel_rfl) (by kernel_rfl) (by kernel_rfl) (by kernel_rfl) (by kernel_rfl) (by kernel_rfl) )
    (of_decide_eq_true (by kernel_rfl)) (by unfold Func.isWrapper; first | (rw [if_pos (by decide +kernel)]; kernel_rfl) | (rw [if_neg (by decide +kernel)]; exact ⟨rfl, rfl⟩))
    (fun os started H enc _ => lifted os started H enc)
theorem proved : Rows.MacApartSaid := over
#print axioms proved
end Go.Proofs.Ytmldccfchnlpgaa.macApart

