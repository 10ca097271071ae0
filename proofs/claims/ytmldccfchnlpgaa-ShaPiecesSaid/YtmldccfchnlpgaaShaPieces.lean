/- The given statement is proved: for every input the law's function answers true. No condition. -/
import Derived.Test.YtmldccfchnlpgaaRows
import Derived.Test.YtmldccfchnlpgaaPart5
import Derived.Test.YtmldccfchnlpgaaPart6
import Derived.WalkKit
import Derived.ProofKit
import Derived.OpenShut
import Derived.ShutString
set_option linter.unusedVariables false
set_option linter.unusedSimpArgs false
set_option maxRecDepth 100000
set_option maxHeartbeats 1000000
namespace Go.Proofs.Ytmldccfchnlpgaa
attribute [local irreducible] u_sched u_rnds u_kc u_add u_blks u_first u_next u_padZ u_padP u_pad u_outB u_nblk u_fin u_ws u_wr u_sum u_outF u_hex u_hexP
open Go Go.Vc
theorem app_len (y x : List UInt8) : (real.appB y x).length = y.length + x.length := List.length_append
theorem len_app (y x : List UInt8) (hy : y.length ≤ 10000) (hx : x.length ≤ 10000) : real.addi (real.int (real.lenB y)) (real.int (real.lenB x)) = real.int (real.lenB (real.appB y x)) := by
  show real.addi (real.int y.length) (real.int x.length) = ((real.appB y x).length : Int)
  rw [addiN (by omega) (by omega), app_len]
  rfl
theorem fin_more (y x : List UInt8) (hy : y.length ≤ 10000) (hx : x.length ≤ 10000) : us.fin (us.ws (us.ws us.first [] y) (us.wr [] y) x) (us.wr (us.wr [] y) x) (real.addi (real.int (real.lenB y)) (real.int (real.lenB x))) = us.sum (real.appB y x) := by
  rw [len_app y x hy hx]
  exact fin2 y x _ rfl
theorem no_more (y x : List UInt8) (hy : y.length ≤ 10000) (hx : x.length ≤ 10000) (h : ¬ real.pB (real.notb (real.eqB (us.fin (us.ws (us.ws us.first [] y) (us.wr [] y) x) (us.wr (us.wr [] y) x) (real.addi (real.int (real.lenB y)) (real.int (real.lenB x)))) (us.sum (real.appB y x)))) false) : False := by
  rw [fin_more y x hy hx] at h
  exact h (show (!(real.eqB _ _)) = false by rw [eqB_self]; rfl)
theorem fin_eq (y : List UInt8) : us.fin (us.ws us.first [] y) (us.wr [] y) (real.int (real.lenB y)) = us.sum y := fin1 y _ rfl
theorem no_fin (y : List UInt8) (h : ¬ real.pB (real.eqB (us.fin (us.ws us.first [] y) (us.wr [] y) (real.int (real.lenB y))) (us.sum y)) true) : False := by
  rw [fin_eq] at h; exact h (eqB_self _)
theorem no_self (z : List UInt8) (h : ¬ real.pB (real.eqB z z) true) : False := h (eqB_self _)
theorem no_selfi (z : Int) (h : ¬ real.pB (real.eqi z z) true) : False := h (beq_self_eq_true z)
theorem no_fin2 (y x : List UInt8) (hy : y.length ≤ 10000) (hx : x.length ≤ 10000) (h : ¬ real.pB (real.eqB (us.fin (us.ws (us.ws us.first [] y) (us.wr [] y) x) (us.wr (us.wr [] y) x) (real.addi (real.int (real.lenB y)) (real.int (real.lenB x)))) (us.sum (real.appB y x))) true) : False := by
  rw [fin_more y x hy hx] at h
  exact h (eqB_self _)
theorem no_moreF {F : Fs} {U : Us} (hF : real = F) (hU : us = U) {y x : List UInt8} (hy : y.length ≤ 10000) (hx : x.length ≤ 10000) (h : ¬ F.pB (F.notb (F.eqB (U.fin (U.ws (U.ws U.first [] y) (U.wr [] y) x) (U.wr (U.wr [] y) x) (F.addi (F.int (F.lenB y)) (F.int (F.lenB x)))) (U.sum (F.appB y x)))) false) : False := by
  subst hF hU
  exact no_more y x hy hx h
theorem no_finF {F : Fs} {U : Us} (hF : real = F) (hU : us = U) {y : List UInt8} (h : ¬ F.pB (F.eqB (U.fin (U.ws U.first [] y) (U.wr [] y) (F.int (F.lenB y))) (U.sum y)) true) : False := by
  subst hF hU
  exact no_fin y h
theorem no_selfF {F : Fs} (hF : real = F) {z : List UInt8} (h : ¬ F.pB (F.eqB z z) true) : False := by
  subst hF
  exact no_self z h
theorem no_selfiF {F : Fs} (hF : real = F) {z : Int} (h : ¬ F.pB (F.eqi z z) true) : False := by
  subst hF
  exact no_selfi z h
theorem no_fin2F {F : Fs} {U : Us} (hF : real = F) (hU : us = U) {y x : List UInt8} (hy : y.length ≤ 10000) (hx : x.length ≤ 10000) (h : ¬ F.pB (F.eqB (U.fin (U.ws (U.ws U.first [] y) (U.wr [] y) x) (U.wr (U.wr [] y) x) (F.addi (F.int (F.lenB y)) (F.int (F.lenB x)))) (U.sum (F.appB y x))) true) : False := by
  subst hF hU
  exact no_fin2 y x hy hx h
theorem no_moreS {F : Fs} {U : Us} (hF : real = F) (hU : us = U) {y : List UInt8} (hy : y.length ≤ 10000) (h : ¬ F.pB (F.eqB (U.fin (U.ws (U.ws U.first [] y) (U.wr [] y) [F.ofI8 (F.int 109), F.ofI8 (F.int 111), F.ofI8 (F.int 114), F.ofI8 (F.int 101)]) (U.wr (U.wr [] y) [F.ofI8 (F.int 109), F.ofI8 (F.int 111), F.ofI8 (F.int 114), F.ofI8 (F.int 101)]) (F.addi (F.int (F.lenB y)) (F.int (F.lenB [F.ofI8 (F.int 109), F.ofI8 (F.int 111), F.ofI8 (F.int 114), F.ofI8 (F.int 101)])))) (U.sum (F.appB y (F.ofS ⟨#[109, 111, 114, 101]⟩)))) true) : False := by
  subst hF hU
  have e : real.ofS ⟨#[109, 111, 114, 101]⟩ = [real.ofI8 (real.int 109), real.ofI8 (real.int 111), real.ofI8 (real.int 114), real.ofI8 (real.int 101)] := by decide
  rw [e] at h
  exact no_fin2 y _ hy (by decide) h
theorem len_le {F : Fs} (hF : real = F) {n : Nat} {x : List UInt8} (h : ¬ F.pB (F.lti (F.int n) (F.int (F.lenB x))) true) : x.length ≤ n := by
  subst hF
  exact ge_g h
end Go.Proofs.Ytmldccfchnlpgaa
namespace Go.Proofs.Ytmldccfchnlpgaa
open Go Go.Vc
noncomputable def sp_law2_ShaPieces (F : Fs) (U : Us) : Specs := [(39, s_law2_known F U), (40, s_sha_Sum F U), (43, s_sha_New F U), (44, s_sha_Hash_Write F U), (45, s_sha_Hash_Sum F U), (46, s_sha_Hash_Len F U), (47, s_sha_Hash_Copy F U)]
theorem ok_law2_ShaPieces : SpecsOK Try.prog (sp_law2_ShaPieces real us) := sp_cons r_law2_known k_law2_known (sp_cons r_sha_Sum k_sha_Sum (sp_cons r_sha_New k_sha_New (sp_cons r_sha_Hash_Write k_sha_Hash_Write (sp_cons r_sha_Hash_Sum k_sha_Hash_Sum (sp_cons r_sha_Hash_Len k_sha_Hash_Len (sp_cons r_sha_Hash_Copy k_sha_Hash_Copy sp_nil))))))
noncomputable def an_law2_ShaPieces (F : Fs) (U : Us) (l ask : List D) : Anns := [(8, ⟨Nat × List UInt8, fun s => F.pLe s.1 (F.lenD l) ∧ F.pLe (F.lenB s.2) (F.muln 150 s.1), fun s => F.subn (F.lenD l) s.1, fun s => ⟨[(0, .rb 1 (.ds .bs l)), (1, .rb 1 (.ds .b ask)), (5, .p 0 0 0), (6, .rw 5), (7, .i (F.int s.1))], [(5, 0, .bk 141 [(8, .wd (U.ws U.first [] s.2)), (1, .vs [.rw 1]), (1, .vs [.i (F.int (F.lenB s.2))])]), (6, 5, .row 5 1 (.bt s.2)), (999, 1, .row 5 1 (.bt (U.wr [] s.2)))]⟩⟩)]
noncomputable def x_law2_ShaPieces (F : Fs) (U : Us) : Cx := ⟨Try.f8.ntmps, tt F, sp_law2_ShaPieces F U, [], [], [], []⟩
theorem c_law2_ShaPieces (l ask : List D) (q0 : l.length ≤ 9223372036854775807) (m0 : ∀ x ∈ l, DF (.bs) x) (q1 : ask.length ≤ 9223372036854775807) (m1 : ∀ x ∈ ask, DF (.b) x) : vc real (x_law2_ShaPieces real us) (an_law2_ShaPieces real us l ask) [] (Try.f8.body.getD .skip) ⟨zipSl 0 [.rb 1 (.ds (.bs) l), .rb 1 (.ds (.b) ask)], [], 64⟩ (retOk real (tt real) false Try.f8.results.toList [.val (.b true)]) := by
  generalize hU : us = U
  generalize hF : real = F
  cbv
  repeat' first | apply And.intro | refine Classical.or_iff_not_imp_left.2 (fun _ => ?_) | exact trivial
  all_goals try (subst hF hU; simp only [real, us, Nat.le_eq, Int.cast_ofNat_Int, decide_eq_false_iff_not, decide_eq_true_eq, List.length_take, List.length_drop, List.length_append, List.length_replicate, List.length_set, List.length_cons, List.length_nil, List.length_zipWith] at *; (try simp (disch := omega) only [wrap_sm] at *); omega)
  · refine ⟨((0, []) : Nat × List UInt8), ?_⟩
    cbv; subst hF hU
    exact ⟨⟨Nat.zero_le _, Nat.zero_le _⟩, ⟨ws_nil0, ⟨rfl, trivial⟩, trivial⟩, wr_nil0, trivial⟩
  · rename_i g1 g2
    have hl : l.length ≤ 12 := by subst hF; exact ge_g g1
    have ha : l.length ≤ ask.length := by subst hF; exact ge_g g2
    clear g1 g2
    intro (s : Nat × List UInt8) hs
    obtain ⟨i, y⟩ := s
    have hi : i ≤ l.length := by subst hF; exact hs.1
    have hy : y.length ≤ 150 * i := by subst hF; exact hs.2
    clear hs
    cbv
    repeat' first | apply And.intro | refine Classical.or_iff_not_imp_left.2 (fun _ => ?_) | exact trivial
    all_goals try (subst hF hU; simp only [real, us, Nat.le_eq, Int.cast_ofNat_Int, decide_eq_false_iff_not, decide_eq_true_eq, List.length_take, List.length_drop, List.length_append, List.length_replicate, List.length_set, List.length_cons, List.length_nil, List.length_zipWith] at *; (try simp (disch := omega) only [wrap_sm] at *); omega)
    all_goals try (subst hF hU; first | exact isW_first | exact isW_ws _ _ isW_first | exact isW_ws _ _ (isW_ws _ _ isW_first) | exact wr_small _ _ (by omega))
    · exfalso
      rename_i g1 g2 _ g4
      have hx := len_le hF g2
      exact no_moreF hF hU (show y.length ≤ 10000 by omega) (Nat.le_trans hx (show 150 ≤ 10000 by decide)) g4
    · refine ⟨((i + 1, F.appB y (F.dL8 (F.getD l (F.nat (F.int i))))) : Nat × List UInt8), ?_⟩
      cbv; rename_i g1 g2 _ _; subst hF hU
      have hx : (real.dL8 (real.getD l (real.nat (real.int i)))).length ≤ 150 := ge_g g2
      have hx2 := Nat.le_trans hx (show 150 ≤ 10000 by decide)
      have hy2 : y.length ≤ 10000 := by omega
      have hlt := lt_g (n := l.length) g1
      refine ⟨⟨hlt, ?_⟩, sub_stepN hlt, ⟨addi1 (by omega), trivial⟩, ⟨ws_more y _, ⟨len_app y _ hy2 hx2, trivial⟩, trivial⟩, wr_more y _, trivial⟩
      refine Nat.le_trans (Nat.le_of_eq (app_len y _)) ?_
      refine Nat.le_trans (Nat.add_le_add hy hx) ?_
      show 150 * i + 150 ≤ 150 * (i + 1)
      omega
    · refine ⟨((i + 1, F.appB y (F.dL8 (F.getD l (F.nat (F.int i))))) : Nat × List UInt8), ?_⟩
      cbv; rename_i g1 g2 _; subst hF hU
      have hx : (real.dL8 (real.getD l (real.nat (real.int i)))).length ≤ 150 := ge_g g2
      have hx2 := Nat.le_trans hx (show 150 ≤ 10000 by decide)
      have hy2 : y.length ≤ 10000 := by omega
      have hlt := lt_g (n := l.length) g1
      refine ⟨⟨hlt, ?_⟩, sub_stepN hlt, ⟨addi1 (by omega), trivial⟩, ⟨ws_more y _, ⟨len_app y _ hy2 hx2, trivial⟩, trivial⟩, wr_more y _, trivial⟩
      refine Nat.le_trans (Nat.le_of_eq (app_len y _)) ?_
      refine Nat.le_trans (Nat.add_le_add hy hx) ?_
      show 150 * i + 150 ≤ 150 * (i + 1)
      omega
    · subst hF hU
      refine beq_iff_eq.2 ?_
      exact congrArg (fun z => real.addi (real.int (real.lenB y)) z) rfl
    all_goals (exfalso; rename_i hn; first | exact no_moreS hF hU (show y.length ≤ 10000 by omega) hn | exact no_selfF hF hn | exact no_finF hF hU hn | exact no_selfiF hF hn | trace_state)
end Go.Proofs.Ytmldccfchnlpgaa
namespace Go.Proofs.Ytmldccfchnlpgaa.shaPieces
open Go.ChangeShapes Go.WideShapes Go.ChangeAt Go.RowKit
set_option linter.unusedVariables false
theorem own : ownKnob Try.prog.godebug = none := by kernel_rfl
theorem laidOut : laidOutB Try.prog = true := p_laidOut
set_option maxRecDepth 100000 in
theorem lifted (os : Os) (started : os.Started) (H : Type) (enc : TypeId × Value → H) :
    ReturnsInHanded {} Try.checked os 8 .any (Rows.shaPiecesSpec.pre6 enc Try.prog Try.f8 Rows.shaPiecesRow.domain false) (Rows.shaPiecesSpec.post enc Try.prog Try.f8 false true false false) := by
  refine returnsInHanded_of_change (C := Try.checked) own started (by kernel_rfl) Try.func8
    (ChangeSpec.witness6 (enc := enc) (C := Try.checked) false ⟨#[], #[.slice none 0 0, .slice none 0 0], []⟩ 8 (by kernel_rfl) (by kernel_rfl) (by kernel_rfl) (by kernel_rfl)) ?_
  intro W base args ds gs before hval0 hW hcnd _
  have hval : ∀ (j : Nat) t v, Try.f8.params[j]? = some t → args[j]? = some v → Value.okWide Try.prog W .any base t v := hval0
  have hW' := hW
  obtain ⟨p, q, hA0, hV, rfl, hfz, hnd⟩ := hW
  have hA : DataW.TrodAll enc Try.prog W 0 (fun _ => true) true Try.f8.params.toList args.toList ds p := hA0
  rw [Try.params8] at hA hval
  obtain ⟨v0, vs0, d0, ds0, p0, q0, hargs, rfl, rfl, h0, r0⟩ := trodAll_cons hA
  obtain ⟨v1, vs1, d1, ds1, p1, q1, rfl, rfl, rfl, h1, r1⟩ := trodAll_cons r0
  obtain ⟨rfl, rfl, rfl⟩ := trodAll_nil r1
  obtain rfl : args = #[v0, v1] := by cases args; simp_all
  obtain ⟨rfl, rfl⟩ := trodVars_none hV
  obtain ⟨l, k0, q0, m0⟩ := Go.Vc.openLD (sh := .bs) Try.underlying48 (by kernel_rfl) (by decide) ⟨5, by kernel_rfl, by kernel_rfl, by kernel_rfl⟩ (hval 0 48 v0 rfl rfl) h0
  obtain ⟨ask, k1, q1, m1⟩ := Go.Vc.openLD (sh := .b) Try.underlying49 (by kernel_rfl) (by decide) (by show _ = _; kernel_rfl) (hval 1 49 v1 rfl rfl) h1
  clear hA0 hval0
  refine (Go.Vc.law_walk2 (x := x_law2_ShaPieces Go.Vc.real us) (an := (an_law2_ShaPieces Go.Vc.real us l ask)) (cu := []) (l := [.rb 1 (.ds (.bs) l), .rb 1 (.ds (.b) ask)]) (vals := [v0, v1]) ⟨tt_ok, ok_law2_ShaPieces, Go.Vc.ks_nil⟩ mixed Try.func8 rfl rfl (by kernel_rfl) (Nat.le_of_ble_eq_true rfl) (Go.Vc.rvs_cons k0 (Go.Vc.rvs_cons k1 Go.Vc.rvs_nil)) (c_law2_ShaPieces l ask q0 m0 q1 m1)).mono fun e W' ⟨he, bel⟩ => ?_
  subst he
  exact ⟨_, rfl, Go.Vc.post_true (tb := 4) laidOut (by kernel_rfl) rfl Try.underlying4 rfl hW' rfl bel⟩
theorem over : Rows.shaPiecesRow.holds Try.pinned (OpenSpec.ofChange Rows.shaPiecesSpec) :=
  OpenClaim.holds_of_wide 8 Try.f8 rfl rfl rfl rfl rfl rfl rfl ⟨rfl, rfl, rfl, rfl, rfl⟩ rfl rfl rfl rfl rfl (by kernel_rfl) Try.func8 (Go.Vc.joined_of p_laidOut p_maps p_stops p_knobs p_heard p_mayEnter p_lifts p_make rfl rfl (by kernel_rfl) (by kernel_rfl) (by kernel_rfl) (by kernel_rfl) (by kernel_rfl) (by kernel_rfl) (by kernel_rfl) (by kernel_rfl) (by kernel_rfl) (by kernel_rfl) (by kernel_rfl) (by kernel_rfl) (by kernel_rfl) (by kernel_rfl) (by kernel_rfl) (by kernel_rfl) (by kernel_rfl) (by kernel_rfl) (by kernel_rfl) (by kernel_rfl) (by kernel_rfl) (by kernel_rfl) (by kernel_rfl) (by kernel_rfl) )
    (of_decide_eq_true (by kernel_rfl)) (by unfold Func.isWrapper; first | (rw [if_pos (by decide +kernel)]; kernel_rfl) | (rw [if_neg (by decide +kernel)]; exact ⟨rfl, rfl⟩))
    (fun os started H enc _ => lifted os started H enc)
theorem proved : Rows.ShaPiecesSaid := over
#print axioms proved
end Go.Proofs.Ytmldccfchnlpgaa.shaPieces

