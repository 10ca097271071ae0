/- The given statement is proved: for every input the law's function answers true. No condition. -/
import Derived.Test.YtmldccfchnlpgaaRows
import Derived.Test.YtmldccfchnlpgaaPart5
import Derived.Test.YtmldccfchnlpgaaPart6
import Derived.WalkKit
import Derived.ProofKit
import Derived.OpenShut
import Derived.ShutString
set_option linter.unusedVariables false
set_option linter.unusedSimpArgs false
set_option maxRecDepth 100000
set_option maxHeartbeats 1000000
namespace Go.Proofs.Ytmldccfchnlpgaa
attribute [local irreducible] u_sched u_rnds u_kc u_add u_blks u_first u_next u_padZ u_padP u_pad u_outB u_nblk u_fin u_ws u_wr u_sum u_outF u_hex u_hexP
open Go Go.Vc
theorem n140 (n : UInt8) : real.nat (real.remi (real.wrapi (real.toI8 n)) (real.int 140)) = n.toNat % 140 := by
  have h := n.toNat_lt
  have e : real.wrapi (real.toI8 n) = (n.toNat : Int) := by
    show IntKind.i64.wrap ((n.toNat : Nat) : Int) = _
    rw [wrap_sm (by omega) (by omega)]
  rw [e]
  rfl
theorem n140p (n : UInt8) : 0 ≤ real.remi (real.wrapi (real.toI8 n)) (real.int 140) ∧ real.remi (real.wrapi (real.toI8 n)) (real.int 140) < 140 := by
  have h := n.toNat_lt
  have e : real.wrapi (real.toI8 n) = (n.toNat : Int) := by
    show IntKind.i64.wrap ((n.toNat : Nat) : Int) = _
    rw [wrap_sm (by omega) (by omega)]
  rw [e]
  have : real.remi (n.toNat : Int) (real.int 140) = ((n.toNat % 140 : Nat) : Int) := rfl
  rw [this]
  omega
theorem mk140 (n : UInt8) : real.pMk (real.remi (real.wrapi (real.toI8 n)) (real.int 140)) 1 := by
  have h1 := (n140p n).1
  have h2 := (n140p n).2
  generalize real.remi (real.wrapi (real.toI8 n)) (real.int 140) = z at *
  exact ⟨h1, by omega, by omega⟩
theorem len140 (n : UInt8) : real.pLe (real.lenB (real.repB (real.nat (real.remi (real.wrapi (real.toI8 n)) (real.int 140))))) 140 := by
  show (List.replicate (real.nat (real.remi (real.wrapi (real.toI8 n)) (real.int 140))) (0 : UInt8)).length ≤ 140
  rw [List.length_replicate, n140]; omega
theorem one_lo (b : List UInt8) (i : Nat) (h : i < b.length) (hb : b.length ≤ 1000) : real.pLe (real.nat (real.addi (real.int i) (real.int 1))) (real.lenB b) := by
  rw [addi1 (by omega)]; exact h
theorem one_more (b : List UInt8) (i : Nat) (h : i < b.length) (hb : b.length ≤ 1000) : real.cutB b 0 i ++ real.cutB b (real.nat (real.int i)) (real.subn (real.nat (real.addi (real.int i) (real.int 1))) (real.nat (real.int i))) = real.cutB b 0 (i + 1) := by
  show List.take i (List.drop 0 b) ++ List.take ((IntKind.i64.wrap ((i : Int) + 1)).toNat - i) (List.drop i b) = List.take (i + 1) (List.drop 0 b)
  rw [wrap_sm (by omega) (by omega), show ((i : Int) + 1).toNat - i = 1 by omega, List.drop_zero, List.take_add]
theorem ws_one (b : List UInt8) (i : Nat) (h : i < b.length) (hb : b.length ≤ 1000) : us.ws (us.ws us.first [] (real.cutB b 0 i)) (us.wr [] (real.cutB b 0 i)) (real.cutB b (real.nat (real.int i)) (real.subn (real.nat (real.addi (real.int i) (real.int 1))) (real.nat (real.int i)))) = us.ws us.first [] (real.cutB b 0 (i + 1)) := by
  rw [← one_more b i h hb]
  exact ws_ws _ _ _
theorem wr_one (b : List UInt8) (i : Nat) (h : i < b.length) (hb : b.length ≤ 1000) : us.wr (us.wr [] (real.cutB b 0 i)) (real.cutB b (real.nat (real.int i)) (real.subn (real.nat (real.addi (real.int i) (real.int 1))) (real.nat (real.int i)))) = us.wr [] (real.cutB b 0 (i + 1)) := by
  rw [← one_more b i h hb]
  exact wr_wr _ _
theorem end_all (b : List UInt8) (i : Nat) (h : i = b.length) : us.fin (us.ws us.first [] (real.cutB b 0 i)) (us.wr [] (real.cutB b 0 i)) (real.int i) = us.sum b := by
  subst h
  have e : real.cutB b 0 b.length = b := by
    show List.take b.length (List.drop 0 b) = b
    rw [List.drop_zero, List.take_length]
  rw [e]
  exact fin1 b _ rfl
theorem one_len (b : List UInt8) (i : Nat) (h : i < b.length) (hb : b.length ≤ 1000) : real.addi (real.int i) (real.int (real.lenB (real.cutB b (real.nat (real.int i)) (real.subn (real.nat (real.addi (real.int i) (real.int 1))) (real.nat (real.int i)))))) = real.int (i + 1) := by
  rw [addi1 (by omega)]
  have e : real.lenB (real.cutB b (real.nat (real.int i)) (real.subn (real.nat (real.int (i + 1))) (real.nat (real.int i)))) = 1 := by
    show (List.take (i + 1 - i) (List.drop i b)).length = 1
    rw [List.length_take, List.length_drop]; omega
  rw [e, addi1 (by omega)]
theorem end_no (b : List UInt8) (i : Nat) (h : i = b.length) (hn : ¬ real.pB (real.eqB (us.fin (us.ws us.first [] (real.cutB b 0 i)) (us.wr [] (real.cutB b 0 i)) (real.int i)) (us.sum b)) true) : False := by
  apply hn
  rw [end_all b i h]
  exact eqB_self _
theorem end_eq (b : List UInt8) (i : Nat) (h : i = b.length) : real.eqi (real.int i) (real.int (real.lenB b)) = true := by
  subst h
  exact beq_self_eq_true _
end Go.Proofs.Ytmldccfchnlpgaa
namespace Go.Proofs.Ytmldccfchnlpgaa
open Go Go.Vc
noncomputable def sp_law2_ShaSizes (F : Fs) (U : Us) : Specs := [(39, s_law2_known F U), (40, s_sha_Sum F U), (43, s_sha_New F U), (44, s_sha_Hash_Write F U), (45, s_sha_Hash_Sum F U), (46, s_sha_Hash_Len F U)]
theorem ok_law2_ShaSizes : SpecsOK Try.prog (sp_law2_ShaSizes real us) := sp_cons r_law2_known k_law2_known (sp_cons r_sha_Sum k_sha_Sum (sp_cons r_sha_New k_sha_New (sp_cons r_sha_Hash_Write k_sha_Hash_Write (sp_cons r_sha_Hash_Sum k_sha_Hash_Sum (sp_cons r_sha_Hash_Len k_sha_Hash_Len sp_nil)))))
noncomputable def an_law2_ShaSizes (F : Fs) (U : Us) (n c : UInt8) : Anns := [(5, ⟨Nat × List UInt8, fun s => F.pLe (F.lenB s.2) 140, fun s => F.subn (F.lenB s.2) s.1, fun s => ⟨[(1, .w8 c), (5, .rw 5), (6, .i (F.int s.1))], [(5, 5, .row 5 1 (.bt s.2))]⟩⟩),
  (10, ⟨Nat × List UInt8, fun s => F.pLe (F.lenB s.2) 140 ∧ F.pLe s.1 (F.lenB s.2), fun s => F.subn (F.lenB s.2) s.1, fun s => ⟨[(5, .rw 5), (7, .p 0 0 0), (8, .i (F.int s.1))], [(7, 0, .bk 141 [(8, .wd (U.ws U.first [] (F.cutB s.2 0 s.1))), (1, .vs [.rw 1]), (1, .vs [.i (F.int s.1)])]), (5, 5, .row 5 1 (.bt s.2)), (999, 1, .row 5 1 (.bt (U.wr [] (F.cutB s.2 0 s.1))))]⟩⟩)]
noncomputable def x_law2_ShaSizes (F : Fs) (U : Us) : Cx := ⟨Try.f7.ntmps, tt F, sp_law2_ShaSizes F U, [], [], [], []⟩
theorem c_law2_ShaSizes (n c : UInt8)  : vc real (x_law2_ShaSizes real us) (an_law2_ShaSizes real us n c) [] (Try.f7.body.getD .skip) ⟨zipSl 0 [.w8 n, .w8 c], [], 64⟩ (retOk real (tt real) false Try.f7.results.toList [.val (.b true)]) := by
  generalize hU : us = U
  generalize hF : real = F
  cbv
  repeat' first | apply And.intro | refine Classical.or_iff_not_imp_left.2 (fun _ => ?_) | exact trivial
  all_goals try (subst hF hU; simp only [real, us, Nat.le_eq, Int.cast_ofNat_Int, decide_eq_false_iff_not, decide_eq_true_eq, List.length_take, List.length_drop, List.length_append, List.length_replicate, List.length_set, List.length_cons, List.length_nil, List.length_zipWith] at *; (try simp (disch := omega) only [wrap_sm] at *); omega)
  · subst hF; exact (n140p n).1
  · subst hF; exact mk140 n
  · refine ⟨((0, F.repB (F.nat (F.remi (F.wrapi (F.toI8 n)) (F.int 140)))) : Nat × List UInt8), ?_⟩
    cbv; subst hF hU
    exact ⟨len140 n, trivial⟩
  · intro (s : Nat × List UInt8) hs
    obtain ⟨i, b⟩ := s
    have hbl : b.length ≤ 140 := by subst hF; exact hs
    clear hs
    cbv
    repeat' first | apply And.intro | refine Classical.or_iff_not_imp_left.2 (fun _ => ?_) | exact trivial
    all_goals try (subst hF hU; simp only [real, us, Nat.le_eq, Int.cast_ofNat_Int, decide_eq_false_iff_not, decide_eq_true_eq, List.length_take, List.length_drop, List.length_append, List.length_replicate, List.length_set, List.length_cons, List.length_nil, List.length_zipWith] at *; (try simp (disch := omega) only [wrap_sm] at *); omega)
    · refine ⟨((i + 1, F.setB b (F.nat (F.int i)) (F.add8 c (F.ofI8 (F.int i)))) : Nat × List UInt8), ?_⟩
      cbv; subst hF hU
      rename_i hg
      have hlt := lt_g (n := b.length) hg
      have hl : (b.set i (real.add8 c (real.ofI8 (real.int i)))).length = b.length := List.length_set ..
      refine ⟨?_, ?_, ⟨addi1 (by omega), trivial⟩, trivial⟩
      · exact Nat.le_trans (Nat.le_of_eq hl) hbl
      · show (b.set i (real.add8 c (real.ofI8 (real.int i)))).length - (i + 1) < b.length - i
        omega
    · refine ⟨((0, b) : Nat × List UInt8), ?_⟩
      cbv; subst hF hU
      exact ⟨⟨hbl, Nat.zero_le _⟩, ⟨ws_none b, ⟨rfl, trivial⟩, trivial⟩, wr_none b, trivial⟩
    · intro (s : Nat × List UInt8) hs
      obtain ⟨j, y⟩ := s
      have hyl : y.length ≤ 140 := by subst hF; exact hs.1
      have hj : j ≤ y.length := by subst hF; exact hs.2
      clear hs
      cbv
      repeat' first | apply And.intro | refine Classical.or_iff_not_imp_left.2 (fun _ => ?_) | exact trivial
      all_goals try (subst hF hU; simp only [real, us, Nat.le_eq, Int.cast_ofNat_Int, decide_eq_false_iff_not, decide_eq_true_eq, List.length_take, List.length_drop, List.length_append, List.length_replicate, List.length_set, List.length_cons, List.length_nil, List.length_zipWith] at *; (try simp (disch := omega) only [wrap_sm] at *); omega)
      all_goals try (subst hF hU; first | exact isW_first | exact isW_ws _ _ isW_first | exact isW_ws _ _ (isW_ws _ _ isW_first) | exact wr_small _ _ (by omega))
      · refine ⟨((j + 1, y) : Nat × List UInt8), ?_⟩
        cbv; subst hF hU
        rename_i hg
        have hlt := lt_g (n := y.length) hg
        refine ⟨⟨hyl, hlt⟩, sub_stepN hlt, ⟨addi1 (by omega), trivial⟩, ⟨ws_one y j hlt (by omega), ⟨one_len y j hlt (by omega), trivial⟩, trivial⟩, wr_one y j hlt (by omega), trivial⟩
      · subst hF hU
        rename_i hg _
        exact end_eq y j (Nat.le_antisymm hj (ge_g (n := y.length) hg))
      · exfalso
        subst hF hU
        rename_i hg hn
        exact end_no y j (Nat.le_antisymm hj (ge_g (n := y.length) hg)) hn
end Go.Proofs.Ytmldccfchnlpgaa
namespace Go.Proofs.Ytmldccfchnlpgaa.shaSizes
open Go.ChangeShapes Go.WideShapes Go.ChangeAt Go.RowKit
set_option linter.unusedVariables false
theorem own : ownKnob Try.prog.godebug = none := by kernel_rfl
theorem laidOut : laidOutB Try.prog = true := p_laidOut
set_option maxRecDepth 100000 in
theorem lifted (os : Os) (started : os.Started) (H : Type) (enc : TypeId × Value → H) :
    ReturnsInHanded {} Try.checked os 7 .any (Rows.shaSizesSpec.pre6 enc Try.prog Try.f7 Rows.shaSizesRow.domain false) (Rows.shaSizesSpec.post enc Try.prog Try.f7 false true false false) := by
  refine returnsInHanded_of_change (C := Try.checked) own started (by kernel_rfl) Try.func7
    (ChangeSpec.witness6 (enc := enc) (C := Try.checked) false ⟨#[], #[.int .u8 0, .int .u8 0], []⟩ 8 (by kernel_rfl) (by kernel_rfl) (by kernel_rfl) (by kernel_rfl)) ?_
  intro W base args ds gs before hval0 hW hcnd _
  have hval : ∀ (j : Nat) t v, Try.f7.params[j]? = some t → args[j]? = some v → Value.okWide Try.prog W .any base t v := hval0
  have hW' := hW
  obtain ⟨p, q, hA0, hV, rfl, hfz, hnd⟩ := hW
  have hA : DataW.TrodAll enc Try.prog W 0 (fun _ => true) true Try.f7.params.toList args.toList ds p := hA0
  rw [Try.params7] at hA hval
  obtain ⟨v0, vs0, d0, ds0, p0, q0, hargs, rfl, rfl, h0, r0⟩ := trodAll_cons hA
  obtain ⟨v1, vs1, d1, ds1, p1, q1, rfl, rfl, rfl, h1, r1⟩ := trodAll_cons r0
  obtain ⟨rfl, rfl, rfl⟩ := trodAll_nil r1
  obtain rfl : args = #[v0, v1] := by cases args; simp_all
  obtain ⟨rfl, rfl⟩ := trodVars_none hV
  obtain ⟨n, k0⟩ := Go.Vc.open8 Try.underlying5 (hval 0 5 v0 rfl rfl) h0
  obtain ⟨c, k1⟩ := Go.Vc.open8 Try.underlying5 (hval 1 5 v1 rfl rfl) h1
  clear hA0 hval0
  refine (Go.Vc.law_walk2 (x := x_law2_ShaSizes Go.Vc.real us) (an := (an_law2_ShaSizes Go.Vc.real us n c)) (cu := []) (l := [.w8 n, .w8 c]) (vals := [v0, v1]) ⟨tt_ok, ok_law2_ShaSizes, Go.Vc.ks_nil⟩ mixed Try.func7 rfl rfl (by kernel_rfl) (Nat.le_of_ble_eq_true rfl) (Go.Vc.rvs_cons k0 (Go.Vc.rvs_cons k1 Go.Vc.rvs_nil)) (c_law2_ShaSizes n c )).mono fun e W' ⟨he, bel⟩ => ?_
  subst he
  exact ⟨_, rfl, Go.Vc.post_true (tb := 4) laidOut (by kernel_rfl) rfl Try.underlying4 rfl hW' rfl bel⟩
theorem over : Rows.shaSizesRow.holds Try.pinned (OpenSpec.ofChange Rows.shaSizesSpec) :=
  OpenClaim.holds_of_wide 7 Try.f7 rfl rfl rfl rfl rfl rfl rfl ⟨rfl, rfl, rfl, rfl, rfl⟩ rfl rfl rfl rfl rfl (by kernel_rfl) Try.func7 (Go.Vc.joined_of p_laidOut p_maps p_stops p_knobs p_heard p_mayEnter p_lifts p_make rfl rfl (by kernel_rfl) (by kernel_rfl) (by kernel_rfl) (by kernel_rfl) (by kernel_rfl) (by kernel_rfl) (by kernel_rfl) (by kernel_rfl) (by kernel_rfl) (by kernel_rfl) (by kernel_rfl) (by kernel_rfl) (by kernel_rfl) (by kernel_rfl) (by kernel_rfl) (by kernel_rfl) (by kernel_rfl) (by kernel_rfl) (by kernel_rfl) (by kernel_rfl) (by kernel_rfl) (by kernel_rfl) (by kernel_rfl) (by kernel_rfl) )
    (of_decide_eq_true (by kernel_rfl)) (by unfold Func.isWrapper; first | (rw [if_pos (by decide +kernel)]; kernel_rfl) | (rw [if_neg (by decide +kernel)]; exact ⟨rfl, rfl⟩))
    (fun os started H enc _ => lifted os started H enc)
theorem proved : Rows.ShaSizesSaid := over
#print axioms proved
end Go.Proofs.Ytmldccfchnlpgaa.shaSizes

