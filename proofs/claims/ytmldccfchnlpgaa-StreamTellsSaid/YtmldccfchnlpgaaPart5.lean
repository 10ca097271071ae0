/- A part of the proof of given statements: a verified condition generator for the model, and contracts of the program's functions. No condition. -/
import Derived.Test.YtmldccfchnlpgaaPart4
import Derived.Test.YtmldccfchnlpgaaPart3
import Derived.Carry
import Derived.OpenShut
import Derived.WideShapes
import Derived.ChangeOld
import Derived.JoinedOf
import Derived.Test.YtmldccfchnlpgaaRows
import Derived.KernelRfl
set_option linter.unusedVariables false
set_option linter.unusedSimpArgs false
set_option linter.constructorNameAsVariable false
set_option linter.unusedVariables false
set_option linter.unusedSimpArgs false
set_option maxRecDepth 100000
set_option maxHeartbeats 1000000
namespace Go.Proofs.Ytmldccfchnlpgaa
open Go Go.Vc
attribute [local irreducible] u_outP u_r4P u_nwP u_o4 u_kwP u_rndP u_block u_sx
theorem lt_g {j n : Nat} (h : ¬ real.pB (real.lti (real.int j) (real.int n)) false) : j < n := by
  simp only [real, Bool.not_eq_false, decide_eq_true_eq] at h
  omega
theorem ge_g {j n : Nat} (h : ¬ real.pB (real.lti (real.int j) (real.int n)) true) : n ≤ j := by
  simp only [real, Bool.not_eq_true, decide_eq_false_iff_not] at h
  omega
theorem r_ref4_Block : Ready Try.prog 36 := by unfold Ready; kernel_rfl
noncomputable def sp_ref4_Block (F : Fs) (U : Us) : Specs := [(94, s_ref1_Little F U), (34, s_ref4_Quarter F U)]
theorem ok_ref4_Block : SpecsOK Try.prog (sp_ref4_Block real us) := sp_cons r_ref1_Little k_ref1_Little (sp_cons r_ref4_Quarter k_ref4_Quarter sp_nil)
noncomputable def an_ref4_Block (F : Fs) (U : Us) (k n : List UInt8) (c : UInt32) : Anns := [(4, ⟨Nat, fun i => i ≤ 8, fun i => F.subn 8 i, fun i => ⟨[(2, .w32 c), (3, .p 0 0 0), (4, .p 1 0 0), (6, .p 2 0 0), (7, .p 3 0 0), (8, .i (F.int i))], [(3, 0, .bk 24 [(32, .bt k)]), (4, 1, .bk 26 [(12, .bt n)]), (6, 2, .bk 31 [(64, .bt (F.repB 64))]), (7, 3, .bk 126 [(16, .wd (U.kwP k i))])]⟩⟩),
  (9, ⟨Nat, fun i => i ≤ 3, fun i => F.subn 3 i, fun i => ⟨[(4, .p 1 0 0), (6, .p 2 0 0), (7, .p 3 0 0), (9, .i (F.int i))], [(4, 1, .bk 26 [(12, .bt n)]), (6, 2, .bk 31 [(64, .bt (F.repB 64))]), (7, 3, .bk 126 [(16, .wd (U.nwP k n c i))])]⟩⟩),
  (15, ⟨Nat, fun i => i ≤ 80, fun i => F.subn 80 i, fun i => ⟨[(6, .p 2 0 0), (7, .p 3 0 0), (10, .p 4 0 0), (11, .p 5 0 0), (12, .i (F.int i))], [(6, 2, .bk 31 [(64, .bt (F.repB 64))]), (7, 3, .bk 126 [(16, .wd (U.nwP k n c 3))]), (10, 4, .bk 133 [(32, .fn 4 8 (fun j => .ag 4 (.is (U.rows j))))]), (11, 5, .bk 126 [(16, .wd (U.r4P (U.nwP k n c 3) i))])]⟩⟩),
  (25, ⟨Nat, fun i => i ≤ 64, fun i => F.subn 64 i, fun i => ⟨[(6, .p 2 0 0), (7, .p 3 0 0), (11, .p 5 0 0), (18, .p 6 0 0), (19, .i (F.int i))], [(6, 2, .bk 31 [(64, .bt (F.repB 64))]), (7, 3, .bk 126 [(16, .wd (U.nwP k n c 3))]), (11, 5, .bk 126 [(16, .wd (U.r4P (U.nwP k n c 3) 80))]), (18, 6, .bk 31 [(64, .bt (U.o4 (U.nwP k n c 3) (U.r4P (U.nwP k n c 3) 80) i))])]⟩⟩)]
noncomputable def g_ref4_Block (F : Fs) (U : Us) : Law
  | [.ag 32 (.bt k), .ag 12 (.bt n), .w32 c] => some (U.isL k 32 ∧ U.isL n 12, [.val (.ag 64 (.bt (U.block k n c)))])
  | _ => none
noncomputable def s_ref4_Block (F : Fs) (U : Us) : Vc.Spec := pureSpec F false [.keep, .keep, .keep] (g_ref4_Block F U)
noncomputable def x_ref4_Block (F : Fs) (U : Us) : Cx := ⟨Try.f36.ntmps, tt F, sp_ref4_Block F U, [], [(18, ([(5, [1, 3]), (7, [1, 3]), (9, [1, 3, 5, 7]), (11, [1, 3, 5, 7]), (13, [1, 3, 5, 7, 9, 11]), (15, [1, 3, 5, 7, 9, 11])], [])), (27, ([(7, [3])], []))], [], []⟩
theorem c_ref4_Block (k n : List UInt8) (c : UInt32) (hc : us.isL k 32 ∧ us.isL n 12) : vc real (x_ref4_Block real us) (an_ref4_Block real us k n c) [] (Try.f36.body.getD .skip) ⟨zipSl 0 [.ag 32 (.bt k), .ag 12 (.bt n), .w32 c], [], 64⟩ (retOk real (tt real) false Try.f36.results.toList [.val (.ag 64 (.bt (us.block k n c)))]) := by
  generalize hU : us = U
  generalize hF : real = F
  have hk : k.length = 32 := hc.1
  have hn : n.length = 12 := hc.2
  cbv
  repeat' first | apply And.intro | refine Classical.or_iff_not_imp_left.2 (fun _ => ?_) | exact trivial
  all_goals try (subst hF hU; simp only [real, us, Nat.le_eq, Int.cast_ofNat_Int, decide_eq_false_iff_not, decide_eq_true_eq, List.length_take, List.length_drop, List.length_append, List.length_replicate, List.length_set, List.length_cons, List.length_nil, List.length_zipWith] at *; (try simp (disch := omega) only [wrap_sm] at *); omega)
  · refine ⟨(0 : Nat), ?_⟩
    cbv
    subst hF hU
    simp only [real, us]
    exact ⟨⟨by rw [u_kwP]; decide, trivial⟩, trivial⟩
  · intro (i : Nat) hi
    replace hi : i ≤ 8 := hi
    have hl := kwP_len k i
    cbv
    repeat' first | apply And.intro | refine Classical.or_iff_not_imp_left.2 (fun _ => ?_) | exact trivial
    all_goals try (subst hF hU; simp only [real, us, Nat.le_eq, Int.cast_ofNat_Int, decide_eq_false_iff_not, decide_eq_true_eq, List.length_take, List.length_drop, List.length_append, List.length_replicate, List.length_set, List.length_cons, List.length_nil, List.length_zipWith] at *; (try simp (disch := omega) only [wrap_sm] at *); omega)
    · refine ⟨(i + 1 : Nat), ?_⟩
      cbv; subst hF hU; simp only [real, us, Nat.le_eq, Int.cast_ofNat_Int, decide_eq_false_iff_not, decide_eq_true_eq] at *
      exact ⟨by omega, by omega, ⟨wrap_sm (by omega) (by omega), trivial⟩, ⟨kw4_step k i (by omega), trivial⟩, trivial⟩
    · refine ⟨(0 : Nat), ?_⟩
      cbv; subst hF hU; simp only [real, us, Nat.le_eq, Int.cast_ofNat_Int, decide_eq_false_iff_not, decide_eq_true_eq] at *
      have e : i = 8 := by omega
      rw [e]
      exact ⟨⟨nw_zero k n c, trivial⟩, trivial⟩
    · intro (i : Nat) hi
      replace hi : i ≤ 3 := hi
      have hl := nwP_len k n c i
      cbv
      repeat' first | apply And.intro | refine Classical.or_iff_not_imp_left.2 (fun _ => ?_) | exact trivial
      all_goals try (subst hF hU; simp only [real, us, Nat.le_eq, Int.cast_ofNat_Int, decide_eq_false_iff_not, decide_eq_true_eq, List.length_take, List.length_drop, List.length_append, List.length_replicate, List.length_set, List.length_cons, List.length_nil, List.length_zipWith] at *; (try simp (disch := omega) only [wrap_sm] at *); omega)
      · refine ⟨(i + 1 : Nat), ?_⟩
        cbv; subst hF hU; simp only [real, us, Nat.le_eq, Int.cast_ofNat_Int, decide_eq_false_iff_not, decide_eq_true_eq] at *
        exact ⟨by omega, by omega, ⟨wrap_sm (by omega) (by omega), trivial⟩, ⟨nw4_step k n c i (by omega), trivial⟩, trivial⟩
      · refine ⟨(0 : Nat), ?_⟩
        cbv; subst hF hU; simp only [real, us, Nat.le_eq, Int.cast_ofNat_Int, decide_eq_false_iff_not, decide_eq_true_eq] at *
        have e : i = 3 := by omega
        rw [e]
        refine ⟨⟨rfl, trivial⟩, ⟨fun j hj => ?_, trivial⟩, ⟨r4_zero _, trivial⟩, trivial⟩
        have h8 : j = 0 ∨ j = 1 ∨ j = 2 ∨ j = 3 ∨ j = 4 ∨ j = 5 ∨ j = 6 ∨ j = 7 := by omega
        rcases h8 with rfl | rfl | rfl | rfl | rfl | rfl | rfl | rfl <;> exact ⟨rfl, rfl⟩
      · intro (i : Nat) hi
        replace hi : i ≤ 80 := hi
        have hl := r4P_len (u_nwP k n c 3) i
        have hl3 := nwP_len k n c 3
        have hl80 := r4P_len (u_nwP k n c 3) 80
        have ht : (i : Int).tmod 8 = ((i % 8 : Nat) : Int) := rfl
        have hr0 := rows_in (i % 8) 0 (by omega) (by omega)
        have hr1 := rows_in (i % 8) 1 (by omega) (by omega)
        have hr2 := rows_in (i % 8) 2 (by omega) (by omega)
        have hr3 := rows_in (i % 8) 3 (by omega) (by omega)
        have hrl := rows_len (i % 8) (by omega)
        have hi1 : IntKind.i64.wrap ((i : Int) + 1) = (i : Int) + 1 := wrap_sm (by omega) (by omega)
        cbv
        repeat' first | apply And.intro | refine Classical.or_iff_not_imp_left.2 (fun _ => ?_) | exact trivial
        all_goals try (subst hF hU; (try simp only [real, us, Nat.le_eq, Int.cast_ofNat_Int, decide_eq_false_iff_not, decide_eq_true_eq, ht, List.length_set]); (try simp only [show ∀ a : Nat, ((a : Int)).toNat = a from fun _ => rfl, Int.toNat_zero, Int.toNat_one, Int.reduceToNat]); omega)
        · subst hF hU
          show 0 ≤ (i : Int).tmod 8 ∧ (i : Int).tmod 8 < 8
          rw [ht]
          exact ⟨Int.natCast_nonneg _, Int.ofNat_lt.2 (Nat.mod_lt i (by omega))⟩
        · refine ⟨(i + 1 : Nat), ?_⟩
          cbv; subst hF hU; simp only [real, us, Nat.le_eq, Int.cast_ofNat_Int, decide_eq_false_iff_not, decide_eq_true_eq] at *
          exact ⟨by omega, by omega, ⟨hi1, trivial⟩, ⟨fun j hj => ⟨rfl, rfl⟩, trivial⟩, ⟨r4_step _ i, trivial⟩, trivial⟩
        · refine ⟨(0 : Nat), ?_⟩
          cbv; subst hF hU; simp only [real, us, Nat.le_eq, Int.cast_ofNat_Int, decide_eq_false_iff_not, decide_eq_true_eq] at *
          have e : i = 80 := by omega
          rw [e]
          exact ⟨⟨rfl, trivial⟩, ⟨o4_zero _ _, trivial⟩, trivial⟩
        · intro (j : Nat) hj
          replace hj : j ≤ 64 := hj
          have hq : IntKind.i64.wrap ((j : Int).tdiv 4) = ((j / 4 : Nat) : Int) := by
            rw [show (j : Int).tdiv 4 = ((j / 4 : Nat) : Int) from rfl]
            exact wrap_sm (by omega) (by omega)
          have hm : (j : Int).tmod 4 = ((j % 4 : Nat) : Int) := rfl
          cbv
          repeat' first | apply And.intro | refine Classical.or_iff_not_imp_left.2 (fun _ => ?_) | exact trivial
          all_goals try (subst hF hU; simp only [real, us, Nat.le_eq, Int.cast_ofNat_Int, decide_eq_false_iff_not, decide_eq_true_eq, List.length_take, List.length_drop, List.length_append, List.length_replicate, List.length_set, List.length_cons, List.length_nil, List.length_zipWith] at *; (try simp (disch := omega) only [wrap_sm] at *); omega)
          all_goals try (subst hF hU; show 0 ≤ IntKind.i64.wrap ((j : Int).tdiv 4) ∧ IntKind.i64.wrap ((j : Int).tdiv 4) < 16; rw [hq]; have := lt_g (j := j) (n := 64) (by assumption); exact ⟨Int.natCast_nonneg _, Int.ofNat_lt.2 (show j / 4 < 16 by omega)⟩)
          all_goals try (subst hF hU; show (IntKind.i64.wrap ((j : Int).tdiv 4)).toNat < 16; rw [hq]; have := lt_g (j := j) (n := 64) (by assumption); show j / 4 < 16; omega)
          · have hj64 := lt_g (j := j) (n := 64) (by subst hF; assumption)
            have hj1 : IntKind.i64.wrap ((j : Int) + 1) = (j : Int) + 1 := wrap_sm (by omega) (by omega)
            refine ⟨(j + 1 : Nat), ?_⟩
            cbv; subst hF hU
            simp only [us]
            refine ⟨by show j + 1 ≤ 64; omega, by show 64 - (j + 1) < 64 - j; omega, ⟨hj1, trivial⟩, ⟨?_, trivial⟩, trivial⟩
            have hst := o4_step (u_nwP k n c 3) (u_r4P (u_nwP k n c 3) 80) j hj64
            simp only [real] at hst ⊢
            exact hst
          · have hj64 := ge_g (j := j) (n := 64) (by subst hF; assumption)
            have e : j = 64 := by omega
            subst hF hU e
            simp only [us]
            unfold u_block
            exact o4_end _
theorem k_ref4_Block : SpecOK Try.prog 36 (s_ref4_Block real us) := by
  refine pure_sound (x := x_ref4_Block real us) ⟨tt_ok, ok_ref4_Block, Go.Vc.ks_nil⟩ mixed Try.func36 rfl rfl (by kernel_rfl) ?_
  intro l c rs hg hc
  unfold g_ref4_Block at hg
  split at hg
  · cases hg; exact ⟨Nat.le_of_ble_eq_true rfl, an_ref4_Block real us _ _ _, [], c_ref4_Block _ _ _ hc⟩
  · cases hg

theorem r_ref4_Xor : Ready Try.prog 38 := by unfold Ready; kernel_rfl
noncomputable def sp_ref4_Xor (F : Fs) (U : Us) : Specs := [(36, s_ref4_Block F U), (96, s_ref1_Xor F U)]
theorem ok_ref4_Xor : SpecsOK Try.prog (sp_ref4_Xor real us) := sp_cons r_ref4_Block k_ref4_Block (sp_cons r_ref1_Xor k_ref1_Xor sp_nil)
noncomputable def an_ref4_Xor (F : Fs) (U : Us) (k n : List UInt8) (c : UInt32) (xs : List UInt8) : Anns := [(3, ⟨Nat, fun i => F.pLe (F.muln 64 i) (F.addn (F.lenB xs) 63), fun i => F.subn (F.addn (F.lenB xs) 63) (F.muln 64 i), fun i => ⟨[(2, .w32 (U.cnt c i)), (3, .rb 1 (.bt xs)), (4, .p 0 0 0), (5, .p 1 0 0), (9, .rw 2), (10, .i (F.int (F.muln 64 i)))], [(4, 0, .bk 24 [(32, .bt k)]), (5, 1, .bk 26 [(12, .bt n)]), (9, 2, .row 5 1 (.bt (F.cutB (U.sx k n c xs) 0 (F.muln 64 i))))]⟩⟩)]
noncomputable def g_ref4_Xor (F : Fs) (U : Us) : Law
  | [.ag 32 (.bt k), .ag 12 (.bt n), .w32 c, .rb 1 (.bt xs)] => some ((U.isL k 32 ∧ U.isL n 12) ∧ F.pLe (F.lenB xs) 1000000, [.row 5 1 (.bt (U.sx k n c xs))])
  | _ => none
noncomputable def s_ref4_Xor (F : Fs) (U : Us) : Vc.Spec := pureSpec F false [.keep, .keep, .keep, .row .kB] (g_ref4_Xor F U)
noncomputable def x_ref4_Xor (F : Fs) (U : Us) : Cx := ⟨Try.f38.ntmps, tt F, sp_ref4_Xor F U, [], [(7, ([(9, [4, 7, 8])], []))], [], []⟩
theorem c_ref4_Xor (k n : List UInt8) (c : UInt32) (xs : List UInt8) (hc : (us.isL k 32 ∧ us.isL n 12) ∧ real.pLe (real.lenB xs) 1000000) : vc real (x_ref4_Xor real us) (an_ref4_Xor real us k n c xs) [] (Try.f38.body.getD .skip) ⟨zipSl 0 [.ag 32 (.bt k), .ag 12 (.bt n), .w32 c, .rb 1 (.bt xs)], [], 64⟩ (retOk real (tt real) false Try.f38.results.toList [.row 5 1 (.bt (us.sx k n c xs))]) := by
  generalize hU : us = U
  generalize hF : real = F
  have hk : k.length = 32 := hc.1.1
  have hn : n.length = 12 := hc.1.2
  have hx : xs.length ≤ 1000000 := hc.2
  have hsl := sx_len k n c xs
  cbv
  repeat' first | apply And.intro | refine Classical.or_iff_not_imp_left.2 (fun _ => ?_) | exact trivial
  all_goals try (subst hF hU; simp only [real, us, Nat.le_eq, Int.cast_ofNat_Int, decide_eq_false_iff_not, decide_eq_true_eq, List.length_take, List.length_drop, List.length_append, List.length_replicate, List.length_set, List.length_cons, List.length_nil, List.length_zipWith] at *; (try simp (disch := omega) only [wrap_sm] at *); omega)
  · refine ⟨(0 : Nat), ?_⟩
    cbv; subst hF hU; simp only [real, us, Nat.le_eq, Int.cast_ofNat_Int, decide_eq_false_iff_not, decide_eq_true_eq] at *
    exact ⟨by omega, ⟨cnt_zero c, by simp, trivial⟩, by simp, trivial⟩
  · intro (i : Nat) hi
    replace hi : F.pLe (F.muln 64 i) (F.addn (F.lenB xs) 63) := hi
    have hbl := block_len k n (u_cnt c i)
    cbv
    repeat' first | apply And.intro | refine Classical.or_iff_not_imp_left.2 (fun _ => ?_) | exact trivial
    all_goals try (subst hF hU; simp only [real, us, Nat.le_eq, Int.cast_ofNat_Int, decide_eq_false_iff_not, decide_eq_true_eq, List.length_take, List.length_drop, List.length_append, List.length_replicate, List.length_set, List.length_cons, List.length_nil, List.length_zipWith] at *; (try simp (disch := omega) only [wrap_sm] at *); omega)
    · subst hU; exact hk
    · subst hU; exact hn
    · refine ⟨(i + 1 : Nat), ?_⟩
      cbv; subst hF hU; simp only [real, us, Nat.le_eq, Int.cast_ofNat_Int, decide_eq_false_iff_not, decide_eq_true_eq] at *
      have hlt : 64 * i < xs.length := by omega
      exact ⟨by omega, by omega, ⟨cnt_succ c i, by rw [wrap_sm (by omega) (by omega)]; omega, trivial⟩, sx_next4 k n c xs i hlt hx, trivial⟩
    · subst hF hU; simp only [real, us, Nat.le_eq, Int.cast_ofNat_Int, decide_eq_false_iff_not, decide_eq_true_eq] at *
      rw [List.drop_zero, List.take_of_length_le (by omega)]
theorem k_ref4_Xor : SpecOK Try.prog 38 (s_ref4_Xor real us) := by
  refine pure_sound (x := x_ref4_Xor real us) ⟨tt_ok, ok_ref4_Xor, Go.Vc.ks_nil⟩ mixed Try.func38 rfl rfl (by kernel_rfl) ?_
  intro l c rs hg hc
  unfold g_ref4_Xor at hg
  split at hg
  · cases hg; exact ⟨Nat.le_of_ble_eq_true rfl, an_ref4_Xor real us _ _ _ _, [], c_ref4_Xor _ _ _ _ hc⟩
  · cases hg

end Go.Proofs.Ytmldccfchnlpgaa
set_option linter.unusedVariables false
set_option linter.unusedSimpArgs false
namespace Go.Vc
open Go Go.RowKit Go.ChangeShapes Go.WideShapes
section
variable {P : Program} {w : World}
/-- a reading of a one-cell type gives such a cell -/
def Elt (P : Program) (w : World) (t : TypeId) {α : Type} (E : α → Value) (q : α → Prop) : Prop :=
  ∀ (H : Type) (enc : TypeId × Value → H) (base : Nat) (sp : Nat → Bool) (held : Bool) (fuel : Nat) (cs : List Value) (x : DataW H × List MemPlace),
    DataW.trod enc P w base sp held fuel t cs = some x → ∃ a, cs = [E a] ∧ q a
theorem u16_arg {a : Int} (h : (Lit.int .u16 a).wf = true) : ∃ x : UInt16, a = (x.toNat : Int) := by
  simp only [Lit.wf, Bool.and_eq_true, decide_eq_true_eq, IntKind.min, IntKind.max] at h
  refine ⟨UInt16.ofNat a.toNat, ?_⟩
  simp [IntKind.signed, IntKind.bits] at h
  rw [UInt16.toNat_ofNat_of_lt' (by simp [UInt16.size]; omega)]
  omega
theorem elt_i64 {t : TypeId} (ht : P.underlying t = some (.int .i64)) : Elt P w t EI (fun n => -9223372036854775808 ≤ n ∧ n ≤ 9223372036854775807) := by
  intro H enc base sp held fuel cs x h
  obtain ⟨n, rfl, _, hw⟩ := DataW.trod_int ht h
  exact ⟨n, rfl, i64_arg hw⟩
theorem elt_bool {t : TypeId} (ht : P.underlying t = some .bool) : Elt P w t Value.bool (fun _ => True) := by
  intro H enc base sp held fuel cs x h
  obtain ⟨n, rfl, _⟩ := DataW.trod_bool ht h
  exact ⟨n, rfl, trivial⟩
theorem elt_str {t : TypeId} (ht : P.underlying t = some .string) : Elt P w t ES (fun s => s.length ≤ 9223372036854775807) := by
  intro H enc base sp held fuel cs x h
  obtain ⟨s, rfl, _, hs⟩ := DataW.trod_string ht h
  refine ⟨s.data.toList, by simp [ES], ?_⟩
  simpa [maxLen] using hs
theorem elt_u8 {t : TypeId} (ht : P.underlying t = some (.int .u8)) : Elt P w t E8 (fun _ => True) := by
  intro H enc base sp held fuel cs x h
  obtain ⟨n, rfl, _, hw⟩ := DataW.trod_int ht h
  obtain ⟨y, hy⟩ := u8_arg hw
  exact ⟨y, by rw [hy], trivial⟩
theorem elt_u16 {t : TypeId} (ht : P.underlying t = some (.int .u16)) : Elt P w t E16 (fun _ => True) := by
  intro H enc base sp held fuel cs x h
  obtain ⟨n, rfl, _, hw⟩ := DataW.trod_int ht h
  obtain ⟨y, hy⟩ := u16_arg hw
  exact ⟨y, by rw [hy], trivial⟩
theorem elt_u32 {t : TypeId} (ht : P.underlying t = some (.int .u32)) : Elt P w t E32 (fun _ => True) := by
  intro H enc base sp held fuel cs x h
  obtain ⟨n, rfl, _, hw⟩ := DataW.trod_int ht h
  obtain ⟨y, hy⟩ := u32_arg hw
  exact ⟨y, by rw [hy], trivial⟩
theorem elt_u64 {t : TypeId} (ht : P.underlying t = some (.int .u64)) : Elt P w t E64 (fun _ => True) := by
  intro H enc base sp held fuel cs x h
  obtain ⟨n, rfl, _, hw⟩ := DataW.trod_int ht h
  obtain ⟨y, hy⟩ := u64_arg hw
  exact ⟨y, by rw [hy], trivial⟩
theorem drop_take_one {α : Type} {l : List α} {a : α} {i : Nat} (h : (l.drop i).take 1 = [a]) : l[i]? = some a := by
  have h1 := congrArg List.head? h
  rw [List.head?_take, if_neg (by decide), List.head?_drop] at h1
  simpa using h1
theorem list_of {α : Type} (E : α → Value) (q : α → Prop) : ∀ cs : List Value, (∀ i, i < cs.length → ∃ x, cs[i]? = some (E x) ∧ q x) → ∃ xs : List α, cs = xs.map E ∧ ∀ x ∈ xs, q x
  | [], _ => ⟨[], rfl, by simp⟩
  | c :: r, h => by
    obtain ⟨x, hx, hq⟩ := h 0 (by simp)
    obtain ⟨xs, hr, hqs⟩ := list_of E q r fun i hi => by
      obtain ⟨x, hx, hq⟩ := h (i + 1) (by simp; omega)
      exact ⟨x, by simpa using hx, hq⟩
    simp only [List.getElem?_cons_zero, Option.some.injEq] at hx
    refine ⟨x :: xs, by simp [hx, hr], fun y hy => ?_⟩
    rcases List.mem_cons.1 hy with rfl | hy
    · exact hq
    · exact hqs y hy
theorem arr_of {α : Type} {E : α → Value} {q : α → Prop} {t e : TypeId} {n : Nat} (ht : P.underlying t = some (.array n e)) (hc : P.cellsOf e = 1) (hn : P.cellsOf t = n) (hE : Elt P w e E q)
    (H : Type) (enc : TypeId × Value → H) (base : Nat) (sp : Nat → Bool) (held : Bool) (fuel : Nat) (cs : List Value) (x : DataW H × List MemPlace)
    (h : DataW.trod enc P w base sp held fuel t cs = some x) : ∃ xs : List α, cs = xs.map E ∧ xs.length = n ∧ ∀ x ∈ xs, q x := by
  obtain ⟨ys, m, rfl, rfl, hl, hyl, hel⟩ := DataW.trod_array ht h
  obtain ⟨xs, rfl, hq⟩ := list_of E q cs fun i hi => by
    have h1 := hel i (by omega)
    rw [List.getElem?_eq_getElem (by omega), hc] at h1
    obtain ⟨a, ha, hq⟩ := hE H enc base sp held m _ _ h1
    exact ⟨a, drop_take_one (by simpa using ha), hq⟩
  exact ⟨xs, rfl, by simpa [hn] using hl, hq⟩
theorem cell_ltO {a : Addr} {v : Value} (h : w.cell? a = some v) : a.block < w.heap.size := by
  unfold World.cell? at h
  split at h
  · rename_i h1; exact (Array.getElem?_eq_some_iff.1 h1).1
  · cases h
theorem stableAtTop {a : Addr} {ds : List Value} (h0 : 0 < ds.length) (h : ∀ j x, ds[j]? = some x → w.cell? (a.add j) = some x) : StableAt mTop w a ds := by
  refine ⟨⟨?_, trivial, .inr fun k v hk => by cases hk⟩, h⟩
  have := cell_ltO (h 0 ds[0] (by simp [h0]))
  rwa [add_block] at this
theorem sl_of {α : Type} {E : α → Value} {q : α → Prop} {t e : TypeId} (ht : P.underlying t = some (.slice e)) (hc : P.cellsOf e = 1) (hE : Elt P w e E q)
    (H : Type) (enc : TypeId × Value → H) (base : Nat) (sp : Nat → Bool) (held : Bool) (fuel : Nat) (cs : List Value) (x : DataW H × List MemPlace)
    (h : DataW.trod enc P w base sp held fuel t cs = some x) :
    ∃ (xs : List α) (ad : Option Addr) (cap : Nat), cs = [.slice ad xs.length cap] ∧ xs.length ≤ cap ∧ xs.length ≤ 9223372036854775807 ∧ (0 < xs.length → ∃ a, ad = some a ∧ StableAt mTop w a (xs.map E)) ∧ ∀ x ∈ xs, q x := by
  rcases DataW.trod_slice ht h with ⟨rfl, _⟩ | ⟨a, len, cap, elems, rest, m, rfl, rfl, rfl, _, hl, hm, hlen, hel, _⟩
  · exact ⟨[], none, 0, rfl, by simp, by simp, by simp, by simp⟩
  · have key : ∀ k, k ≤ len → ∃ xs : List α, xs.length = k ∧ (∀ j x, (xs.map E)[j]? = some x → w.cell? (a.add j) = some x) ∧ ∀ x ∈ xs, q x := by
      intro k
      induction k with
      | zero => exact fun _ => ⟨[], rfl, by simp, by simp⟩
      | succ k ih =>
        intro hk
        obtain ⟨xs, h1, h2, h3⟩ := ih (by omega)
        have h4 := hel k (by omega)
        rw [List.getElem?_eq_getElem (by omega), hc, Nat.mul_one, Option.bind_eq_some_iff] at h4
        obtain ⟨cs', hcs, hy⟩ := h4
        obtain ⟨y, rfl, hq⟩ := hE H enc base sp held m _ _ hy
        have hcell := cell_of_cells?_one hcs
        refine ⟨xs ++ [y], by simp [h1], fun j x hj => ?_, fun x hx => ?_⟩
        · rw [List.map_append, List.getElem?_append] at hj
          split at hj
          · exact h2 j x hj
          · rename_i hlt
            simp only [List.length_map] at hj hlt
            have : j = k := by
              have := (List.getElem?_eq_some_iff.1 hj).1
              simp at this
              omega
            subst this
            simp [h1] at hj
            rw [← hj]; exact hcell
        · rcases List.mem_append.1 hx with hx | hx
          · exact h3 x hx
          · simp at hx; rw [hx]; exact hq
    obtain ⟨xs, h1, h2, h3⟩ := key len (Nat.le_refl _)
    refine ⟨xs, some a, cap, by rw [h1], by omega, by simp [maxLen] at hm; omega, fun h0 => ⟨a, rfl, stableAtTop (by simpa using h0) h2⟩, h3⟩
theorem cells_oneO {v : Value} (h : ∀ cs, v ≠ .agg cs) : v.cells.toList = [v] := by
  unfold Value.cells
  split
  · rename_i cs; exact absurd rfl (h cs)
  · rfl
section
variable {H : Type} {enc : TypeId × Value → H} {base b0 : Nat} {sp : Nat → Bool} {held : Bool} {t e : TypeId} {v : Value} {d : DataW H} {ps : List MemPlace} {r : Reach}
theorem openB (ht : P.underlying t = some .bool) (hval : Value.okWide P w r b0 t v) (hd : DataW.Trod enc P w base sp held t v d ps) : ∃ x, RV mTop w (.b x) v := by
  obtain ⟨n, rfl⟩ := okWide_bool ht hval
  exact ⟨n, by simp [RV, CR]⟩
theorem openI (ht : P.underlying t = some (.int .i64)) (hval : Value.okWide P w r b0 t v) (hd : DataW.Trod enc P w base sp held t v d ps) : ∃ x, RV mTop w (.i x) v ∧ -9223372036854775808 ≤ x ∧ x ≤ 9223372036854775807 := by
  obtain ⟨n, rfl⟩ := okWide_int ht hval
  obtain ⟨fuel, hf⟩ := hd
  rw [cells_oneO (by simp)] at hf
  obtain ⟨a, ha, hq⟩ := elt_i64 ht _ _ _ _ _ _ _ _ hf
  exact ⟨a, by simpa [RV, CR] using ha, hq⟩
theorem openS (ht : P.underlying t = some .string) (hval : Value.okWide P w r b0 t v) (hd : DataW.Trod enc P w base sp held t v d ps) : ∃ x, RV mTop w (.s x) v ∧ x.length ≤ 9223372036854775807 := by
  obtain ⟨n, rfl⟩ := okWide_string ht hval
  obtain ⟨fuel, hf⟩ := hd
  rw [cells_oneO (by simp)] at hf
  obtain ⟨a, ha, hq⟩ := elt_str ht _ _ _ _ _ _ _ _ hf
  exact ⟨a, by simpa [RV, CR] using ha, hq⟩
theorem open8 (ht : P.underlying t = some (.int .u8)) (hval : Value.okWide P w r b0 t v) (hd : DataW.Trod enc P w base sp held t v d ps) : ∃ x, RV mTop w (.w8 x) v := by
  obtain ⟨n, rfl⟩ := okWide_int ht hval
  obtain ⟨fuel, hf⟩ := hd
  rw [cells_oneO (by simp)] at hf
  obtain ⟨a, ha, hq⟩ := elt_u8 ht _ _ _ _ _ _ _ _ hf
  exact ⟨a, by simpa [RV, CR] using ha⟩
theorem open16 (ht : P.underlying t = some (.int .u16)) (hval : Value.okWide P w r b0 t v) (hd : DataW.Trod enc P w base sp held t v d ps) : ∃ x, RV mTop w (.w16 x) v := by
  obtain ⟨n, rfl⟩ := okWide_int ht hval
  obtain ⟨fuel, hf⟩ := hd
  rw [cells_oneO (by simp)] at hf
  obtain ⟨a, ha, hq⟩ := elt_u16 ht _ _ _ _ _ _ _ _ hf
  exact ⟨a, by simpa [RV, CR] using ha⟩
theorem open32 (ht : P.underlying t = some (.int .u32)) (hval : Value.okWide P w r b0 t v) (hd : DataW.Trod enc P w base sp held t v d ps) : ∃ x, RV mTop w (.w32 x) v := by
  obtain ⟨n, rfl⟩ := okWide_int ht hval
  obtain ⟨fuel, hf⟩ := hd
  rw [cells_oneO (by simp)] at hf
  obtain ⟨a, ha, hq⟩ := elt_u32 ht _ _ _ _ _ _ _ _ hf
  exact ⟨a, by simpa [RV, CR] using ha⟩
theorem open64 (ht : P.underlying t = some (.int .u64)) (hval : Value.okWide P w r b0 t v) (hd : DataW.Trod enc P w base sp held t v d ps) : ∃ x, RV mTop w (.w64 x) v := by
  obtain ⟨n, rfl⟩ := okWide_int ht hval
  obtain ⟨fuel, hf⟩ := hd
  rw [cells_oneO (by simp)] at hf
  obtain ⟨a, ha, hq⟩ := elt_u64 ht _ _ _ _ _ _ _ _ hf
  exact ⟨a, by simpa [RV, CR] using ha⟩
theorem openA8 {n : Nat} (ht : P.underlying t = some (.array n e)) (he : P.underlying e = some (.int .u8)) (hc : P.cellsOf e = 1) (hn : P.cellsOf t = n) (hval : Value.okWide P w r b0 t v) (hd : DataW.Trod enc P w base sp held t v d ps) :
    ∃ xs : List UInt8, RV mTop w (.ag n (.bt xs)) v ∧ xs.length = n := by
  obtain ⟨cs, rfl, hcs⟩ : ∃ cs, v = .agg cs ∧ cs.size = P.cellsOf t := by
    simp only [Value.okWide, ht] at hval
    obtain ⟨cs, h1, h2, _⟩ := hval
    exact ⟨cs, h1, h2⟩
  obtain ⟨fuel, hf⟩ := hd
  obtain ⟨xs, h1, h2, hq⟩ := arr_of ht hc hn (elt_u8 he) _ _ _ _ _ _ _ _ hf
  refine ⟨xs, ?_, h2⟩
  simp only [RV]
  have h1 : cs.toList = xs.map E8 := h1
  exact ⟨cs.toList, by simp, by simp [h1, h2], by simpa [RC] using h1⟩
theorem openL8 (ht : P.underlying t = some (.slice e)) (he : P.underlying e = some (.int .u8)) (hc : P.cellsOf e = 1) (hval : Value.okWide P w r b0 t v) (hd : DataW.Trod enc P w base sp held t v d ps) :
    ∃ xs : List UInt8, RV mTop w (.rb 1 (.bt xs)) v ∧ xs.length ≤ 9223372036854775807 := by
  obtain ⟨a, len, cap, rfl⟩ := okWide_slice ht hval
  obtain ⟨fuel, hf⟩ := hd
  rw [cells_oneO (by simp)] at hf
  obtain ⟨xs, ad, cap', h1, h2, h3, h4, hq⟩ := sl_of ht hc (elt_u8 he) _ _ _ _ _ _ _ _ hf
  simp only [List.cons.injEq, and_true, Value.slice.injEq] at h1
  obtain ⟨rfl, rfl, rfl⟩ := h1
  refine ⟨xs, ?_, h3⟩
  simp only [RV, CR]
  exact ⟨_, _, _, xs.map E8, rfl, by simp [RC], by simp, h2, h4⟩
theorem openA16 {n : Nat} (ht : P.underlying t = some (.array n e)) (he : P.underlying e = some (.int .u16)) (hc : P.cellsOf e = 1) (hn : P.cellsOf t = n) (hval : Value.okWide P w r b0 t v) (hd : DataW.Trod enc P w base sp held t v d ps) :
    ∃ xs : List UInt16, RV mTop w (.ag n (.wh xs)) v ∧ xs.length = n := by
  obtain ⟨cs, rfl, hcs⟩ : ∃ cs, v = .agg cs ∧ cs.size = P.cellsOf t := by
    simp only [Value.okWide, ht] at hval
    obtain ⟨cs, h1, h2, _⟩ := hval
    exact ⟨cs, h1, h2⟩
  obtain ⟨fuel, hf⟩ := hd
  obtain ⟨xs, h1, h2, hq⟩ := arr_of ht hc hn (elt_u16 he) _ _ _ _ _ _ _ _ hf
  refine ⟨xs, ?_, h2⟩
  simp only [RV]
  have h1 : cs.toList = xs.map E16 := h1
  exact ⟨cs.toList, by simp, by simp [h1, h2], by simpa [RC] using h1⟩
theorem openL16 (ht : P.underlying t = some (.slice e)) (he : P.underlying e = some (.int .u16)) (hc : P.cellsOf e = 1) (hval : Value.okWide P w r b0 t v) (hd : DataW.Trod enc P w base sp held t v d ps) :
    ∃ xs : List UInt16, RV mTop w (.rb 1 (.wh xs)) v ∧ xs.length ≤ 9223372036854775807 := by
  obtain ⟨a, len, cap, rfl⟩ := okWide_slice ht hval
  obtain ⟨fuel, hf⟩ := hd
  rw [cells_oneO (by simp)] at hf
  obtain ⟨xs, ad, cap', h1, h2, h3, h4, hq⟩ := sl_of ht hc (elt_u16 he) _ _ _ _ _ _ _ _ hf
  simp only [List.cons.injEq, and_true, Value.slice.injEq] at h1
  obtain ⟨rfl, rfl, rfl⟩ := h1
  refine ⟨xs, ?_, h3⟩
  simp only [RV, CR]
  exact ⟨_, _, _, xs.map E16, rfl, by simp [RC], by simp, h2, h4⟩
theorem openA32 {n : Nat} (ht : P.underlying t = some (.array n e)) (he : P.underlying e = some (.int .u32)) (hc : P.cellsOf e = 1) (hn : P.cellsOf t = n) (hval : Value.okWide P w r b0 t v) (hd : DataW.Trod enc P w base sp held t v d ps) :
    ∃ xs : List UInt32, RV mTop w (.ag n (.wd xs)) v ∧ xs.length = n := by
  obtain ⟨cs, rfl, hcs⟩ : ∃ cs, v = .agg cs ∧ cs.size = P.cellsOf t := by
    simp only [Value.okWide, ht] at hval
    obtain ⟨cs, h1, h2, _⟩ := hval
    exact ⟨cs, h1, h2⟩
  obtain ⟨fuel, hf⟩ := hd
  obtain ⟨xs, h1, h2, hq⟩ := arr_of ht hc hn (elt_u32 he) _ _ _ _ _ _ _ _ hf
  refine ⟨xs, ?_, h2⟩
  simp only [RV]
  have h1 : cs.toList = xs.map E32 := h1
  exact ⟨cs.toList, by simp, by simp [h1, h2], by simpa [RC] using h1⟩
theorem openL32 (ht : P.underlying t = some (.slice e)) (he : P.underlying e = some (.int .u32)) (hc : P.cellsOf e = 1) (hval : Value.okWide P w r b0 t v) (hd : DataW.Trod enc P w base sp held t v d ps) :
    ∃ xs : List UInt32, RV mTop w (.rb 1 (.wd xs)) v ∧ xs.length ≤ 9223372036854775807 := by
  obtain ⟨a, len, cap, rfl⟩ := okWide_slice ht hval
  obtain ⟨fuel, hf⟩ := hd
  rw [cells_oneO (by simp)] at hf
  obtain ⟨xs, ad, cap', h1, h2, h3, h4, hq⟩ := sl_of ht hc (elt_u32 he) _ _ _ _ _ _ _ _ hf
  simp only [List.cons.injEq, and_true, Value.slice.injEq] at h1
  obtain ⟨rfl, rfl, rfl⟩ := h1
  refine ⟨xs, ?_, h3⟩
  simp only [RV, CR]
  exact ⟨_, _, _, xs.map E32, rfl, by simp [RC], by simp, h2, h4⟩
theorem openA64 {n : Nat} (ht : P.underlying t = some (.array n e)) (he : P.underlying e = some (.int .u64)) (hc : P.cellsOf e = 1) (hn : P.cellsOf t = n) (hval : Value.okWide P w r b0 t v) (hd : DataW.Trod enc P w base sp held t v d ps) :
    ∃ xs : List UInt64, RV mTop w (.ag n (.ww xs)) v ∧ xs.length = n := by
  obtain ⟨cs, rfl, hcs⟩ : ∃ cs, v = .agg cs ∧ cs.size = P.cellsOf t := by
    simp only [Value.okWide, ht] at hval
    obtain ⟨cs, h1, h2, _⟩ := hval
    exact ⟨cs, h1, h2⟩
  obtain ⟨fuel, hf⟩ := hd
  obtain ⟨xs, h1, h2, hq⟩ := arr_of ht hc hn (elt_u64 he) _ _ _ _ _ _ _ _ hf
  refine ⟨xs, ?_, h2⟩
  simp only [RV]
  have h1 : cs.toList = xs.map E64 := h1
  exact ⟨cs.toList, by simp, by simp [h1, h2], by simpa [RC] using h1⟩
theorem openL64 (ht : P.underlying t = some (.slice e)) (he : P.underlying e = some (.int .u64)) (hc : P.cellsOf e = 1) (hval : Value.okWide P w r b0 t v) (hd : DataW.Trod enc P w base sp held t v d ps) :
    ∃ xs : List UInt64, RV mTop w (.rb 1 (.ww xs)) v ∧ xs.length ≤ 9223372036854775807 := by
  obtain ⟨a, len, cap, rfl⟩ := okWide_slice ht hval
  obtain ⟨fuel, hf⟩ := hd
  rw [cells_oneO (by simp)] at hf
  obtain ⟨xs, ad, cap', h1, h2, h3, h4, hq⟩ := sl_of ht hc (elt_u64 he) _ _ _ _ _ _ _ _ hf
  simp only [List.cons.injEq, and_true, Value.slice.injEq] at h1
  obtain ⟨rfl, rfl, rfl⟩ := h1
  refine ⟨xs, ?_, h3⟩
  simp only [RV, CR]
  exact ⟨_, _, _, xs.map E64, rfl, by simp [RC], by simp, h2, h4⟩
theorem openAI {n : Nat} (ht : P.underlying t = some (.array n e)) (he : P.underlying e = some (.int .i64)) (hc : P.cellsOf e = 1) (hn : P.cellsOf t = n) (hval : Value.okWide P w r b0 t v) (hd : DataW.Trod enc P w base sp held t v d ps) :
    ∃ xs : List Int, RV mTop w (.ag n (.is xs)) v ∧ xs.length = n ∧ ∀ x ∈ xs, -9223372036854775808 ≤ x ∧ x ≤ 9223372036854775807 := by
  obtain ⟨cs, rfl, hcs⟩ : ∃ cs, v = .agg cs ∧ cs.size = P.cellsOf t := by
    simp only [Value.okWide, ht] at hval
    obtain ⟨cs, h1, h2, _⟩ := hval
    exact ⟨cs, h1, h2⟩
  obtain ⟨fuel, hf⟩ := hd
  obtain ⟨xs, h1, h2, hq⟩ := arr_of ht hc hn (elt_i64 he) _ _ _ _ _ _ _ _ hf
  refine ⟨xs, ?_, h2, hq⟩
  simp only [RV]
  have h1 : cs.toList = xs.map EI := h1
  exact ⟨cs.toList, by simp, by simp [h1, h2], by simpa [RC] using h1⟩
theorem openLI (ht : P.underlying t = some (.slice e)) (he : P.underlying e = some (.int .i64)) (hc : P.cellsOf e = 1) (hval : Value.okWide P w r b0 t v) (hd : DataW.Trod enc P w base sp held t v d ps) :
    ∃ xs : List Int, RV mTop w (.rb 1 (.is xs)) v ∧ xs.length ≤ 9223372036854775807 ∧ ∀ x ∈ xs, -9223372036854775808 ≤ x ∧ x ≤ 9223372036854775807 := by
  obtain ⟨a, len, cap, rfl⟩ := okWide_slice ht hval
  obtain ⟨fuel, hf⟩ := hd
  rw [cells_oneO (by simp)] at hf
  obtain ⟨xs, ad, cap', h1, h2, h3, h4, hq⟩ := sl_of ht hc (elt_i64 he) _ _ _ _ _ _ _ _ hf
  simp only [List.cons.injEq, and_true, Value.slice.injEq] at h1
  obtain ⟨rfl, rfl, rfl⟩ := h1
  refine ⟨xs, ?_, h3, hq⟩
  simp only [RV, CR]
  exact ⟨_, _, _, xs.map EI, rfl, by simp [RC], by simp, h2, h4⟩
theorem openAS {n : Nat} (ht : P.underlying t = some (.array n e)) (he : P.underlying e = some (.string)) (hc : P.cellsOf e = 1) (hn : P.cellsOf t = n) (hval : Value.okWide P w r b0 t v) (hd : DataW.Trod enc P w base sp held t v d ps) :
    ∃ xs : List (List UInt8), RV mTop w (.ag n (.ss xs)) v ∧ xs.length = n ∧ ∀ x ∈ xs, x.length ≤ 9223372036854775807 := by
  obtain ⟨cs, rfl, hcs⟩ : ∃ cs, v = .agg cs ∧ cs.size = P.cellsOf t := by
    simp only [Value.okWide, ht] at hval
    obtain ⟨cs, h1, h2, _⟩ := hval
    exact ⟨cs, h1, h2⟩
  obtain ⟨fuel, hf⟩ := hd
  obtain ⟨xs, h1, h2, hq⟩ := arr_of ht hc hn (elt_str he) _ _ _ _ _ _ _ _ hf
  refine ⟨xs, ?_, h2, hq⟩
  simp only [RV]
  have h1 : cs.toList = xs.map ES := h1
  exact ⟨cs.toList, by simp, by simp [h1, h2], by simpa [RC] using h1⟩
theorem openLS (ht : P.underlying t = some (.slice e)) (he : P.underlying e = some (.string)) (hc : P.cellsOf e = 1) (hval : Value.okWide P w r b0 t v) (hd : DataW.Trod enc P w base sp held t v d ps) :
    ∃ xs : List (List UInt8), RV mTop w (.rb 1 (.ss xs)) v ∧ xs.length ≤ 9223372036854775807 ∧ ∀ x ∈ xs, x.length ≤ 9223372036854775807 := by
  obtain ⟨a, len, cap, rfl⟩ := okWide_slice ht hval
  obtain ⟨fuel, hf⟩ := hd
  rw [cells_oneO (by simp)] at hf
  obtain ⟨xs, ad, cap', h1, h2, h3, h4, hq⟩ := sl_of ht hc (elt_str he) _ _ _ _ _ _ _ _ hf
  simp only [List.cons.injEq, and_true, Value.slice.injEq] at h1
  obtain ⟨rfl, rfl, rfl⟩ := h1
  refine ⟨xs, ?_, h3, hq⟩
  simp only [RV, CR]
  exact ⟨_, _, _, xs.map ES, rfl, by simp [RC], by simp, h2, h4⟩
end
theorem rvs_cons {m : Hd} {a : AV} {v : Value} {l : List AV} {vs : List Value} (h : RV m w a v) (hs : RVs m w l vs) : RVs m w (a :: l) (v :: vs) := ⟨v, vs, rfl, h, hs⟩
theorem rvs_nil {m : Hd} : RVs m w [] [] := rfl
/-! ## A law's end -/
theorem trodAll_stays {H : Type} {enc : TypeId × Value → H} {W W' : World} (hl : laidOutB P = true) (hb : Below W.heap.size W W') :
    ∀ {ts : List TypeId} {vs : List Value} {ds : List (DataW H)} {ps : List MemPlace}, (ts.all fun t => P.readableRec t && decide (t < P.types.size)) = true →
      DataW.TrodAll enc P W 0 (fun _ => true) true ts vs ds ps → DataW.TrodAll enc P W' 0 (fun b => decide (b < W.heap.size)) true ts vs ds ps
  | [], [], [], _, _, h => h
  | t :: ts, v :: vs, d :: ds, ps, hr, h => by
    have hlt := h.lt
    obtain ⟨p, q, h1, h2, rfl⟩ := h
    simp only [List.all_cons, Bool.and_eq_true, decide_eq_true_eq] at hr
    exact ⟨p, q, Below.trod hl hr.1.1 hr.1.2 h1 hb fun x hx => hlt x (List.mem_append_left _ hx), trodAll_stays hl hb hr.2 h2, rfl⟩
  | [], [], _ :: _, _, _, h => h.elim
  | [], _ :: _, _, _, _, h => h.elim
  | _ :: _, [], _, _, _, h => h.elim
  | _ :: _, _ :: _, [], _, _, h => h.elim
theorem post_true {H : Type} {enc : TypeId × Value → H} {f : Func} {s : ChangeSpec} {W W' : World} {args : Array Value} {ds gs : List (DataW H)} {before : List MemPlace} {tb : TypeId}
    (hl : laidOutB P = true) (hr : (f.params.toList.all fun t => P.readableRec t && decide (t < P.types.size)) = true) (hrt : f.resultTypes = #[tb]) (hb : P.underlying tb = some .bool) (hsv : s.vars = [])
    (hW : DataW.Whole enc P f.params.toList s.vars false W args.toList ds gs before) (hfn : s.fn H (ds ++ []) = ⟨[.lit (.bool true)], ds, []⟩) (hk : Below W.heap.size W W') :
    s.post enc P f false true false false W args (.bool true) W' := by
  have hW' := hW
  obtain ⟨p, q, hA, hV, rfl, _, _⟩ := hW
  rw [hsv] at hV
  obtain ⟨rfl, rfl⟩ := trodVars_none hV
  refine ⟨ds, [], _, [], p, [], hW', ?_, ?_, ?_, hk.frame _, fun h => by cases h⟩
  · rw [hfn, hrt]
    exact trodAll_mk1 (shut_bool hb _)
  · rw [hfn]
    exact trodAll_stays hl hk hr hA
  · rw [hfn, hsv]
    rfl
/-- a law's walk, from the conditions of its code -/
theorem law_walk2 {x : Cx} {an cu : Anns} (hx : XOK P x) (hmx : P.follows .mixedOrders = true) {f : Nat} {fn : Func} {body : Code} (hf : P.funcs[f]? = some fn) (hbd : fn.body = some body) (hn : fn.ntmps = x.nt) (hdr : drawsOk x.tt x.dr body = true)
    {l : List AV} {vals : List Value} {w : World} (hl : llen l ≤ x.nt) (hv : RVs mTop w l vals) (hvc : vc real x an cu body ⟨zipSl 0 l, [], 64⟩ (retOk real x.tt false fn.results.toList [.val (.b true)])) :
    Calls P f vals.toArray w fun e w' => e = .returned (.bool true) ∧ Below w.heap.size w w' := by
  have hlen := RVs_length hv
  rw [llen_eq] at hl
  let E : Env := ⟨w, [], fun _ => True, none, [], fun _ => False⟩
  have hr : StR E x.nt ⟨zipSl 0 l, [], 64⟩ mTop { tmps := vals.toArray ++ Array.replicate (fn.ntmps - vals.toArray.size) undef, defers := [] } w :=
    ⟨entry_sl hv _, ⟨fun k ab h => (by cases h), fun k k' ab ab' v v' b h => (by cases h), fun b h => h.elim, fun k ab v b h => (by cases h), fun k ab v b h => (by cases h), fun _ _ => trivial⟩, fun k v b hk => (by cases hk), fun k _ => rfl, (by simp; omega), rfl,
      ⟨rfl, rfl, rfl, Nat.le_refl _, rfl, fun _ _ _ => rfl, fun k v b hk => (by cases hk), fun m0 w1 he => (by cases he), fun j v hj => (by cases hj), fun b h => h.elim, fun b h => h.elim⟩⟩
  refine calls_of_wp hf hbd (code_mono (vc_sound hx (fun j v hj => (by cases hj)) (.inl rfl) hmx body _ _ hdr hvc _ _ w hr) ?_)
  intro en a w' hp
  refine ends_sound hx.tt (fun l vs s' m1 w1 k1 k2 k3 => ?_) hp
  cases l with
  | nil => simp [retM] at k2
  | cons b r =>
    cases r with
    | cons c r => simp [retM, AV.nk] at k2
    | nil =>
      simp only [retM, AV.nk, and_true] at k2
      simp only [RVs] at k1
      obtain ⟨v, q, rfl, h1, rfl⟩ := k1
      have := RV_le b (.b true) v k2 (fun h => by cases h) h1
      simp only [RV, CR, List.cons.injEq, and_true] at this
      subst this
      exact ⟨rfl, k3.fr.os, k3.fr.tape, k3.fr.output, k3.fr.size, fun b hb => k3.fr.block b hb (fun h => by cases h)⟩
end
end Go.Vc
set_option linter.unusedVariables false
namespace Go.Vc
open Go Go.RowKit
/-- the closed facts of a row: what is asked of the whole program is handed in, the rest goes by reckoning -/
theorem joined_of {P : Program} {f : FuncId} {fn : Func} {s : ChangeSpec} {c : OpenClaim} (p1 : laidOutB P = true) (p2 : mapsRowed P = true) (p6 : P.stops = []) (p8 : P.stopKnobs = []) (p24 : P.stopsHeard = true) (p25 : P.mayEnter = true) (p26 : P.liftsFinal = false) (p27 : P.make = some .cut) (c26 : c.lifted = false) (c27 : c.make = .cut) (h0 : (c.wf (OpenSpec.ofChange s)) = true) (h3 : (fn.params.all (P.readableRec ·)) = true) (h4 : (namedTie P c.named s.vars) = true) (h5 : ((c.stops == [])) = true) (h7 : ((c.knobs == [])) = true) (h9 : ((c.inPlace == P.inPlace f)) = true) (h10 : ((c.unfollowed == P.unfollowed f)) = true) (h11 : ((c.recurses == P.recurses f)) = true) (h12 : ((c.named == P.varsNamed f)) = true) (h13 : ((c.maps == (fn.params.toList ++ s.plain.varTypes P).any (P.mapsRec ·))) = true) (h14 : ((c.ifaces == (fn.params.toList ++ s.plain.varTypes P).any (P.ifacesRec ·))) = true) (h15 : ((c.mapsOut == P.mapsAmong fn.resultTypes.toList)) = true) (h16 : ((c.loops == (fn.params.toList ++ s.plain.varTypes P).any (P.loopsFrom ·))) = true) (h17 : ((c.wideKeys == (fn.params.toList ++ s.plain.varTypes P ++ fn.resultTypes.toList).any (P.wideKeysFrom ·))) = true) (h18 : (s.vars.all (P.varReadable ·)) = true) (h19 : (fn.resultTypes.all (fun t => P.readableRec t && decide (t < P.types.size))) = true) (h20 : ((c.ifacesOut == fn.resultTypes.toList.any (P.ifacesRec ·))) = true) (h21 : ((c.loopsOut == fn.resultTypes.toList.any (P.loopsFrom ·))) = true) (h22 : ((c.plainKeys == P.plainKeys)) = true) (h23 : (c.shortTexts.isNone) = true) (h28 : ((c.kinds == (if c.domain.isEmpty then [] else fn.params.toList.map fun t => match P.underlying t with | some (.int k) => some k | _ => none))) = true) (h29 : ((c.pinned == c.pinnedBy)) = true) (h30 : ((c.veiled == (fn.params.toList ++ s.plain.varTypes P ++ fn.resultTypes.toList).any (P.veiledRec ·))) = true) (h31 : (c.veiledFits P fn.params.toList (fn.params.toList ++ s.plain.varTypes P ++ fn.resultTypes.toList)) = true) : joinedFacts P f fn s c = true := by
  unfold joinedFacts
  exact Bool.and_eq_true_iff.2 ⟨Bool.and_eq_true_iff.2 ⟨Bool.and_eq_true_iff.2 ⟨Bool.and_eq_true_iff.2 ⟨Bool.and_eq_true_iff.2 ⟨Bool.and_eq_true_iff.2 ⟨Bool.and_eq_true_iff.2 ⟨Bool.and_eq_true_iff.2 ⟨Bool.and_eq_true_iff.2 ⟨Bool.and_eq_true_iff.2 ⟨Bool.and_eq_true_iff.2 ⟨Bool.and_eq_true_iff.2 ⟨Bool.and_eq_true_iff.2 ⟨Bool.and_eq_true_iff.2 ⟨Bool.and_eq_true_iff.2 ⟨Bool.and_eq_true_iff.2 ⟨Bool.and_eq_true_iff.2 ⟨Bool.and_eq_true_iff.2 ⟨Bool.and_eq_true_iff.2 ⟨Bool.and_eq_true_iff.2 ⟨Bool.and_eq_true_iff.2 ⟨Bool.and_eq_true_iff.2 ⟨Bool.and_eq_true_iff.2 ⟨Bool.and_eq_true_iff.2 ⟨Bool.and_eq_true_iff.2 ⟨Bool.and_eq_true_iff.2 ⟨Bool.and_eq_true_iff.2 ⟨Bool.and_eq_true_iff.2 ⟨Bool.and_eq_true_iff.2 ⟨Bool.and_eq_true_iff.2 ⟨Bool.and_eq_true_iff.2 ⟨h0, p1⟩, p2⟩, h3⟩, h4⟩, h5⟩, (by rw [p6]; rfl)⟩, h7⟩, (by rw [p8]; rfl)⟩, h9⟩, h10⟩, h11⟩, h12⟩, h13⟩, h14⟩, h15⟩, h16⟩, h17⟩, h18⟩, h19⟩, h20⟩, h21⟩, h22⟩, h23⟩, p24⟩, p25⟩, (by rw [c26, p26]; rfl)⟩, (by rw [c27, p27]; rfl)⟩, h28⟩, h29⟩, h30⟩, h31⟩
end Go.Vc
set_option maxRecDepth 100000
namespace Go.Proofs.Ytmldccfchnlpgaa
open Go
/-- a sign by its number -/
abbrev kc (n : Nat) : Char := Char.ofNat n
theorem io_eq : Try.prog.initOrder = String.ofList [kc 104, kc 97, kc 114, kc 110, kc 101, kc 115, kc 115, kc 32, kc 97, kc 56, kc 50, kc 99, kc 49, kc 50, kc 50, kc 98, kc 48, kc 49, kc 102, kc 102, kc 56, kc 56, kc 99, kc 49, kc 51, kc 100, kc 97, kc 56, kc 53, kc 55, kc 54, kc 100, kc 56, kc 54, kc 52, kc 48, kc 102, kc 97, kc 48, kc 100, kc 54, kc 52, kc 57, kc 54, kc 50, kc 100, kc 54, kc 48, kc 48, kc 54, kc 98, kc 55, kc 101, kc 97, kc 53, kc 99, kc 98, kc 50, kc 97, kc 100, kc 98, kc 50, kc 49, kc 49, kc 56, kc 97, kc 48, kc 48, kc 48, kc 99, kc 48, kc 48, kc 32, kc 99, kc 117, kc 116, kc 32, kc 97, kc 116, kc 32, kc 115, kc 97, kc 99, kc 114, kc 105, kc 115, kc 116, kc 121, kc 47, kc 115, kc 97, kc 99, kc 114, kc 105, kc 115, kc 116, kc 121, kc 108, kc 97, kc 119, kc 52, kc 46, kc 83, kc 116, kc 114, kc 101, kc 97, kc 109, kc 84, kc 101, kc 108, kc 108, kc 115, kc 32, kc 115, kc 97, kc 99, kc 114, kc 105, kc 115, kc 116, kc 121, kc 47, kc 115, kc 97, kc 99, kc 114, kc 105, kc 115, kc 116, kc 121, kc 108, kc 97, kc 119, kc 50, kc 46, kc 83, kc 104, kc 97, kc 84, kc 101, kc 108, kc 108, kc 115, kc 32, kc 115, kc 97, kc 99, kc 114, kc 105, kc 115, kc 116, kc 121, kc 47, kc 115, kc 97, kc 99, kc 114, kc 105, kc 115, kc 116, kc 121, kc 108, kc 97, kc 119, kc 50, kc 46, kc 83, kc 104, kc 97, kc 72, kc 101, kc 120, kc 32, kc 115, kc 97, kc 99, kc 114, kc 105, kc 115, kc 116, kc 121, kc 47, kc 115, kc 97, kc 99, kc 114, kc 105, kc 115, kc 116, kc 121, kc 108, kc 97, kc 119, kc 50, kc 46, kc 83, kc 104, kc 97, kc 67, kc 104, kc 97, kc 105, kc 110, kc 115, kc 32, kc 115, kc 97, kc 99, kc 114, kc 105, kc 115, kc 116, kc 121, kc 47, kc 115, kc 97, kc 99, kc 114, kc 105, kc 115, kc 116, kc 121, kc 108, kc 97, kc 119, kc 50, kc 46, kc 83, kc 104, kc 97, kc 83, kc 105, kc 122, kc 101, kc 115, kc 32, kc 115, kc 97, kc 99, kc 114, kc 105, kc 115, kc 116, kc 121, kc 47, kc 115, kc 97, kc 99, kc 114, kc 105, kc 115, kc 116, kc 121, kc 108, kc 97, kc 119, kc 50, kc 46, kc 83, kc 104, kc 97, kc 80, kc 105, kc 101, kc 99, kc 101, kc 115, kc 32, kc 115, kc 97, kc 99, kc 114, kc 105, kc 115, kc 116, kc 121, kc 47, kc 115, kc 97, kc 99, kc 114, kc 105, kc 115, kc 116, kc 121, kc 108, kc 97, kc 119, kc 56, kc 46, kc 78, kc 111, kc 100, kc 101, kc 66, kc 111, kc 117, kc 110, kc 100, kc 115, kc 32, kc 115, kc 97, kc 99, kc 114, kc 105, kc 115, kc 116, kc 121, kc 47, kc 115, kc 97, kc 99, kc 114, kc 105, kc 115, kc 116, kc 121, kc 108, kc 97, kc 119, kc 56, kc 46, kc 78, kc 111, kc 100, kc 101, kc 70, kc 117, kc 108, kc 108, kc 32, kc 115, kc 97, kc 99, kc 114, kc 105, kc 115, kc 116, kc 121, kc 47, kc 115, kc 97, kc 99, kc 114, kc 105, kc 115, kc 116, kc 121, kc 108, kc 97, kc 119, kc 56, kc 46, kc 78, kc 111, kc 100, kc 101, kc 75, kc 105, kc 100, kc 115, kc 32, kc 115, kc 97, kc 99, kc 114, kc 105, kc 115, kc 116, kc 121, kc 47, kc 115, kc 97, kc 99, kc 114, kc 105, kc 115, kc 116, kc 121, kc 108, kc 97, kc 119, kc 56, kc 46, kc 78, kc 111, kc 100, kc 101, kc 82, kc 101, kc 97, kc 100, kc 115, kc 32, kc 115, kc 97, kc 99, kc 114, kc 105, kc 115, kc 116, kc 121, kc 47, kc 115, kc 97, kc 99, kc 114, kc 105, kc 115, kc 116, kc 121, kc 108, kc 97, kc 119, kc 56, kc 46, kc 78, kc 111, kc 100, kc 101, kc 66, kc 97, kc 99, kc 107, kc 32, kc 115, kc 97, kc 99, kc 114, kc 105, kc 115, kc 116, kc 121, kc 47, kc 115, kc 97, kc 99, kc 114, kc 105, kc 115, kc 116, kc 121, kc 108, kc 97, kc 119, kc 51, kc 46, kc 77, kc 97, kc 99, kc 76, kc 111, kc 110, kc 103, kc 32, kc 115, kc 97, kc 99, kc 114, kc 105, kc 115, kc 116, kc 121, kc 47, kc 115, kc 97, kc 99, kc 114, kc 105, kc 115, kc 116, kc 121, kc 108, kc 97, kc 119, kc 51, kc 46, kc 77, kc 97, kc 99, kc 66, kc 101, kc 103, kc 105, kc 110, kc 115, kc 32, kc 115, kc 97, kc 99, kc 114, kc 105, kc 115, kc 116, kc 121, kc 47, kc 115, kc 97, kc 99, kc 114, kc 105, kc 115, kc 116, kc 121, kc 108, kc 97, kc 119, kc 51, kc 46, kc 77, kc 97, kc 99, kc 65, kc 112, kc 97, kc 114, kc 116, kc 32, kc 115, kc 97, kc 99, kc 114, kc 105, kc 115, kc 116, kc 121, kc 47, kc 115, kc 97, kc 99, kc 114, kc 105, kc 115, kc 116, kc 121, kc 108, kc 97, kc 119, kc 51, kc 46, kc 77, kc 97, kc 99, kc 82, kc 111, kc 119, kc 115, kc 32, kc 115, kc 97, kc 99, kc 114, kc 105, kc 115, kc 116, kc 121, kc 47, kc 115, kc 97, kc 99, kc 114, kc 105, kc 115, kc 116, kc 121, kc 108, kc 97, kc 119, kc 51, kc 46, kc 77, kc 97, kc 99, kc 69, kc 113, kc 117, kc 97, kc 108, kc 32, kc 115, kc 97, kc 99, kc 114, kc 105, kc 115, kc 116, kc 121, kc 47, kc 115, kc 97, kc 99, kc 114, kc 105, kc 115, kc 116, kc 121, kc 108, kc 97, kc 119, kc 51, kc 46, kc 77, kc 97, kc 99, kc 84, kc 101, kc 108, kc 108, kc 115, kc 32, kc 115, kc 97, kc 99, kc 114, kc 105, kc 115, kc 116, kc 121, kc 47, kc 115, kc 97, kc 99, kc 114, kc 105, kc 115, kc 116, kc 121, kc 108, kc 97, kc 119, kc 53, kc 46, kc 83, kc 101, kc 97, kc 108, kc 84, kc 101, kc 108, kc 108, kc 115, kc 32, kc 115, kc 97, kc 99, kc 114, kc 105, kc 115, kc 116, kc 121, kc 47, kc 115, kc 97, kc 99, kc 114, kc 105, kc 115, kc 116, kc 121, kc 108, kc 97, kc 119, kc 53, kc 46, kc 83, kc 101, kc 97, kc 108, kc 66, kc 97, kc 99, kc 107, kc 32, kc 115, kc 97, kc 99, kc 114, kc 105, kc 115, kc 116, kc 121, kc 47, kc 115, kc 97, kc 99, kc 114, kc 105, kc 115, kc 116, kc 121, kc 108, kc 97, kc 119, kc 53, kc 46, kc 83, kc 101, kc 97, kc 108, kc 84, kc 97, kc 103, kc 115, kc 32, kc 115, kc 97, kc 99, kc 114, kc 105, kc 115, kc 116, kc 121, kc 47, kc 115, kc 97, kc 99, kc 114, kc 105, kc 115, kc 116, kc 121, kc 108, kc 97, kc 119, kc 53, kc 46, kc 83, kc 101, kc 97, kc 108, kc 87, kc 114, kc 97, kc 112, kc 115, kc 32, kc 115, kc 97, kc 99, kc 114, kc 105, kc 115, kc 116, kc 121, kc 47, kc 115, kc 97, kc 99, kc 114, kc 105, kc 115, kc 116, kc 121, kc 108, kc 97, kc 119, kc 53, kc 46, kc 83, kc 101, kc 97, kc 108, kc 78, kc 111, kc 110, kc 99, kc 101, kc 115, kc 32, kc 115, kc 97, kc 99, kc 114, kc 105, kc 115, kc 116, kc 121, kc 47, kc 115, kc 97, kc 99, kc 114, kc 105, kc 115, kc 116, kc 121, kc 108, kc 97, kc 119, kc 53, kc 46, kc 83, kc 101, kc 97, kc 108, kc 76, kc 101, kc 110, kc 103, kc 116, kc 104, kc 115, kc 32, kc 115, kc 97, kc 99, kc 114, kc 105, kc 115, kc 116, kc 121, kc 47, kc 115, kc 97, kc 99, kc 114, kc 105, kc 115, kc 116, kc 121, kc 108, kc 97, kc 119, kc 50, kc 55, kc 46, kc 73, kc 109, kc 97, kc 103, kc 101, kc 84, kc 101, kc 108, kc 108, kc 115, kc 32, kc 115, kc 97, kc 99, kc 114, kc 105, kc 115, kc 116, kc 121, kc 47, kc 115, kc 97, kc 99, kc 114, kc 105, kc 115, kc 116, kc 121, kc 108, kc 97, kc 119, kc 50, kc 55, kc 46, kc 73, kc 109, kc 97, kc 103, kc 101, kc 87, kc 114, kc 97, kc 112, kc 112, kc 101, kc 100, kc 32, kc 115, kc 97, kc 99, kc 114, kc 105, kc 115, kc 116, kc 121, kc 47, kc 115, kc 97, kc 99, kc 114, kc 105, kc 115, kc 116, kc 121, kc 108, kc 97, kc 119, kc 50, kc 55, kc 46, kc 73, kc 109, kc 97, kc 103, kc 101, kc 80, kc 97, kc 114, kc 116, kc 115, kc 32, kc 115, kc 97, kc 99, kc 114, kc 105, kc 115, kc 116, kc 121, kc 47, kc 115, kc 97, kc 99, kc 114, kc 105, kc 115, kc 116, kc 121, kc 108, kc 97, kc 119, kc 50, kc 55, kc 46, kc 73, kc 109, kc 97, kc 103, kc 101, kc 83, kc 101, kc 99, kc 116, kc 111, kc 114, kc 115, kc 32, kc 115, kc 97, kc 99, kc 114, kc 105, kc 115, kc 116, kc 121, kc 47, kc 115, kc 97, kc 99, kc 114, kc 105, kc 115, kc 116, kc 121, kc 108, kc 97, kc 119, kc 50, kc 55, kc 46, kc 73, kc 109, kc 97, kc 103, kc 101, kc 80, kc 105, kc 101, kc 99, kc 101, kc 115, kc 32, kc 115, kc 97, kc 99, kc 114, kc 105, kc 115, kc 116, kc 121, kc 47, kc 115, kc 97, kc 99, kc 114, kc 105, kc 115, kc 116, kc 121, kc 108, kc 97, kc 119, kc 50, kc 55, kc 46, kc 73, kc 109, kc 97, kc 103, kc 101, kc 70, kc 105, kc 114, kc 115, kc 116] := by kernel_rfl
theorem io_chars : Try.prog.initOrder.toList = [kc 104, kc 97, kc 114, kc 110, kc 101, kc 115, kc 115, kc 32, kc 97, kc 56, kc 50, kc 99, kc 49, kc 50, kc 50, kc 98, kc 48, kc 49, kc 102, kc 102, kc 56, kc 56, kc 99, kc 49, kc 51, kc 100, kc 97, kc 56, kc 53, kc 55, kc 54, kc 100, kc 56, kc 54, kc 52, kc 48, kc 102, kc 97, kc 48, kc 100, kc 54, kc 52, kc 57, kc 54, kc 50, kc 100, kc 54, kc 48, kc 48, kc 54, kc 98, kc 55, kc 101, kc 97, kc 53, kc 99, kc 98, kc 50, kc 97, kc 100, kc 98, kc 50, kc 49, kc 49, kc 56, kc 97, kc 48, kc 48, kc 48, kc 99, kc 48, kc 48, kc 32, kc 99, kc 117, kc 116, kc 32, kc 97, kc 116, kc 32, kc 115, kc 97, kc 99, kc 114, kc 105, kc 115, kc 116, kc 121, kc 47, kc 115, kc 97, kc 99, kc 114, kc 105, kc 115, kc 116, kc 121, kc 108, kc 97, kc 119, kc 52, kc 46, kc 83, kc 116, kc 114, kc 101, kc 97, kc 109, kc 84, kc 101, kc 108, kc 108, kc 115, kc 32, kc 115, kc 97, kc 99, kc 114, kc 105, kc 115, kc 116, kc 121, kc 47, kc 115, kc 97, kc 99, kc 114, kc 105, kc 115, kc 116, kc 121, kc 108, kc 97, kc 119, kc 50, kc 46, kc 83, kc 104, kc 97, kc 84, kc 101, kc 108, kc 108, kc 115, kc 32, kc 115, kc 97, kc 99, kc 114, kc 105, kc 115, kc 116, kc 121, kc 47, kc 115, kc 97, kc 99, kc 114, kc 105, kc 115, kc 116, kc 121, kc 108, kc 97, kc 119, kc 50, kc 46, kc 83, kc 104, kc 97, kc 72, kc 101, kc 120, kc 32, kc 115, kc 97, kc 99, kc 114, kc 105, kc 115, kc 116, kc 121, kc 47, kc 115, kc 97, kc 99, kc 114, kc 105, kc 115, kc 116, kc 121, kc 108, kc 97, kc 119, kc 50, kc 46, kc 83, kc 104, kc 97, kc 67, kc 104, kc 97, kc 105, kc 110, kc 115, kc 32, kc 115, kc 97, kc 99, kc 114, kc 105, kc 115, kc 116, kc 121, kc 47, kc 115, kc 97, kc 99, kc 114, kc 105, kc 115, kc 116, kc 121, kc 108, kc 97, kc 119, kc 50, kc 46, kc 83, kc 104, kc 97, kc 83, kc 105, kc 122, kc 101, kc 115, kc 32, kc 115, kc 97, kc 99, kc 114, kc 105, kc 115, kc 116, kc 121, kc 47, kc 115, kc 97, kc 99, kc 114, kc 105, kc 115, kc 116, kc 121, kc 108, kc 97, kc 119, kc 50, kc 46, kc 83, kc 104, kc 97, kc 80, kc 105, kc 101, kc 99, kc 101, kc 115, kc 32, kc 115, kc 97, kc 99, kc 114, kc 105, kc 115, kc 116, kc 121, kc 47, kc 115, kc 97, kc 99, kc 114, kc 105, kc 115, kc 116, kc 121, kc 108, kc 97, kc 119, kc 56, kc 46, kc 78, kc 111, kc 100, kc 101, kc 66, kc 111, kc 117, kc 110, kc 100, kc 115, kc 32, kc 115, kc 97, kc 99, kc 114, kc 105, kc 115, kc 116, kc 121, kc 47, kc 115, kc 97, kc 99, kc 114, kc 105, kc 115, kc 116, kc 121, kc 108, kc 97, kc 119, kc 56, kc 46, kc 78, kc 111, kc 100, kc 101, kc 70, kc 117, kc 108, kc 108, kc 32, kc 115, kc 97, kc 99, kc 114, kc 105, kc 115, kc 116, kc 121, kc 47, kc 115, kc 97, kc 99, kc 114, kc 105, kc 115, kc 116, kc 121, kc 108, kc 97, kc 119, kc 56, kc 46, kc 78, kc 111, kc 100, kc 101, kc 75, kc 105, kc 100, kc 115, kc 32, kc 115, kc 97, kc 99, kc 114, kc 105, kc 115, kc 116, kc 121, kc 47, kc 115, kc 97, kc 99, kc 114, kc 105, kc 115, kc 116, kc 121, kc 108, kc 97, kc 119, kc 56, kc 46, kc 78, kc 111, kc 100, kc 101, kc 82, kc 101, kc 97, kc 100, kc 115, kc 32, kc 115, kc 97, kc 99, kc 114, kc 105, kc 115, kc 116, kc 121, kc 47, kc 115, kc 97, kc 99, kc 114, kc 105, kc 115, kc 116, kc 121, kc 108, kc 97, kc 119, kc 56, kc 46, kc 78, kc 111, kc 100, kc 101, kc 66, kc 97, kc 99, kc 107, kc 32, kc 115, kc 97, kc 99, kc 114, kc 105, kc 115, kc 116, kc 121, kc 47, kc 115, kc 97, kc 99, kc 114, kc 105, kc 115, kc 116, kc 121, kc 108, kc 97, kc 119, kc 51, kc 46, kc 77, kc 97, kc 99, kc 76, kc 111, kc 110, kc 103, kc 32, kc 115, kc 97, kc 99, kc 114, kc 105, kc 115, kc 116, kc 121, kc 47, kc 115, kc 97, kc 99, kc 114, kc 105, kc 115, kc 116, kc 121, kc 108, kc 97, kc 119, kc 51, kc 46, kc 77, kc 97, kc 99, kc 66, kc 101, kc 103, kc 105, kc 110, kc 115, kc 32, kc 115, kc 97, kc 99, kc 114, kc 105, kc 115, kc 116, kc 121, kc 47, kc 115, kc 97, kc 99, kc 114, kc 105, kc 115, kc 116, kc 121, kc 108, kc 97, kc 119, kc 51, kc 46, kc 77, kc 97, kc 99, kc 65, kc 112, kc 97, kc 114, kc 116, kc 32, kc 115, kc 97, kc 99, kc 114, kc 105, kc 115, kc 116, kc 121, kc 47, kc 115, kc 97, kc 99, kc 114, kc 105, kc 115, kc 116, kc 121, kc 108, kc 97, kc 119, kc 51, kc 46, kc 77, kc 97, kc 99, kc 82, kc 111, kc 119, kc 115, kc 32, kc 115, kc 97, kc 99, kc 114, kc 105, kc 115, kc 116, kc 121, kc 47, kc 115, kc 97, kc 99, kc 114, kc 105, kc 115, kc 116, kc 121, kc 108, kc 97, kc 119, kc 51, kc 46, kc 77, kc 97, kc 99, kc 69, kc 113, kc 117, kc 97, kc 108, kc 32, kc 115, kc 97, kc 99, kc 114, kc 105, kc 115, kc 116, kc 121, kc 47, kc 115, kc 97, kc 99, kc 114, kc 105, kc 115, kc 116, kc 121, kc 108, kc 97, kc 119, kc 51, kc 46, kc 77, kc 97, kc 99, kc 84, kc 101, kc 108, kc 108, kc 115, kc 32, kc 115, kc 97, kc 99, kc 114, kc 105, kc 115, kc 116, kc 121, kc 47, kc 115, kc 97, kc 99, kc 114, kc 105, kc 115, kc 116, kc 121, kc 108, kc 97, kc 119, kc 53, kc 46, kc 83, kc 101, kc 97, kc 108, kc 84, kc 101, kc 108, kc 108, kc 115, kc 32, kc 115, kc 97, kc 99, kc 114, kc 105, kc 115, kc 116, kc 121, kc 47, kc 115, kc 97, kc 99, kc 114, kc 105, kc 115, kc 116, kc 121, kc 108, kc 97, kc 119, kc 53, kc 46, kc 83, kc 101, kc 97, kc 108, kc 66, kc 97, kc 99, kc 107, kc 32, kc 115, kc 97, kc 99, kc 114, kc 105, kc 115, kc 116, kc 121, kc 47, kc 115, kc 97, kc 99, kc 114, kc 105, kc 115, kc 116, kc 121, kc 108, kc 97, kc 119, kc 53, kc 46, kc 83, kc 101, kc 97, kc 108, kc 84, kc 97, kc 103, kc 115, kc 32, kc 115, kc 97, kc 99, kc 114, kc 105, kc 115, kc 116, kc 121, kc 47, kc 115, kc 97, kc 99, kc 114, kc 105, kc 115, kc 116, kc 121, kc 108, kc 97, kc 119, kc 53, kc 46, kc 83, kc 101, kc 97, kc 108, kc 87, kc 114, kc 97, kc 112, kc 115, kc 32, kc 115, kc 97, kc 99, kc 114, kc 105, kc 115, kc 116, kc 121, kc 47, kc 115, kc 97, kc 99, kc 114, kc 105, kc 115, kc 116, kc 121, kc 108, kc 97, kc 119, kc 53, kc 46, kc 83, kc 101, kc 97, kc 108, kc 78, kc 111, kc 110, kc 99, kc 101, kc 115, kc 32, kc 115, kc 97, kc 99, kc 114, kc 105, kc 115, kc 116, kc 121, kc 47, kc 115, kc 97, kc 99, kc 114, kc 105, kc 115, kc 116, kc 121, kc 108, kc 97, kc 119, kc 53, kc 46, kc 83, kc 101, kc 97, kc 108, kc 76, kc 101, kc 110, kc 103, kc 116, kc 104, kc 115, kc 32, kc 115, kc 97, kc 99, kc 114, kc 105, kc 115, kc 116, kc 121, kc 47, kc 115, kc 97, kc 99, kc 114, kc 105, kc 115, kc 116, kc 121, kc 108, kc 97, kc 119, kc 50, kc 55, kc 46, kc 73, kc 109, kc 97, kc 103, kc 101, kc 84, kc 101, kc 108, kc 108, kc 115, kc 32, kc 115, kc 97, kc 99, kc 114, kc 105, kc 115, kc 116, kc 121, kc 47, kc 115, kc 97, kc 99, kc 114, kc 105, kc 115, kc 116, kc 121, kc 108, kc 97, kc 119, kc 50, kc 55, kc 46, kc 73, kc 109, kc 97, kc 103, kc 101, kc 87, kc 114, kc 97, kc 112, kc 112, kc 101, kc 100, kc 32, kc 115, kc 97, kc 99, kc 114, kc 105, kc 115, kc 116, kc 121, kc 47, kc 115, kc 97, kc 99, kc 114, kc 105, kc 115, kc 116, kc 121, kc 108, kc 97, kc 119, kc 50, kc 55, kc 46, kc 73, kc 109, kc 97, kc 103, kc 101, kc 80, kc 97, kc 114, kc 116, kc 115, kc 32, kc 115, kc 97, kc 99, kc 114, kc 105, kc 115, kc 116, kc 121, kc 47, kc 115, kc 97, kc 99, kc 114, kc 105, kc 115, kc 116, kc 121, kc 108, kc 97, kc 119, kc 50, kc 55, kc 46, kc 73, kc 109, kc 97, kc 103, kc 101, kc 83, kc 101, kc 99, kc 116, kc 111, kc 114, kc 115, kc 32, kc 115, kc 97, kc 99, kc 114, kc 105, kc 115, kc 116, kc 121, kc 47, kc 115, kc 97, kc 99, kc 114, kc 105, kc 115, kc 116, kc 121, kc 108, kc 97, kc 119, kc 50, kc 55, kc 46, kc 73, kc 109, kc 97, kc 103, kc 101, kc 80, kc 105, kc 101, kc 99, kc 101, kc 115, kc 32, kc 115, kc 97, kc 99, kc 114, kc 105, kc 115, kc 116, kc 121, kc 47, kc 115, kc 97, kc 99, kc 114, kc 105, kc 115, kc 116, kc 121, kc 108, kc 97, kc 119, kc 50, kc 55, kc 46, kc 73, kc 109, kc 97, kc 103, kc 101, kc 70, kc 105, kc 114, kc 115, kc 116] := by
  rw [io_eq]
  exact String.toList_ofList
theorem ws_word : ∀ (w r : List Char), (w.all fun c => c != kc 32) = true → wordsSigns (w ++ kc 32 :: r) = w :: wordsSigns r
  | [], r, _ => rfl
  | c :: w, r, h => by
    simp only [List.all_cons, Bool.and_eq_true, bne_iff_ne, ne_eq] at h
    have ih := ws_word w r h.2
    rw [List.cons_append, wordsSigns]
    · rw [ih]
    · intro e; exact h.1 e
theorem io_words : ∃ ws, behindMainWord (wordsSigns Try.prog.initOrder.toList) = [kc 99, kc 117, kc 116] :: ws := by
  refine ⟨wordsSigns [kc 97, kc 116, kc 32, kc 115, kc 97, kc 99, kc 114, kc 105, kc 115, kc 116, kc 121, kc 47, kc 115, kc 97, kc 99, kc 114, kc 105, kc 115, kc 116, kc 121, kc 108, kc 97, kc 119, kc 52, kc 46, kc 83, kc 116, kc 114, kc 101, kc 97, kc 109, kc 84, kc 101, kc 108, kc 108, kc 115, kc 32, kc 115, kc 97, kc 99, kc 114, kc 105, kc 115, kc 116, kc 121, kc 47, kc 115, kc 97, kc 99, kc 114, kc 105, kc 115, kc 116, kc 121, kc 108, kc 97, kc 119, kc 50, kc 46, kc 83, kc 104, kc 97, kc 84, kc 101, kc 108, kc 108, kc 115, kc 32, kc 115, kc 97, kc 99, kc 114, kc 105, kc 115, kc 116, kc 121, kc 47, kc 115, kc 97, kc 99, kc 114, kc 105, kc 115, kc 116, kc 121, kc 108, kc 97, kc 119, kc 50, kc 46, kc 83, kc 104, kc 97, kc 72, kc 101, kc 120, kc 32, kc 115, kc 97, kc 99, kc 114, kc 105, kc 115, kc 116, kc 121, kc 47, kc 115, kc 97, kc 99, kc 114, kc 105, kc 115, kc 116, kc 121, kc 108, kc 97, kc 119, kc 50, kc 46, kc 83, kc 104, kc 97, kc 67, kc 104, kc 97, kc 105, kc 110, kc 115, kc 32, kc 115, kc 97, kc 99, kc 114, kc 105, kc 115, kc 116, kc 121, kc 47, kc 115, kc 97, kc 99, kc 114, kc 105, kc 115, kc 116, kc 121, kc 108, kc 97, kc 119, kc 50, kc 46, kc 83, kc 104, kc 97, kc 83, kc 105, kc 122, kc 101, kc 115, kc 32, kc 115, kc 97, kc 99, kc 114, kc 105, kc 115, kc 116, kc 121, kc 47, kc 115, kc 97, kc 99, kc 114, kc 105, kc 115, kc 116, kc 121, kc 108, kc 97, kc 119, kc 50, kc 46, kc 83, kc 104, kc 97, kc 80, kc 105, kc 101, kc 99, kc 101, kc 115, kc 32, kc 115, kc 97, kc 99, kc 114, kc 105, kc 115, kc 116, kc 121, kc 47, kc 115, kc 97, kc 99, kc 114, kc 105, kc 115, kc 116, kc 121, kc 108, kc 97, kc 119, kc 56, kc 46, kc 78, kc 111, kc 100, kc 101, kc 66, kc 111, kc 117, kc 110, kc 100, kc 115, kc 32, kc 115, kc 97, kc 99, kc 114, kc 105, kc 115, kc 116, kc 121, kc 47, kc 115, kc 97, kc 99, kc 114, kc 105, kc 115, kc 116, kc 121, kc 108, kc 97, kc 119, kc 56, kc 46, kc 78, kc 111, kc 100, kc 101, kc 70, kc 117, kc 108, kc 108, kc 32, kc 115, kc 97, kc 99, kc 114, kc 105, kc 115, kc 116, kc 121, kc 47, kc 115, kc 97, kc 99, kc 114, kc 105, kc 115, kc 116, kc 121, kc 108, kc 97, kc 119, kc 56, kc 46, kc 78, kc 111, kc 100, kc 101, kc 75, kc 105, kc 100, kc 115, kc 32, kc 115, kc 97, kc 99, kc 114, kc 105, kc 115, kc 116, kc 121, kc 47, kc 115, kc 97, kc 99, kc 114, kc 105, kc 115, kc 116, kc 121, kc 108, kc 97, kc 119, kc 56, kc 46, kc 78, kc 111, kc 100, kc 101, kc 82, kc 101, kc 97, kc 100, kc 115, kc 32, kc 115, kc 97, kc 99, kc 114, kc 105, kc 115, kc 116, kc 121, kc 47, kc 115, kc 97, kc 99, kc 114, kc 105, kc 115, kc 116, kc 121, kc 108, kc 97, kc 119, kc 56, kc 46, kc 78, kc 111, kc 100, kc 101, kc 66, kc 97, kc 99, kc 107, kc 32, kc 115, kc 97, kc 99, kc 114, kc 105, kc 115, kc 116, kc 121, kc 47, kc 115, kc 97, kc 99, kc 114, kc 105, kc 115, kc 116, kc 121, kc 108, kc 97, kc 119, kc 51, kc 46, kc 77, kc 97, kc 99, kc 76, kc 111, kc 110, kc 103, kc 32, kc 115, kc 97, kc 99, kc 114, kc 105, kc 115, kc 116, kc 121, kc 47, kc 115, kc 97, kc 99, kc 114, kc 105, kc 115, kc 116, kc 121, kc 108, kc 97, kc 119, kc 51, kc 46, kc 77, kc 97, kc 99, kc 66, kc 101, kc 103, kc 105, kc 110, kc 115, kc 32, kc 115, kc 97, kc 99, kc 114, kc 105, kc 115, kc 116, kc 121, kc 47, kc 115, kc 97, kc 99, kc 114, kc 105, kc 115, kc 116, kc 121, kc 108, kc 97, kc 119, kc 51, kc 46, kc 77, kc 97, kc 99, kc 65, kc 112, kc 97, kc 114, kc 116, kc 32, kc 115, kc 97, kc 99, kc 114, kc 105, kc 115, kc 116, kc 121, kc 47, kc 115, kc 97, kc 99, kc 114, kc 105, kc 115, kc 116, kc 121, kc 108, kc 97, kc 119, kc 51, kc 46, kc 77, kc 97, kc 99, kc 82, kc 111, kc 119, kc 115, kc 32, kc 115, kc 97, kc 99, kc 114, kc 105, kc 115, kc 116, kc 121, kc 47, kc 115, kc 97, kc 99, kc 114, kc 105, kc 115, kc 116, kc 121, kc 108, kc 97, kc 119, kc 51, kc 46, kc 77, kc 97, kc 99, kc 69, kc 113, kc 117, kc 97, kc 108, kc 32, kc 115, kc 97, kc 99, kc 114, kc 105, kc 115, kc 116, kc 121, kc 47, kc 115, kc 97, kc 99, kc 114, kc 105, kc 115, kc 116, kc 121, kc 108, kc 97, kc 119, kc 51, kc 46, kc 77, kc 97, kc 99, kc 84, kc 101, kc 108, kc 108, kc 115, kc 32, kc 115, kc 97, kc 99, kc 114, kc 105, kc 115, kc 116, kc 121, kc 47, kc 115, kc 97, kc 99, kc 114, kc 105, kc 115, kc 116, kc 121, kc 108, kc 97, kc 119, kc 53, kc 46, kc 83, kc 101, kc 97, kc 108, kc 84, kc 101, kc 108, kc 108, kc 115, kc 32, kc 115, kc 97, kc 99, kc 114, kc 105, kc 115, kc 116, kc 121, kc 47, kc 115, kc 97, kc 99, kc 114, kc 105, kc 115, kc 116, kc 121, kc 108, kc 97, kc 119, kc 53, kc 46, kc 83, kc 101, kc 97, kc 108, kc 66, kc 97, kc 99, kc 107, kc 32, kc 115, kc 97, kc 99, kc 114, kc 105, kc 115, kc 116, kc 121, kc 47, kc 115, kc 97, kc 99, kc 114, kc 105, kc 115, kc 116, kc 121, kc 108, kc 97, kc 119, kc 53, kc 46, kc 83, kc 101, kc 97, kc 108, kc 84, kc 97, kc 103, kc 115, kc 32, kc 115, kc 97, kc 99, kc 114, kc 105, kc 115, kc 116, kc 121, kc 47, kc 115, kc 97, kc 99, kc 114, kc 105, kc 115, kc 116, kc 121, kc 108, kc 97, kc 119, kc 53, kc 46, kc 83, kc 101, kc 97, kc 108, kc 87, kc 114, kc 97, kc 112, kc 115, kc 32, kc 115, kc 97, kc 99, kc 114, kc 105, kc 115, kc 116, kc 121, kc 47, kc 115, kc 97, kc 99, kc 114, kc 105, kc 115, kc 116, kc 121, kc 108, kc 97, kc 119, kc 53, kc 46, kc 83, kc 101, kc 97, kc 108, kc 78, kc 111, kc 110, kc 99, kc 101, kc 115, kc 32, kc 115, kc 97, kc 99, kc 114, kc 105, kc 115, kc 116, kc 121, kc 47, kc 115, kc 97, kc 99, kc 114, kc 105, kc 115, kc 116, kc 121, kc 108, kc 97, kc 119, kc 53, kc 46, kc 83, kc 101, kc 97, kc 108, kc 76, kc 101, kc 110, kc 103, kc 116, kc 104, kc 115, kc 32, kc 115, kc 97, kc 99, kc 114, kc 105, kc 115, kc 116, kc 121, kc 47, kc 115, kc 97, kc 99, kc 114, kc 105, kc 115, kc 116, kc 121, kc 108, kc 97, kc 119, kc 50, kc 55, kc 46, kc 73, kc 109, kc 97, kc 103, kc 101, kc 84, kc 101, kc 108, kc 108, kc 115, kc 32, kc 115, kc 97, kc 99, kc 114, kc 105, kc 115, kc 116, kc 121, kc 47, kc 115, kc 97, kc 99, kc 114, kc 105, kc 115, kc 116, kc 121, kc 108, kc 97, kc 119, kc 50, kc 55, kc 46, kc 73, kc 109, kc 97, kc 103, kc 101, kc 87, kc 114, kc 97, kc 112, kc 112, kc 101, kc 100, kc 32, kc 115, kc 97, kc 99, kc 114, kc 105, kc 115, kc 116, kc 121, kc 47, kc 115, kc 97, kc 99, kc 114, kc 105, kc 115, kc 116, kc 121, kc 108, kc 97, kc 119, kc 50, kc 55, kc 46, kc 73, kc 109, kc 97, kc 103, kc 101, kc 80, kc 97, kc 114, kc 116, kc 115, kc 32, kc 115, kc 97, kc 99, kc 114, kc 105, kc 115, kc 116, kc 121, kc 47, kc 115, kc 97, kc 99, kc 114, kc 105, kc 115, kc 116, kc 121, kc 108, kc 97, kc 119, kc 50, kc 55, kc 46, kc 73, kc 109, kc 97, kc 103, kc 101, kc 83, kc 101, kc 99, kc 116, kc 111, kc 114, kc 115, kc 32, kc 115, kc 97, kc 99, kc 114, kc 105, kc 115, kc 116, kc 121, kc 47, kc 115, kc 97, kc 99, kc 114, kc 105, kc 115, kc 116, kc 121, kc 108, kc 97, kc 119, kc 50, kc 55, kc 46, kc 73, kc 109, kc 97, kc 103, kc 101, kc 80, kc 105, kc 101, kc 99, kc 101, kc 115, kc 32, kc 115, kc 97, kc 99, kc 114, kc 105, kc 115, kc 116, kc 121, kc 47, kc 115, kc 97, kc 99, kc 114, kc 105, kc 115, kc 116, kc 121, kc 108, kc 97, kc 119, kc 50, kc 55, kc 46, kc 73, kc 109, kc 97, kc 103, kc 101, kc 70, kc 105, kc 114, kc 115, kc 116], ?_⟩
  rw [io_chars]
  show behindMainWord (wordsSigns ([kc 104, kc 97, kc 114, kc 110, kc 101, kc 115, kc 115] ++ kc 32 :: ([kc 97, kc 56, kc 50, kc 99, kc 49, kc 50, kc 50, kc 98, kc 48, kc 49, kc 102, kc 102, kc 56, kc 56, kc 99, kc 49, kc 51, kc 100, kc 97, kc 56, kc 53, kc 55, kc 54, kc 100, kc 56, kc 54, kc 52, kc 48, kc 102, kc 97, kc 48, kc 100, kc 54, kc 52, kc 57, kc 54, kc 50, kc 100, kc 54, kc 48, kc 48, kc 54, kc 98, kc 55, kc 101, kc 97, kc 53, kc 99, kc 98, kc 50, kc 97, kc 100, kc 98, kc 50, kc 49, kc 49, kc 56, kc 97, kc 48, kc 48, kc 48, kc 99, kc 48, kc 48] ++ kc 32 :: ([kc 99, kc 117, kc 116] ++ kc 32 :: [kc 97, kc 116, kc 32, kc 115, kc 97, kc 99, kc 114, kc 105, kc 115, kc 116, kc 121, kc 47, kc 115, kc 97, kc 99, kc 114, kc 105, kc 115, kc 116, kc 121, kc 108, kc 97, kc 119, kc 52, kc 46, kc 83, kc 116, kc 114, kc 101, kc 97, kc 109, kc 84, kc 101, kc 108, kc 108, kc 115, kc 32, kc 115, kc 97, kc 99, kc 114, kc 105, kc 115, kc 116, kc 121, kc 47, kc 115, kc 97, kc 99, kc 114, kc 105, kc 115, kc 116, kc 121, kc 108, kc 97, kc 119, kc 50, kc 46, kc 83, kc 104, kc 97, kc 84, kc 101, kc 108, kc 108, kc 115, kc 32, kc 115, kc 97, kc 99, kc 114, kc 105, kc 115, kc 116, kc 121, kc 47, kc 115, kc 97, kc 99, kc 114, kc 105, kc 115, kc 116, kc 121, kc 108, kc 97, kc 119, kc 50, kc 46, kc 83, kc 104, kc 97, kc 72, kc 101, kc 120, kc 32, kc 115, kc 97, kc 99, kc 114, kc 105, kc 115, kc 116, kc 121, kc 47, kc 115, kc 97, kc 99, kc 114, kc 105, kc 115, kc 116, kc 121, kc 108, kc 97, kc 119, kc 50, kc 46, kc 83, kc 104, kc 97, kc 67, kc 104, kc 97, kc 105, kc 110, kc 115, kc 32, kc 115, kc 97, kc 99, kc 114, kc 105, kc 115, kc 116, kc 121, kc 47, kc 115, kc 97, kc 99, kc 114, kc 105, kc 115, kc 116, kc 121, kc 108, kc 97, kc 119, kc 50, kc 46, kc 83, kc 104, kc 97, kc 83, kc 105, kc 122, kc 101, kc 115, kc 32, kc 115, kc 97, kc 99, kc 114, kc 105, kc 115, kc 116, kc 121, kc 47, kc 115, kc 97, kc 99, kc 114, kc 105, kc 115, kc 116, kc 121, kc 108, kc 97, kc 119, kc 50, kc 46, kc 83, kc 104, kc 97, kc 80, kc 105, kc 101, kc 99, kc 101, kc 115, kc 32, kc 115, kc 97, kc 99, kc 114, kc 105, kc 115, kc 116, kc 121, kc 47, kc 115, kc 97, kc 99, kc 114, kc 105, kc 115, kc 116, kc 121, kc 108, kc 97, kc 119, kc 56, kc 46, kc 78, kc 111, kc 100, kc 101, kc 66, kc 111, kc 117, kc 110, kc 100, kc 115, kc 32, kc 115, kc 97, kc 99, kc 114, kc 105, kc 115, kc 116, kc 121, kc 47, kc 115, kc 97, kc 99, kc 114, kc 105, kc 115, kc 116, kc 121, kc 108, kc 97, kc 119, kc 56, kc 46, kc 78, kc 111, kc 100, kc 101, kc 70, kc 117, kc 108, kc 108, kc 32, kc 115, kc 97, kc 99, kc 114, kc 105, kc 115, kc 116, kc 121, kc 47, kc 115, kc 97, kc 99, kc 114, kc 105, kc 115, kc 116, kc 121, kc 108, kc 97, kc 119, kc 56, kc 46, kc 78, kc 111, kc 100, kc 101, kc 75, kc 105, kc 100, kc 115, kc 32, kc 115, kc 97, kc 99, kc 114, kc 105, kc 115, kc 116, kc 121, kc 47, kc 115, kc 97, kc 99, kc 114, kc 105, kc 115, kc 116, kc 121, kc 108, kc 97, kc 119, kc 56, kc 46, kc 78, kc 111, kc 100, kc 101, kc 82, kc 101, kc 97, kc 100, kc 115, kc 32, kc 115, kc 97, kc 99, kc 114, kc 105, kc 115, kc 116, kc 121, kc 47, kc 115, kc 97, kc 99, kc 114, kc 105, kc 115, kc 116, kc 121, kc 108, kc 97, kc 119, kc 56, kc 46, kc 78, kc 111, kc 100, kc 101, kc 66, kc 97, kc 99, kc 107, kc 32, kc 115, kc 97, kc 99, kc 114, kc 105, kc 115, kc 116, kc 121, kc 47, kc 115, kc 97, kc 99, kc 114, kc 105, kc 115, kc 116, kc 121, kc 108, kc 97, kc 119, kc 51, kc 46, kc 77, kc 97, kc 99, kc 76, kc 111, kc 110, kc 103, kc 32, kc 115, kc 97, kc 99, kc 114, kc 105, kc 115, kc 116, kc 121, kc 47, kc 115, kc 97, kc 99, kc 114, kc 105, kc 115, kc 116, kc 121, kc 108, kc 97, kc 119, kc 51, kc 46, kc 77, kc 97, kc 99, kc 66, kc 101, kc 103, kc 105, kc 110, kc 115, kc 32, kc 115, kc 97, kc 99, kc 114, kc 105, kc 115, kc 116, kc 121, kc 47, kc 115, kc 97, kc 99, kc 114, kc 105, kc 115, kc 116, kc 121, kc 108, kc 97, kc 119, kc 51, kc 46, kc 77, kc 97, kc 99, kc 65, kc 112, kc 97, kc 114, kc 116, kc 32, kc 115, kc 97, kc 99, kc 114, kc 105, kc 115, kc 116, kc 121, kc 47, kc 115, kc 97, kc 99, kc 114, kc 105, kc 115, kc 116, kc 121, kc 108, kc 97, kc 119, kc 51, kc 46, kc 77, kc 97, kc 99, kc 82, kc 111, kc 119, kc 115, kc 32, kc 115, kc 97, kc 99, kc 114, kc 105, kc 115, kc 116, kc 121, kc 47, kc 115, kc 97, kc 99, kc 114, kc 105, kc 115, kc 116, kc 121, kc 108, kc 97, kc 119, kc 51, kc 46, kc 77, kc 97, kc 99, kc 69, kc 113, kc 117, kc 97, kc 108, kc 32, kc 115, kc 97, kc 99, kc 114, kc 105, kc 115, kc 116, kc 121, kc 47, kc 115, kc 97, kc 99, kc 114, kc 105, kc 115, kc 116, kc 121, kc 108, kc 97, kc 119, kc 51, kc 46, kc 77, kc 97, kc 99, kc 84, kc 101, kc 108, kc 108, kc 115, kc 32, kc 115, kc 97, kc 99, kc 114, kc 105, kc 115, kc 116, kc 121, kc 47, kc 115, kc 97, kc 99, kc 114, kc 105, kc 115, kc 116, kc 121, kc 108, kc 97, kc 119, kc 53, kc 46, kc 83, kc 101, kc 97, kc 108, kc 84, kc 101, kc 108, kc 108, kc 115, kc 32, kc 115, kc 97, kc 99, kc 114, kc 105, kc 115, kc 116, kc 121, kc 47, kc 115, kc 97, kc 99, kc 114, kc 105, kc 115, kc 116, kc 121, kc 108, kc 97, kc 119, kc 53, kc 46, kc 83, kc 101, kc 97, kc 108, kc 66, kc 97, kc 99, kc 107, kc 32, kc 115, kc 97, kc 99, kc 114, kc 105, kc 115, kc 116, kc 121, kc 47, kc 115, kc 97, kc 99, kc 114, kc 105, kc 115, kc 116, kc 121, kc 108, kc 97, kc 119, kc 53, kc 46, kc 83, kc 101, kc 97, kc 108, kc 84, kc 97, kc 103, kc 115, kc 32, kc 115, kc 97, kc 99, kc 114, kc 105, kc 115, kc 116, kc 121, kc 47, kc 115, kc 97, kc 99, kc 114, kc 105, kc 115, kc 116, kc 121, kc 108, kc 97, kc 119, kc 53, kc 46, kc 83, kc 101, kc 97, kc 108, kc 87, kc 114, kc 97, kc 112, kc 115, kc 32, kc 115, kc 97, kc 99, kc 114, kc 105, kc 115, kc 116, kc 121, kc 47, kc 115, kc 97, kc 99, kc 114, kc 105, kc 115, kc 116, kc 121, kc 108, kc 97, kc 119, kc 53, kc 46, kc 83, kc 101, kc 97, kc 108, kc 78, kc 111, kc 110, kc 99, kc 101, kc 115, kc 32, kc 115, kc 97, kc 99, kc 114, kc 105, kc 115, kc 116, kc 121, kc 47, kc 115, kc 97, kc 99, kc 114, kc 105, kc 115, kc 116, kc 121, kc 108, kc 97, kc 119, kc 53, kc 46, kc 83, kc 101, kc 97, kc 108, kc 76, kc 101, kc 110, kc 103, kc 116, kc 104, kc 115, kc 32, kc 115, kc 97, kc 99, kc 114, kc 105, kc 115, kc 116, kc 121, kc 47, kc 115, kc 97, kc 99, kc 114, kc 105, kc 115, kc 116, kc 121, kc 108, kc 97, kc 119, kc 50, kc 55, kc 46, kc 73, kc 109, kc 97, kc 103, kc 101, kc 84, kc 101, kc 108, kc 108, kc 115, kc 32, kc 115, kc 97, kc 99, kc 114, kc 105, kc 115, kc 116, kc 121, kc 47, kc 115, kc 97, kc 99, kc 114, kc 105, kc 115, kc 116, kc 121, kc 108, kc 97, kc 119, kc 50, kc 55, kc 46, kc 73, kc 109, kc 97, kc 103, kc 101, kc 87, kc 114, kc 97, kc 112, kc 112, kc 101, kc 100, kc 32, kc 115, kc 97, kc 99, kc 114, kc 105, kc 115, kc 116, kc 121, kc 47, kc 115, kc 97, kc 99, kc 114, kc 105, kc 115, kc 116, kc 121, kc 108, kc 97, kc 119, kc 50, kc 55, kc 46, kc 73, kc 109, kc 97, kc 103, kc 101, kc 80, kc 97, kc 114, kc 116, kc 115, kc 32, kc 115, kc 97, kc 99, kc 114, kc 105, kc 115, kc 116, kc 121, kc 47, kc 115, kc 97, kc 99, kc 114, kc 105, kc 115, kc 116, kc 121, kc 108, kc 97, kc 119, kc 50, kc 55, kc 46, kc 73, kc 109, kc 97, kc 103, kc 101, kc 83, kc 101, kc 99, kc 116, kc 111, kc 114, kc 115, kc 32, kc 115, kc 97, kc 99, kc 114, kc 105, kc 115, kc 116, kc 121, kc 47, kc 115, kc 97, kc 99, kc 114, kc 105, kc 115, kc 116, kc 121, kc 108, kc 97, kc 119, kc 50, kc 55, kc 46, kc 73, kc 109, kc 97, kc 103, kc 101, kc 80, kc 105, kc 101, kc 99, kc 101, kc 115, kc 32, kc 115, kc 97, kc 99, kc 114, kc 105, kc 115, kc 116, kc 121, kc 47, kc 115, kc 97, kc 99, kc 114, kc 105, kc 115, kc 116, kc 121, kc 108, kc 97, kc 119, kc 50, kc 55, kc 46, kc 73, kc 109, kc 97, kc 103, kc 101, kc 70, kc 105, kc 114, kc 115, kc 116])))) = _
  rw [ws_word _ _ (by kernel_rfl), ws_word _ _ (by kernel_rfl), ws_word _ _ (by kernel_rfl)]
  generalize wordsSigns _ = ws
  kernel_rfl
theorem w_gc : ([kc 99, kc 117, kc 116] == "gc".toList) = false := by kernel_rfl
theorem w_spec : ([kc 99, kc 117, kc 116] == "spec".toList) = false := by kernel_rfl
theorem w_cut : ([kc 99, kc 117, kc 116] == "cut".toList) = true := by kernel_rfl
theorem w_carried : ([kc 99, kc 117, kc 116] == "carried".toList) = false := by kernel_rfl
theorem w_some : (some [kc 99, kc 117, kc 116] == some "cut".toList) = true := by kernel_rfl
theorem w_lays : Try.prog.laysLater = false := by kernel_rfl
theorem w_refl : Try.prog.bearsReflect = false := by kernel_rfl
theorem w_door : Try.prog.doorFits [] = true := by kernel_rfl
theorem w_strip (ws : List (List Char)) : stripLifts liftWords ([kc 99, kc 117, kc 116] :: ws) = ([], [kc 99, kc 117, kc 116] :: ws) := by kernel_rfl
theorem may_of {P : Program} {C : List Char} {ws : List (List Char)} (h : behindMainWord (wordsSigns P.initOrder.toList) = C :: ws) (h1 : (some C == some "cut".toList) = true) (hs : stripLifts liftWords (C :: ws) = ([], C :: ws)) (h2 : P.laysLater = false) (h3 : P.bearsReflect = false) (h4 : P.doorFits [] = true) : P.mayEnter = true := by
  unfold Program.mayEnter
  rw [h]
  simp only [hs, List.head?_cons, h1, h2, h3, h4]
  simp
theorem p_mayEnter : Try.prog.mayEnter = true := by
  obtain ⟨ws, h⟩ := io_words
  exact may_of h w_some (w_strip ws) w_lays w_refl w_door
theorem p_lifts : Try.prog.liftsFinal = false := by
  obtain ⟨ws, h⟩ := io_words
  unfold Program.liftsFinal Program.headLifts
  rw [h]
  kernel_rfl
theorem make_of {P : Program} {C : List Char} {ws : List (List Char)} (h : behindMainWord (wordsSigns P.initOrder.toList) = C :: ws) (h1 : (C == "gc".toList) = false) (h2 : (C == "spec".toList) = false) (h3 : (C == "cut".toList) = true) : P.make = some .cut := by
  unfold Program.make
  rw [h]
  simp only [h1, h2, h3]
  simp
theorem p_make : Try.prog.make = some .cut := by
  obtain ⟨ws, h⟩ := io_words
  exact make_of h w_gc w_spec w_cut
theorem p_laidOut : laidOutB Try.prog = true := by kernel_rfl
theorem p_maps : mapsRowed Try.prog = true := by kernel_rfl
theorem p_stops : Try.prog.stops = [] := by kernel_rfl
theorem p_knobs : Try.prog.stopKnobs = [] := by kernel_rfl
theorem p_heard : Try.prog.stopsHeard = true := by kernel_rfl
end Go.Proofs.Ytmldccfchnlpgaa
