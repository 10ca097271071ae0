/- A part of the proof of given statements: a verified condition generator for the model, and contracts of the program's functions. No condition. -/
import Derived.Test.YtmldccfchnlpgaaPart5
import Derived.Test.YtmldccfchnlpgaaPart3
import Derived.Carry
import Derived.OpenShut
import Derived.WideShapes
import Derived.ChangeOld
import Derived.JoinedOf
import Derived.Test.YtmldccfchnlpgaaRows
import Derived.KernelRfl
set_option linter.unusedVariables false
set_option linter.unusedSimpArgs false
set_option linter.constructorNameAsVariable false
set_option linter.unusedVariables false
set_option linter.unusedSimpArgs false
set_option maxRecDepth 100000
set_option maxHeartbeats 1000000
namespace Go.Proofs.Ytmldccfchnlpgaa
open Go Go.Vc
theorem out_step32 (o f : List UInt8) (hf : f.length = 4) (j : Nat) (h : j < 8) : List.take (IntKind.i64.wrap (4 * (j : Int))).toNat o ++ List.take (min (List.take 4 (List.drop 0 f)).length (32 - (IntKind.i64.wrap (4 * (j : Int))).toNat)) (List.drop 0 (List.take 4 (List.drop 0 f))) ++
    List.drop ((IntKind.i64.wrap (4 * (j : Int))).toNat + (List.take (min (List.take 4 (List.drop 0 f)).length (32 - (IntKind.i64.wrap (4 * (j : Int))).toNat)) (List.drop 0 (List.take 4 (List.drop 0 f)))).length) o = o.take (4 * j) ++ f ++ o.drop (4 * j + 4) := by
  rw [wrap_sm (by omega) (by omega), show (4 * (j : Int)).toNat = 4 * j by omega, List.drop_zero, List.drop_zero, List.take_of_length_le (show f.length ≤ 4 by omega), hf, Nat.min_eq_left (by omega), List.take_of_length_le (show f.length ≤ 4 by omega), hf]
theorem outB_len (st : List UInt32) : ∀ i, i ≤ 8 → (u_outB st i).length = 32
  | 0, _ => by simp [u_outB]
  | i + 1, h => by
    have := outB_len st i (by omega)
    have e : (u_putBig (st.getD i 0)).length = 4 := rfl
    simp only [u_outB, List.length_append, List.length_take, List.length_drop, e]
    omega
theorem outB_zero (st : List UInt32) : List.replicate 32 0 = u_outB st 0 := rfl
theorem outB_step (st : List UInt32) (i : Nat) : (u_outB st i).take (4 * i) ++ u_putBig (st.getD i 0) ++ (u_outB st i).drop (4 * i + 4) = u_outB st (i + 1) := rfl
theorem blks_cut (s : List UInt32) (x : List UInt8) (j : Nat) (h : j < u_nblk x) : u_next (u_blks s x j) (List.take 64 (List.drop (64 * j) x)) = u_blks s x (j + 1) := by
  unfold u_nblk at h
  rw [next_take _ _ (by rw [List.length_drop]; omega)]
  rfl
theorem len_match (x : List UInt8) : x.length - 64 * 0 = (match x with | [] => 0 | _ :: l => l.length + 1) := by cases x <;> simp
theorem fin_end (s : List UInt32) (r : List UInt8) (n : Int) : u_outB (u_blks s (u_pad r n) (u_nblk (u_pad r n))) 8 = u_fin s r n := rfl
theorem nblk_mul {x : List UInt8} (h : x.length % 64 = 0) : 64 * u_nblk x = x.length := by unfold u_nblk; omega
end Go.Proofs.Ytmldccfchnlpgaa
namespace Go.Proofs.Ytmldccfchnlpgaa
open Go Go.Vc
attribute [local irreducible] u_sched u_rnds u_kc u_add u_blks u_first u_next u_padZ u_padP u_pad u_outB u_nblk u_fin
theorem r_sha_Hash_Sum : Ready Try.prog 45 := by unfold Ready; kernel_rfl
noncomputable def sp_sha_Hash_Sum (F : Fs) (U : Us) : Specs := [(102, s_sha_Hash_padded F U), (101, s_sha_state_next F U), (103, s_bits_PutBig F U)]
theorem ok_sha_Hash_Sum : SpecsOK Try.prog (sp_sha_Hash_Sum real us) := sp_cons r_sha_Hash_padded k_sha_Hash_padded (sp_cons r_sha_state_next k_sha_state_next (sp_cons r_bits_PutBig k_bits_PutBig sp_nil))
noncomputable def an_sha_Hash_Sum (F : Fs) (U : Us) (r : List UInt8) (s : List UInt32) (n : Int) : Anns := [(2, ⟨Nat, fun j => j ≤ U.nblk (U.pad r n), fun j => F.subn (U.nblk (U.pad r n)) j, fun j => ⟨[(2, .p 2 0 0), (3, .p 3 0 0), (4, .sl 5 0 0 1 (F.muln 64 j) (F.subn (F.lenB (U.pad r n)) (F.muln 64 j)))], [(999, 0, .bk 141 [(8, .wd s), (1, .vs [.rw 1]), (1, .vs [.i n])]), (999, 1, .row 5 1 (.bt r)), (2, 2, .bk 23 [(32, .bt (F.repB 32))]), (3, 3, .bk 138 [(8, .wd (U.blks s (U.pad r n) j))]), (4, 5, .row 5 1 (.bt (U.pad r n)))]⟩⟩),
  (7, ⟨Nat, fun i => i ≤ 8, fun i => F.subn 8 i, fun i => ⟨[(2, .p 2 0 0), (5, .p 6 0 0), (24, .ag 8 (.wd (U.blks s (U.pad r n) (U.nblk (U.pad r n))))), (25, .i (F.int i))], [(999, 0, .bk 141 [(8, .wd s), (1, .vs [.rw 1]), (1, .vs [.i n])]), (999, 1, .row 5 1 (.bt r)), (2, 2, .bk 23 [(32, .bt (F.repB 32))]), (5, 6, .bk 23 [(32, .bt (U.outB (U.blks s (U.pad r n) (U.nblk (U.pad r n))) i))])]⟩⟩)]
noncomputable def g_sha_Hash_Sum (F : Fs) (U : Us) : HLaw := fun l mm => match l, mm with
  | [.p 0 0 0], [.bk T1 [(n2, .wd s), (n3, .vs [.rw 1]), (n4, .vs [.i n])], .row T0 e0 (.bt r)] => match Nat.beq T0 5, Nat.beq e0 1, Nat.beq T1 141, Nat.beq n2 8, Nat.beq n3 1, Nat.beq n4 1 with
    | true, true, true, true, true, true => some (U.isW s 8 ∧ F.pLe (F.lenB r) 900000, [.val (.ag 32 (.bt (U.fin s r n)))], [none, none])
    | _, _, _, _, _, _ => none
  | _, _ => none
noncomputable def s_sha_Hash_Sum (F : Fs) (U : Us) : Vc.Spec := hSpec 2 (g_sha_Hash_Sum F U)
noncomputable def x_sha_Hash_Sum (F : Fs) (U : Us) : Cx := ⟨Try.f45.ntmps, tt F, sp_sha_Hash_Sum F U, [], [(1, ([(5, [3]), (6, [3, 5])], [])), (4, ([(2, [0])], [])), (10, ([(3, [2])], []))], [0, 1], []⟩
theorem c_sha_Hash_Sum (r : List UInt8) (s : List UInt32) (n : Int) (hc : us.isW s 8 ∧ real.pLe (real.lenB r) 900000) : vc real (x_sha_Hash_Sum real us) (an_sha_Hash_Sum real us r s n) [] (Try.f45.body.getD .skip) ⟨zipSl 0 [.p 0 0 0], zipMe 0 [.bk 141 [(8, .wd s), (1, .vs [.rw 1]), (1, .vs [.i n])], .row 5 1 (.bt r)], 64⟩ (retHOk real (tt real) Try.f45.results.toList [.bk 141 [(8, .wd s), (1, .vs [.rw 1]), (1, .vs [.i n])], .row 5 1 (.bt r)] [.val (.ag 32 (.bt (us.fin s r n)))] [none, none]) := by
  generalize hU : us = U
  generalize hF : real = F
  have hs : s.length = 8 := hc.1
  have hr : r.length ≤ 900000 := hc.2
  have hpm := pad_mod r n
  have hpl := pad_len r n
  have hz : u_padZ r < 64 := by unfold u_padZ; omega
  have hnb := nblk_mul hpm
  cbv
  repeat' first | apply And.intro | refine Classical.or_iff_not_imp_left.2 (fun _ => ?_) | exact trivial
  all_goals try (subst hF hU; simp only [real, us, Nat.le_eq, Int.cast_ofNat_Int, decide_eq_false_iff_not, decide_eq_true_eq, List.length_take, List.length_drop, List.length_append, List.length_replicate, List.length_set, List.length_cons, List.length_nil, List.length_zipWith] at *; (try simp (disch := omega) only [wrap_sm] at *); omega)
  · refine ⟨(0 : Nat), ?_⟩
    cbv; subst hF hU
    refine ⟨Nat.zero_le _, ⟨⟨rfl, ?_⟩, trivial⟩, ⟨blks_zero s _, trivial⟩, trivial⟩
    simp only [us, real]
    generalize u_pad r n = x
    cases x <;> rfl
  · intro (j : Nat) hj
    have hj2 : j ≤ u_nblk (u_pad r n) := by subst hF hU; exact hj
    clear hj
    have hbl := blks_len s (u_pad r n) hs j
    cbv
    repeat' first | apply And.intro | refine Classical.or_iff_not_imp_left.2 (fun _ => ?_) | exact trivial
    all_goals try (subst hF hU; simp only [real, us, Nat.le_eq, Int.cast_ofNat_Int, decide_eq_false_iff_not, decide_eq_true_eq, List.length_take, List.length_drop, List.length_append, List.length_replicate, List.length_set, List.length_cons, List.length_nil, List.length_zipWith] at *; (try simp (disch := omega) only [wrap_sm] at *); omega)
    · subst hF hU; exact hbl
    · refine ⟨(j + 1 : Nat), ?_⟩
      cbv; subst hF hU
      rename_i hg
      have hlt : j < u_nblk (u_pad r n) := by
        have := lt_g hg
        have : 0 < (u_pad r n).length - 64 * j := this
        omega
      refine ⟨hlt, by show u_nblk (u_pad r n) - (j + 1) < u_nblk (u_pad r n) - j; omega, ⟨⟨?_, ?_⟩, trivial⟩, ⟨blks_cut s _ j hlt, trivial⟩, trivial⟩
      · show 64 * j + 64 = 64 * (j + 1); omega
      · show (u_pad r n).length - 64 * j - 64 = (u_pad r n).length - 64 * (j + 1); omega
    · have e : j = u_nblk (u_pad r n) := by
        rename_i hg
        subst hF hU
        have := ge_g hg
        have : (u_pad r n).length - 64 * j ≤ 0 := this
        omega
      refine ⟨(0 : Nat), ?_⟩
      cbv; subst hF hU
      rw [e]
      exact ⟨⟨rfl, trivial⟩, ⟨outB_zero _, trivial⟩, trivial⟩
    · intro (i : Nat) hi
      replace hi : i ≤ 8 := hi
      have hb8 := blks_len s (u_pad r n) hs (u_nblk (u_pad r n))
      have hol := outB_len (u_blks s (u_pad r n) (u_nblk (u_pad r n))) i hi
      have hi1 : IntKind.i64.wrap ((i : Int) + 1) = (i : Int) + 1 := wrap_sm (by omega) (by omega)
      cbv
      repeat' first | apply And.intro | refine Classical.or_iff_not_imp_left.2 (fun _ => ?_) | exact trivial
      all_goals try (subst hF hU; simp only [real, us, Nat.le_eq, Int.cast_ofNat_Int, decide_eq_false_iff_not, decide_eq_true_eq, List.length_take, List.length_drop, List.length_append, List.length_replicate, List.length_set, List.length_cons, List.length_nil, List.length_zipWith] at *; (try simp (disch := omega) only [wrap_sm] at *); omega)
      · subst hF hU; exact Nat.le_refl 4
      · have h8 := lt_g (j := i) (n := 8) (by subst hF; assumption)
        refine ⟨(i + 1 : Nat), ?_⟩
        cbv; subst hF hU
        exact ⟨by show i + 1 ≤ 8; omega, by show 8 - (i + 1) < 8 - i; omega, ⟨hi1, trivial⟩, ⟨(out_step32 _ _ rfl i h8).trans (outB_step _ i), trivial⟩, trivial⟩
      · have h8 := ge_g (j := i) (n := 8) (by subst hF; assumption)
        have e8 : i = 8 := by omega
        subst hF hU e8
        exact fin_end s r n
theorem k_sha_Hash_Sum : SpecOK Try.prog 45 (s_sha_Hash_Sum real us) := by
  refine h_sound (x := x_sha_Hash_Sum real us) ⟨tt_ok, ok_sha_Hash_Sum, Go.Vc.ks_nil⟩ mixed Try.func45 rfl rfl (by kernel_rfl) (by decide) (fun j hj => by simp [x_sha_Hash_Sum]; omega) ?_
  intro l mm c rs ch hg hl hc
  unfold g_sha_Hash_Sum at hg
  split at hg
  · split at hg
    · rename_i h0 h1 h2 h3 h4 h5
      have z0 := beq_nat h0
      have z1 := beq_nat h1
      have z2 := beq_nat h2
      have z3 := beq_nat h3
      have z4 := beq_nat h4
      have z5 := beq_nat h5
      subst z0
      subst z1
      subst z2
      subst z3
      subst z4
      subst z5
      cases hg
      exact ⟨Nat.le_of_ble_eq_true rfl, an_sha_Hash_Sum real us _ _ _, [], c_sha_Hash_Sum _ _ _ hc⟩
    · cases hg
  · cases hg

end Go.Proofs.Ytmldccfchnlpgaa
set_option linter.unusedVariables false
set_option linter.unusedSimpArgs false
set_option maxRecDepth 100000
set_option maxHeartbeats 1000000
namespace Go.Proofs.Ytmldccfchnlpgaa
open Go Go.Vc
/-! ## Sums -/
theorem next_congr (s : List UInt32) (x y : List UInt8) (hx : 64 ≤ x.length) (hy : 64 ≤ y.length) (h : x.take 64 = y.take 64) : u_next s x = u_next s y := by
  rw [← next_take s x hx, ← next_take s y hy, h]
theorem blks_congr (s : List UInt32) (x y : List UInt8) : ∀ n, 64 * n ≤ x.length → 64 * n ≤ y.length → x.take (64 * n) = y.take (64 * n) → u_blks s x n = u_blks s y n
  | 0, _, _, _ => rfl
  | n + 1, hx, hy, h => by
    have h1 : x.take (64 * n) = y.take (64 * n) := by
      have := congrArg (List.take (64 * n)) h
      rw [List.take_take, List.take_take, Nat.min_eq_left (by omega)] at this
      exact this
    rw [u_blks, u_blks, blks_congr s x y n (by omega) (by omega) h1]
    refine next_congr _ _ _ (by rw [List.length_drop]; omega) (by rw [List.length_drop]; omega) ?_
    have h2 := congrArg (List.drop (64 * n)) h
    rw [List.drop_take, List.drop_take, show 64 * (n + 1) - 64 * n = 64 by omega] at h2
    exact h2
theorem blks_add (s : List UInt32) (x : List UInt8) (n : Nat) : ∀ k, u_blks s x (n + k) = u_blks (u_blks s x n) (x.drop (64 * n)) k
  | 0 => rfl
  | k + 1 => by
    rw [← Nat.add_assoc, u_blks, u_blks, blks_add s x n k, List.drop_drop, show 64 * n + 64 * k = 64 * (n + k) by omega]
/-- so far, and more: as all at once -/
theorem blks_more (s : List UInt32) (x y : List UInt8) (k : Nat) (hk : 64 * k ≤ ((u_wr [] x) ++ y).length) : u_blks (u_blks s x (u_nblk x)) ((u_wr [] x) ++ y) k = u_blks s (x ++ y) (u_nblk x + k) := by
  have hn : 64 * u_nblk x ≤ x.length := by unfold u_nblk; omega
  have e : (u_wr [] x) ++ y = (x ++ y).drop (64 * u_nblk x) := by
    unfold u_wr
    rw [List.nil_append, List.drop_append_of_le_length hn]
  rw [blks_add, ← e]
  congr 1
  exact blks_congr s x (x ++ y) (u_nblk x) hn (by rw [List.length_append]; omega) (by rw [List.take_append_of_le_length hn])
theorem wr_len (r b : List UInt8) : (u_wr r b).length = (r ++ b).length % 64 := by
  unfold u_wr u_nblk
  rw [List.length_drop]
  omega
theorem ws_nil (s : List UInt32) (m : List UInt8) : u_ws s [] m = u_blks s m (u_nblk m) := by
  unfold u_ws
  rw [List.nil_append]
theorem pad_tail (r : List UInt8) (n : Int) : u_pad r n = r ++ (([128] ++ List.replicate (u_padZ r) 0) ++ putK (real.mul64 (real.ofI64 n) (real.ofI64 (real.int 8))) 8) := by
  unfold u_pad u_padP
  simp only [List.append_assoc]
theorem padZ_wr (m : List UInt8) : u_padZ (u_wr [] m) = u_padZ m := by
  unfold u_padZ
  rw [wr_len, List.nil_append]
  omega
theorem nblk_app (m y : List UInt8) : u_nblk (m ++ y) = u_nblk m + u_nblk (u_wr [] m ++ y) := by
  have h := wr_len [] m
  rw [List.nil_append] at h
  unfold u_nblk
  rw [List.length_append, List.length_append, h]
  omega
theorem nblk_le (x : List UInt8) : 64 * u_nblk x ≤ x.length := by unfold u_nblk; omega
theorem ws_ws (s : List UInt32) (m y : List UInt8) : u_ws (u_ws s [] m) (u_wr [] m) y = u_ws s [] (m ++ y) := by
  rw [ws_nil, ws_nil]
  show u_blks (u_blks s m (u_nblk m)) (u_wr [] m ++ y) (u_nblk (u_wr [] m ++ y)) = _
  rw [blks_more s m y _ (nblk_le _), nblk_app m y]
theorem wr_wr (m y : List UInt8) : u_wr (u_wr [] m) y = u_wr [] (m ++ y) := by
  have hn := nblk_le m
  have e : (u_wr [] m) ++ y = (m ++ y).drop (64 * u_nblk m) := by
    unfold u_wr
    rw [List.nil_append, List.drop_append_of_le_length hn]
  show List.drop (64 * u_nblk (u_wr [] m ++ y)) (u_wr [] m ++ y) = List.drop (64 * u_nblk ([] ++ (m ++ y))) ([] ++ (m ++ y))
  rw [List.nil_append, nblk_app m y]
  conv => lhs; rw [e]
  rw [List.drop_drop, Nat.mul_add]
  congr 2
  rw [← e]
theorem fin_ws (s : List UInt32) (m : List UInt8) (n : Int) : u_fin (u_ws s [] m) (u_wr [] m) n = u_fin s m n := by
  show u_outB (u_blks (u_ws s [] m) (u_pad (u_wr [] m) n) (u_nblk (u_pad (u_wr [] m) n))) 8 = u_outB (u_blks s (u_pad m n) (u_nblk (u_pad m n))) 8
  rw [pad_tail (u_wr [] m) n, pad_tail m n, padZ_wr, ws_nil, blks_more s m _ _ (nblk_le _), ← nblk_app]
theorem sum_ws (m : List UInt8) (n : Int) (h : n = m.length) : u_fin (u_ws u_first [] m) (u_wr [] m) n = u_sum m := by
  subst h
  exact fin_ws u_first m _
theorem ws_len (s : List UInt32) (r b : List UInt8) (hs : s.length = 8) : (u_ws s r b).length = 8 := blks_len s _ hs _
theorem first_len : u_first.length = 8 := rfl
end Go.Proofs.Ytmldccfchnlpgaa
set_option linter.unusedVariables false
set_option linter.unusedSimpArgs false
set_option maxRecDepth 100000
set_option maxHeartbeats 1000000
namespace Go.Proofs.Ytmldccfchnlpgaa
open Go Go.Vc
attribute [local irreducible] u_sched u_rnds u_kc u_add u_blks u_first u_next u_padZ u_padP u_pad u_outB u_nblk u_fin u_ws u_wr u_sum
theorem r_sha_Sum : Ready Try.prog 40 := by unfold Ready; kernel_rfl
noncomputable def sp_sha_Sum (F : Fs) (U : Us) : Specs := [(43, s_sha_New F U), (44, s_sha_Hash_Write F U), (45, s_sha_Hash_Sum F U)]
theorem ok_sha_Sum : SpecsOK Try.prog (sp_sha_Sum real us) := sp_cons r_sha_New k_sha_New (sp_cons r_sha_Hash_Write k_sha_Hash_Write (sp_cons r_sha_Hash_Sum k_sha_Hash_Sum sp_nil))
noncomputable def g_sha_Sum (F : Fs) (U : Us) : Law
  | [.rb 1 (.bt b)] => some (F.pLe (F.lenB b) 800000, [.val (.ag 32 (.bt (U.sum b)))])
  | _ => none
noncomputable def s_sha_Sum (F : Fs) (U : Us) : Vc.Spec := pureSpec F false [.row .kB] (g_sha_Sum F U)
noncomputable def x_sha_Sum (F : Fs) (U : Us) : Cx := ⟨Try.f40.ntmps, tt F, sp_sha_Sum F U, [], [], [], []⟩
theorem c_sha_Sum (b : List UInt8) (hc : real.pLe (real.lenB b) 800000) : vc real (x_sha_Sum real us) [] [] (Try.f40.body.getD .skip) ⟨zipSl 0 [.rb 1 (.bt b)], [], 64⟩ (retOk real (tt real) false Try.f40.results.toList [.val (.ag 32 (.bt (us.sum b)))]) := by
  generalize hU : us = U
  generalize hF : real = F
  have hb : b.length ≤ 800000 := hc
  have hfl := first_len
  have hwl := ws_len u_first [] b hfl
  have hrl := wr_len [] b
  have hn : IntKind.i64.wrap (0 + (b.length : Int)) = (b.length : Int) := by rw [Int.zero_add]; exact wrap_sm (by omega) (by omega)
  cbv
  repeat' first | apply And.intro | refine Classical.or_iff_not_imp_left.2 (fun _ => ?_) | exact trivial
  all_goals try (subst hF hU; simp only [real, us, Nat.le_eq, Int.cast_ofNat_Int, decide_eq_false_iff_not, decide_eq_true_eq, List.length_take, List.length_drop, List.length_append, List.length_replicate, List.length_set, List.length_cons, List.length_nil, List.length_zipWith] at *; (try simp (disch := omega) only [wrap_sm] at *); omega)
  · subst hU; exact hfl
  · subst hU; exact hwl
  · subst hF hU; exact sum_ws b _ hn
theorem k_sha_Sum : SpecOK Try.prog 40 (s_sha_Sum real us) := by
  refine pure_sound (x := x_sha_Sum real us) ⟨tt_ok, ok_sha_Sum, Go.Vc.ks_nil⟩ mixed Try.func40 rfl rfl (by kernel_rfl) ?_
  intro l c rs hg hc
  unfold g_sha_Sum at hg
  split at hg
  · cases hg; exact ⟨Nat.le_of_ble_eq_true rfl, [], [], c_sha_Sum _ hc⟩
  · cases hg

end Go.Proofs.Ytmldccfchnlpgaa
set_option linter.unusedVariables false
set_option linter.unusedSimpArgs false
set_option maxRecDepth 100000
set_option maxHeartbeats 1000000
namespace Go.Proofs.Ytmldccfchnlpgaa
open Go Go.Vc
theorem hexP_len (s : List UInt8) : ∀ i, (u_hexP s i).length = 2 * i
  | 0 => rfl
  | i + 1 => by rw [u_hexP, List.length_append, hexP_len s i]; simp; omega
theorem hi_nib (c : UInt8) : real.toI8 (real.shr8 c (real.toI64 (real.ofI64 (real.int 4)))) = ((c.toNat / 16 : Nat) : Int) := by
  have h := c.toNat_lt
  have e : real.toI64 (real.ofI64 (real.int 4)) = 4 := by decide
  rw [e]
  show ((UInt8.ofNat (c.toNat / 2 ^ (min (4 : Int).toNat 8))).toNat : Int) = _
  have e2 : c.toNat / 2 ^ (min (4 : Int).toNat 8) = c.toNat / 16 := rfl
  rw [e2, UInt8.toNat_ofNat_of_lt' (by simp [UInt8.size]; omega)]
theorem lo_nib (c : UInt8) : real.toI8 (real.and8 c (real.ofI8 (real.int 15))) = ((c.toNat % 16 : Nat) : Int) := by
  have e : real.ofI8 (real.int 15) = 15 := by decide
  rw [e]
  show ((c &&& 15).toNat : Int) = _
  rw [UInt8.toNat_and, show (15 : UInt8).toNat = 2 ^ 4 - 1 from rfl, Nat.and_two_pow_sub_one_eq_mod]
theorem digits_eq : real.ofS ⟨#[48, 49, 50, 51, 52, 53, 54, 55, 56, 57, 97, 98, 99, 100, 101, 102]⟩ = u_hexd := rfl
theorem hi_in (c : UInt8) : real.pIn (real.toI8 (real.shr8 c (real.toI64 (real.ofI64 (real.int 4))))) (real.lenB (real.ofS ⟨#[48, 49, 50, 51, 52, 53, 54, 55, 56, 57, 97, 98, 99, 100, 101, 102]⟩)) := by
  rw [hi_nib]
  have := c.toNat_lt
  exact ⟨Int.natCast_nonneg _, Int.ofNat_lt.2 (show c.toNat / 16 < 16 by omega)⟩
theorem lo_in (c : UInt8) : real.pIn (real.toI8 (real.and8 c (real.ofI8 (real.int 15)))) (real.lenB (real.ofS ⟨#[48, 49, 50, 51, 52, 53, 54, 55, 56, 57, 97, 98, 99, 100, 101, 102]⟩)) := by
  rw [lo_nib]
  exact ⟨Int.natCast_nonneg _, Int.ofNat_lt.2 (show c.toNat % 16 < 16 by omega)⟩
theorem hexP_zero (s : List UInt8) : ([] : List UInt8) = u_hexP s 0 := rfl
theorem hexP_step (s : List UInt8) (i : Nat) : real.appB (u_hexP s i) [real.getB u_hexd (real.nat (real.toI8 (real.shr8 (real.getB s (real.nat (real.int i))) (real.toI64 (real.ofI64 (real.int 4)))))), real.getB u_hexd (real.nat (real.toI8 (real.and8 (real.getB s (real.nat (real.int i))) (real.ofI8 (real.int 15)))))] = u_hexP s (i + 1) := by
  rw [hi_nib, lo_nib]
  rfl
theorem hex_zero (s : List UInt8) (h : s = List.replicate 32 0) : real.ofS ⟨#[48, 48, 48, 48, 48, 48, 48, 48, 48, 48, 48, 48, 48, 48, 48, 48, 48, 48, 48, 48, 48, 48, 48, 48, 48, 48, 48, 48, 48, 48, 48, 48, 48, 48, 48, 48, 48, 48, 48, 48, 48, 48, 48, 48, 48, 48, 48, 48, 48, 48, 48, 48, 48, 48, 48, 48, 48, 48, 48, 48, 48, 48, 48, 48]⟩ = u_hex s := by
  unfold u_hex
  rw [if_pos h]
  rfl
theorem hex_other (s : List UInt8) (h : s ≠ List.replicate 32 0) : u_hexP s 32 = u_hex s := by
  unfold u_hex
  rw [if_neg h]
theorem r_sha_Hex : Ready Try.prog 42 := by unfold Ready; kernel_rfl
noncomputable def sp_sha_Hex (F : Fs) (U : Us) : Specs := []
theorem ok_sha_Hex : SpecsOK Try.prog (sp_sha_Hex real us) := sp_nil
noncomputable def an_sha_Hex (F : Fs) (U : Us) (s : List UInt8) : Anns := [(5, ⟨Nat, fun i => i ≤ 32, fun i => F.subn 32 i, fun i => ⟨[(3, .rw 5), (9, .ag 32 (.bt s)), (10, .i (F.int i))], [(3, 5, .row 5 1 (.bt (U.hexP s i)))]⟩⟩)]
noncomputable def g_sha_Hex (F : Fs) (U : Us) : Law
  | [.ag 32 (.bt s)] => some (U.isL s 32, [.val (.s (U.hex s))])
  | _ => none
noncomputable def s_sha_Hex (F : Fs) (U : Us) : Vc.Spec := pureSpec F false [.keep] (g_sha_Hex F U)
noncomputable def x_sha_Hex (F : Fs) (U : Us) : Cx := ⟨Try.f42.ntmps, tt F, sp_sha_Hex F U, [], [(7, ([(6, [3])], []))], [], []⟩
theorem c_sha_Hex (s : List UInt8) (hc : us.isL s 32) : vc real (x_sha_Hex real us) (an_sha_Hex real us s) [] (Try.f42.body.getD .skip) ⟨zipSl 0 [.ag 32 (.bt s)], [], 64⟩ (retOk real (tt real) false Try.f42.results.toList [.val (.s (us.hex s))]) := by
  generalize hU : us = U
  generalize hF : real = F
  have hs : s.length = 32 := hc
  cbv
  repeat' first | apply And.intro | refine Classical.or_iff_not_imp_left.2 (fun _ => ?_) | exact trivial
  all_goals try (subst hF hU; simp only [real, us, Nat.le_eq, Int.cast_ofNat_Int, decide_eq_false_iff_not, decide_eq_true_eq, List.length_take, List.length_drop, List.length_append, List.length_replicate, List.length_set, List.length_cons, List.length_nil, List.length_zipWith] at *; (try simp (disch := omega) only [wrap_sm] at *); omega)
  · subst hF hU
    rename_i hh
    exact hex_zero s (by simpa [real] using hh)
  · refine ⟨(0 : Nat), ?_⟩
    cbv; subst hF hU
    exact ⟨rfl, trivial⟩
  · intro (i : Nat) hi
    replace hi : i ≤ 32 := hi
    have hpl := hexP_len s i
    have hi1 : IntKind.i64.wrap ((i : Int) + 1) = (i : Int) + 1 := wrap_sm (by omega) (by omega)
    cbv
    repeat' first | apply And.intro | refine Classical.or_iff_not_imp_left.2 (fun _ => ?_) | exact trivial
    all_goals try (subst hF hU; simp only [real, us, Nat.le_eq, Int.cast_ofNat_Int, decide_eq_false_iff_not, decide_eq_true_eq, List.length_take, List.length_drop, List.length_append, List.length_replicate, List.length_set, List.length_cons, List.length_nil, List.length_zipWith] at *; (try simp (disch := omega) only [wrap_sm] at *); omega)
    · subst hF; exact hi_in _
    · subst hF; exact lo_in _
    · have h32 := lt_g (j := i) (n := 32) (by subst hF; assumption)
      refine ⟨(i + 1 : Nat), ?_⟩
      cbv; subst hF hU
      exact ⟨by show i + 1 ≤ 32; omega, by show 32 - (i + 1) < 32 - i; omega, ⟨hi1, trivial⟩, hexP_step s i, trivial⟩
    · have h32 := ge_g (j := i) (n := 32) (by subst hF; assumption)
      have e : i = 32 := by omega
      rename_i hh _
      subst hF hU e
      exact hex_other s (by simpa [real] using hh)
theorem k_sha_Hex : SpecOK Try.prog 42 (s_sha_Hex real us) := by
  refine pure_sound (x := x_sha_Hex real us) ⟨tt_ok, ok_sha_Hex, Go.Vc.ks_nil⟩ mixed Try.func42 rfl rfl (by kernel_rfl) ?_
  intro l c rs hg hc
  unfold g_sha_Hex at hg
  split at hg
  · cases hg; exact ⟨Nat.le_of_ble_eq_true rfl, an_sha_Hex real us _, [], c_sha_Hex _ hc⟩
  · cases hg

end Go.Proofs.Ytmldccfchnlpgaa
set_option linter.unusedVariables false
set_option linter.unusedSimpArgs false
set_option maxRecDepth 100000
set_option maxHeartbeats 1000000
namespace Go.Proofs.Ytmldccfchnlpgaa
open Go Go.Vc
theorem nil_sum : u_hex (u_sum []) = [101, 51, 98, 48, 99, 52, 52, 50, 57, 56, 102, 99, 49, 99, 49, 52, 57, 97, 102, 98, 102, 52, 99, 56, 57, 57, 54, 102, 98, 57, 50, 52, 50, 55, 97, 101, 52, 49, 101, 52, 54, 52, 57, 98, 57, 51, 52, 99, 97, 52, 57, 53, 57, 57, 49, 98, 55, 56, 53, 50, 98, 56, 53, 53] := by decide +kernel
theorem abc_sum : u_hex (u_sum [97, 98, 99]) = [98, 97, 55, 56, 49, 54, 98, 102, 56, 102, 48, 49, 99, 102, 101, 97, 52, 49, 52, 49, 52, 48, 100, 101, 53, 100, 97, 101, 50, 50, 50, 51, 98, 48, 48, 51, 54, 49, 97, 51, 57, 54, 49, 55, 55, 97, 57, 99, 98, 52, 49, 48, 102, 102, 54, 49, 102, 50, 48, 48, 49, 53, 97, 100] := by decide +kernel
theorem sum_len (m : List UInt8) : (u_sum m).length = 32 := outB_len _ 8 (Nat.le_refl _)
theorem fin_len (s : List UInt32) (r : List UInt8) (n : Int) : (u_fin s r n).length = 32 := outB_len _ 8 (Nat.le_refl _)
theorem abc_fin (n : Int) (h : n = 3) : u_fin (u_ws (u_ws u_first [] [97, 98]) (u_wr [] [97, 98]) [99]) (u_wr (u_wr [] [97, 98]) [99]) n = u_sum [97, 98, 99] := by
  rw [ws_ws, wr_wr]
  exact sum_ws [97, 98, 99] n h
end Go.Proofs.Ytmldccfchnlpgaa
namespace Go.Proofs.Ytmldccfchnlpgaa
open Go Go.Vc
attribute [local irreducible] u_sched u_rnds u_kc u_add u_blks u_first u_next u_padZ u_padP u_pad u_outB u_nblk u_fin u_ws u_wr u_sum u_hex u_hexP
theorem r_law2_known : Ready Try.prog 39 := by unfold Ready; kernel_rfl
noncomputable def sp_law2_known (F : Fs) (U : Us) : Specs := [(43, s_sha_New F U), (44, s_sha_Hash_Write F U), (40, s_sha_Sum F U), (42, s_sha_Hex F U), (45, s_sha_Hash_Sum F U), (46, s_sha_Hash_Len F U)]
theorem ok_law2_known : SpecsOK Try.prog (sp_law2_known real us) := sp_cons r_sha_New k_sha_New (sp_cons r_sha_Hash_Write k_sha_Hash_Write (sp_cons r_sha_Sum k_sha_Sum (sp_cons r_sha_Hex k_sha_Hex (sp_cons r_sha_Hash_Sum k_sha_Hash_Sum (sp_cons r_sha_Hash_Len k_sha_Hash_Len sp_nil)))))
noncomputable def g_law2_known (F : Fs) (U : Us) : Law
  | [] => some (True, [.val (.kb true)])
  | _ => none
noncomputable def s_law2_known (F : Fs) (U : Us) : Vc.Spec := pureSpec F false [] (g_law2_known F U)
noncomputable def x_law2_known (F : Fs) (U : Us) : Cx := ⟨Try.f39.ntmps, tt F, sp_law2_known F U, [], [], [], [6]⟩
theorem c_law2_known  : vc real (x_law2_known real us) [] [] (Try.f39.body.getD .skip) ⟨zipSl 0 [], [], 64⟩ (retOk real (tt real) false Try.f39.results.toList [.val (.kb true)]) := by
  generalize hU : us = U
  generalize hF : real = F
  have hfl := first_len
  have hw1 := ws_len u_first [] [97, 98] hfl
  have hw2 := ws_len (u_ws u_first [] [97, 98]) (u_wr [] [97, 98]) [99] hw1
  have hr1 : (u_wr [] [97, 98]).length ≤ 900 := by rw [wr_len]; omega
  have hr2 : (u_wr (u_wr [] [97, 98]) [99]).length ≤ 900 := by rw [wr_len]; omega
  cbv
  repeat' first | apply And.intro | refine Classical.or_iff_not_imp_left.2 (fun _ => ?_) | exact trivial
  all_goals try (subst hF hU; simp only [real, us, Nat.le_eq, Int.cast_ofNat_Int, decide_eq_false_iff_not, decide_eq_true_eq, List.length_take, List.length_drop, List.length_append, List.length_replicate, List.length_set, List.length_cons, List.length_nil, List.length_zipWith] at *; (try simp (disch := omega) only [wrap_sm] at *); omega)
  all_goals subst hF hU
  · exact hfl
  · exact hw1
  · exact Nat.le_trans hr1 (by omega)
  · exact sum_len _
  · show (u_hex (u_sum []) == _) = true
    rw [nil_sum]; rfl
  · exact hw2
  · exact Nat.le_trans hr2 (by omega)
  · exact fin_len _ _ _
  · have h := abc_fin (real.addi (real.addi 0 (real.int 2)) (real.int 1)) (by decide)
    have h2 := congrArg u_hex h
    rw [abc_sum] at h2
    show (u_hex (u_fin (u_ws (u_ws u_first [] [97, 98]) (u_wr [] [97, 98]) [99]) (u_wr (u_wr [] [97, 98]) [99]) (real.addi (real.addi 0 (real.int 2)) (real.int 1))) == _) = true
    rw [h2]; rfl
  all_goals first | decide | (show (_ == _) = true; decide) | trace_state
theorem k_law2_known : SpecOK Try.prog 39 (s_law2_known real us) := by
  refine pure_sound (x := x_law2_known real us) ⟨tt_ok, ok_law2_known, Go.Vc.ks_nil⟩ mixed Try.func39 rfl rfl (by kernel_rfl) ?_
  intro l c rs hg hc
  unfold g_law2_known at hg
  split at hg
  · cases hg; exact ⟨Nat.le_of_ble_eq_true rfl, [], [], c_law2_known ⟩
  · cases hg

end Go.Proofs.Ytmldccfchnlpgaa
set_option linter.unusedVariables false
set_option linter.unusedSimpArgs false
set_option maxRecDepth 100000
set_option maxHeartbeats 1000000
namespace Go.Proofs.Ytmldccfchnlpgaa
open Go Go.Vc
theorem hex_all (s : List UInt8) : u_hex s = u_hexP s 32 := by
  by_cases h : s = List.replicate 32 0
  · subst h; decide +kernel
  · exact (hex_other s h).symm
theorem hex_len (s : List UInt8) : (u_hex s).length = 64 := by rw [hex_all, hexP_len]
theorem hexP_get (s : List UInt8) : ∀ n i, i < n → (u_hexP s n).getD (2 * i) 0 = u_hexd.getD ((s.getD i 0).toNat / 16) 0 ∧ (u_hexP s n).getD (2 * i + 1) 0 = u_hexd.getD ((s.getD i 0).toNat % 16) 0
  | 0, i, h => by omega
  | n + 1, i, h => by
    have hl := hexP_len s n
    rw [u_hexP]
    simp only [List.getD_eq_getElem?_getD]
    by_cases e : i < n
    · rw [List.getElem?_append_left (by omega), List.getElem?_append_left (by omega)]
      have := hexP_get s n i e
      simp only [List.getD_eq_getElem?_getD] at this
      exact this
    · have e2 : i = n := by omega
      subst e2
      rw [List.getElem?_append_right (by omega), List.getElem?_append_right (by omega), hl, Nat.sub_self, show 2 * i + 1 - 2 * i = 1 by omega]
      exact ⟨rfl, rfl⟩
theorem hexd_inj (x y : Nat) (hx : x < 16) (hy : y < 16) (h : u_hexd.getD x 0 = u_hexd.getD y 0) : x = y := by
  have : ∀ x y : Fin 16, u_hexd.getD x.val 0 = u_hexd.getD y.val 0 → x.val = y.val := by decide
  exact this ⟨x, hx⟩ ⟨y, hy⟩ h
theorem hex_inj (a b : List UInt8) (ha : a.length = 32) (hb : b.length = 32) (h : u_hex a = u_hex b) : a = b := by
  rw [hex_all, hex_all] at h
  apply List.ext_getElem (by omega)
  intro i h1 h2
  obtain ⟨p1, p2⟩ := hexP_get a 32 i (by omega)
  obtain ⟨q1, q2⟩ := hexP_get b 32 i (by omega)
  rw [h] at p1 p2
  have e1 : a.getD i 0 = a[i] := by rw [List.getD_eq_getElem?_getD, List.getElem?_eq_getElem h1]; rfl
  have e2 : b.getD i 0 = b[i] := by rw [List.getD_eq_getElem?_getD, List.getElem?_eq_getElem h2]; rfl
  rw [e1] at p1 p2
  rw [e2] at q1 q2
  have l1 := a[i].toNat_lt
  have l2 := b[i].toNat_lt
  have r1 := hexd_inj _ _ (by omega) (by omega) (p1.symm.trans q1)
  have r2 := hexd_inj _ _ (by omega) (by omega) (p2.symm.trans q2)
  apply UInt8.toNat_inj.1
  omega
theorem hexA (a : List UInt8) (h : ¬ real.pB (real.notb (real.eqi (real.int (real.lenB (us.hex a))) (real.int 64))) false) : False := by
  apply h
  show (!(((u_hex a).length : Int) == 64)) = false
  rw [hex_len]; rfl
theorem hexB (a b : List UInt8) (ha : a.length = 32) (hb : b.length = 32) (h : ¬ real.pB (real.notb (real.eqb (real.eqB (us.hex a) (us.hex b)) (real.eqB a b))) false) : False := by
  apply h
  show (!((u_hex a == u_hex b) == (a == b))) = false
  by_cases e : a = b
  · subst e; simp
  · have e2 : u_hex a ≠ u_hex b := fun h => e (hex_inj a b ha hb h)
    have h1 : (u_hex a == u_hex b) = false := beq_eq_false_iff_ne.2 e2
    have h2 : (a == b) = false := beq_eq_false_iff_ne.2 e
    rw [h1, h2]; rfl
theorem mul2 (i : Nat) (h : i < 32) : real.nat (real.muli (real.int 2) (real.int i)) = 2 * i := by
  show (IntKind.i64.wrap (2 * (i : Int))).toNat = 2 * i
  rw [wrap_sm (by omega) (by omega)]; omega
theorem mul21 (i : Nat) (h : i < 32) : real.nat (real.addi (real.muli (real.int 2) (real.int i)) (real.int 1)) = 2 * i + 1 := by
  show (IntKind.i64.wrap (IntKind.i64.wrap (2 * (i : Int)) + 1)).toNat = 2 * i + 1
  rw [wrap_sm (a := 2 * (i : Int)) (by omega) (by omega), wrap_sm (by omega) (by omega)]; omega
/-- the i-th byte's signs -/
theorem hexC (a : List UInt8) (i : Nat) (h : i < 32) : real.eq8 (real.getB (us.hex a) (real.nat (real.muli (real.int 2) (real.int i)))) (real.getB (real.ofS ⟨#[48, 49, 50, 51, 52, 53, 54, 55, 56, 57, 97, 98, 99, 100, 101, 102]⟩) (real.nat (real.toI8 (real.shr8 (real.getB a (real.nat (real.int i))) (real.toI64 (real.ofI64 (real.int 4))))))) = true := by
  rw [mul2 i h, hi_nib]
  show ((u_hex a).getD (2 * i) 0 == u_hexd.getD ((a.getD i 0).toNat / 16) 0) = true
  rw [hex_all, (hexP_get a 32 i h).1]
  exact beq_self_eq_true _
theorem hexD (a : List UInt8) (i : Nat) (h : i < 32) : real.eq8 (real.getB (us.hex a) (real.nat (real.addi (real.muli (real.int 2) (real.int i)) (real.int 1)))) (real.getB (real.ofS ⟨#[48, 49, 50, 51, 52, 53, 54, 55, 56, 57, 97, 98, 99, 100, 101, 102]⟩) (real.nat (real.toI8 (real.and8 (real.getB a (real.nat (real.int i))) (real.ofI8 (real.int 15)))))) = true := by
  rw [mul21 i h, lo_nib]
  show ((u_hex a).getD (2 * i + 1) 0 == u_hexd.getD ((a.getD i 0).toNat % 16) 0) = true
  rw [hex_all, (hexP_get a 32 i h).2]
  exact beq_self_eq_true _
theorem notb_no {x : Bool} (h : x = true) (hn : ¬ real.pB (real.notb x) false) : False := by
  subst h; exact hn rfl
end Go.Proofs.Ytmldccfchnlpgaa
set_option linter.unusedVariables false
set_option linter.unusedSimpArgs false
set_option maxRecDepth 100000
set_option maxHeartbeats 1000000
namespace Go.Proofs.Ytmldccfchnlpgaa
open Go Go.Vc
theorem big_cut (b : List UInt8) (i : Nat) (h : i < 16) (hb : 64 ≤ b.length) : real.cutB b (real.nat (real.muli (real.int 4) (real.int i))) (real.subn (real.nat (real.addi (real.muli (real.int 4) (real.int i)) (real.int 4))) (real.nat (real.muli (real.int 4) (real.int i)))) = (b.drop (4 * i)).take 4 := by
  show List.take ((IntKind.i64.wrap (IntKind.i64.wrap (4 * (i : Int)) + 4)).toNat - (IntKind.i64.wrap (4 * (i : Int))).toNat) (List.drop (IntKind.i64.wrap (4 * (i : Int))).toNat b) = _
  rw [wrap_sm (a := 4 * (i : Int)) (by omega) (by omega), wrap_sm (by omega) (by omega), show (4 * (i : Int) + 4).toNat - (4 * (i : Int)).toNat = 4 by omega, show (4 * (i : Int)).toNat = 4 * i by omega]
theorem schedR_lo (b : List UInt8) (i : Nat) (h : i < 16) (hb : 64 ≤ b.length) : real.setW (us.sched b i) (real.nat (real.int i)) (us.big (real.cutB b (real.nat (real.muli (real.int 4) (real.int i))) (real.subn (real.nat (real.addi (real.muli (real.int 4) (real.int i)) (real.int 4))) (real.nat (real.muli (real.int 4) (real.int i)))))) = us.sched b (i + 1) := by
  rw [big_cut b i h hb]
  show (u_sched b i).set i (u_big (List.take 4 (List.drop (4 * i) b))) = u_sched b (i + 1)
  rw [big_take]
  conv => rhs; rw [u_sched, if_pos h]
theorem sum4 (a b c d : UInt32) : ((a + b) + c) + d = ((d + c) + b) + a := by
  rw [UInt32.add_comm (a + b + c) d, UInt32.add_comm (a + b) c, UInt32.add_comm a b, ← UInt32.add_assoc, ← UInt32.add_assoc]
theorem schedR_hi (b : List UInt8) (i : Nat) (h : ¬ i < 16) (h64 : i < 64) : real.setW (us.sched b i) (real.nat (real.int i)) (real.add32 (real.add32 (real.add32
    (real.getW (us.sched b i) (real.nat (real.subi (real.int i) (real.int 16))))
    (real.xor32 (real.xor32 (us.rl (real.getW (us.sched b i) (real.nat (real.subi (real.int i) (real.int 15)))) (real.nint 6)) (us.rl (real.getW (us.sched b i) (real.nat (real.subi (real.int i) (real.int 15)))) (real.nint 17))) (real.shr32 (real.getW (us.sched b i) (real.nat (real.subi (real.int i) (real.int 15)))) (real.toI64 (real.ofI64 (real.int 3))))))
    (real.getW (us.sched b i) (real.nat (real.subi (real.int i) (real.int 7)))))
    (real.xor32 (real.xor32 (us.rl (real.getW (us.sched b i) (real.nat (real.subi (real.int i) (real.int 2)))) (real.nint 16)) (us.rl (real.getW (us.sched b i) (real.nat (real.subi (real.int i) (real.int 2)))) (real.nint 18))) (real.shr32 (real.getW (us.sched b i) (real.nat (real.subi (real.int i) (real.int 2)))) (real.toI64 (real.ofI64 (real.int 10)))))) = us.sched b (i + 1) := by
  rw [subI i 2 (by omega) (by omega), subI i 7 (by omega) (by omega), subI i 15 (by omega) (by omega), subI i 16 (by omega) (by omega), ofI64_3, ofI64_10]
  show (u_sched b i).set i ((((u_sched b i).getD (i - 16) 0 + u_sg0 ((u_sched b i).getD (i - 15) 0)) + (u_sched b i).getD (i - 7) 0) + u_sg1 ((u_sched b i).getD (i - 2) 0)) = _
  rw [sum4]
  have e : (u_sg1 ((u_sched b i).getD (i - 2) 0) + (u_sched b i).getD (i - 7) 0 + u_sg0 ((u_sched b i).getD (i - 15) 0)) + (u_sched b i).getD (i - 16) 0 = ((u_sg1 ((u_sched b i).getD (i - 2) 0) + (u_sched b i).getD (i - 7) 0) + u_sg0 ((u_sched b i).getD (i - 15) 0)) + (u_sched b i).getD (i - 16) 0 := rfl
  exact sched_hi b i h h64 _ _ _ _ rfl rfl rfl rfl
theorem neg_rl (x : UInt32) (n : Nat) (h : n < 100) : us.rl x (real.negi (real.int n)) = u_rr x n := by
  show (⟨x.toBitVec.rotateLeft ((IntKind.i64.wrap (0 - (n : Int))) % 32).toNat⟩ : UInt32) = ⟨x.toBitVec.rotateLeft ((-(n : Int)) % 32).toNat⟩
  rw [Int.zero_sub, wrap_sm (by omega) (by omega)]
noncomputable def r2_g (x : List UInt32) (j : Nat) : UInt32 := real.getW x (real.nat (real.int j))
noncomputable def r2_tn (x : UInt32) (a b c : Nat) : UInt32 := real.xor32 (real.xor32 (us.rl x (real.negi (real.int a))) (us.rl x (real.negi (real.int b)))) (us.rl x (real.negi (real.int c)))
noncomputable def r2_t1 (x : List UInt32) (k w : UInt32) : UInt32 := real.add32 (real.add32 (real.add32 (real.add32 (r2_g x 7) (r2_tn (r2_g x 4) 6 11 25)) (real.xor32 (real.and32 (r2_g x 4) (r2_g x 5)) (real.and32 (real.not32 (r2_g x 4)) (r2_g x 6)))) k) w
noncomputable def r2_t2 (x : List UInt32) : UInt32 := real.add32 (r2_tn (r2_g x 0) 2 13 22) (real.xor32 (real.xor32 (real.and32 (r2_g x 0) (r2_g x 1)) (real.and32 (r2_g x 0) (r2_g x 2))) (real.and32 (r2_g x 1) (r2_g x 2)))
theorem rndR (x : List UInt32) (k w : UInt32) : [real.add32 (r2_t1 x k w) (r2_t2 x), r2_g x 0, r2_g x 1, r2_g x 2, real.add32 (r2_g x 3) (r2_t1 x k w), r2_g x 4, r2_g x 5, r2_g x 6] = u_rnd x k w := by
  have e1 : r2_t1 x k w = real.add32 (real.add32 (real.add32 (real.add32 (r2_g x 7) (real.xor32 (real.xor32 (u_rr (r2_g x 4) 6) (u_rr (r2_g x 4) 11)) (u_rr (r2_g x 4) 25))) (real.xor32 (real.and32 (r2_g x 4) (r2_g x 5)) (real.and32 (real.not32 (r2_g x 4)) (r2_g x 6)))) k) w := by
    unfold r2_t1 r2_tn
    rw [neg_rl _ 6 (by omega), neg_rl _ 11 (by omega), neg_rl _ 25 (by omega)]
    rfl
  have e2 : r2_t2 x = real.add32 (real.xor32 (real.xor32 (u_rr (r2_g x 0) 2) (u_rr (r2_g x 0) 13)) (u_rr (r2_g x 0) 22)) (real.xor32 (real.xor32 (real.and32 (r2_g x 0) (r2_g x 1)) (real.and32 (r2_g x 0) (r2_g x 2))) (real.and32 (r2_g x 1) (r2_g x 2))) := by
    unfold r2_t2 r2_tn
    rw [neg_rl _ 2 (by omega), neg_rl _ 13 (by omega), neg_rl _ 22 (by omega)]
    rfl
  rw [e1, e2]
  rfl
theorem rndsR_step (ws v : List UInt32) (i : Nat) : [real.add32 (r2_t1 (us.rnds ws v i) (real.getW us.kc (real.nat (real.int i))) (real.getW ws (real.nat (real.int i)))) (r2_t2 (us.rnds ws v i)), r2_g (us.rnds ws v i) 0, r2_g (us.rnds ws v i) 1, r2_g (us.rnds ws v i) 2, real.add32 (r2_g (us.rnds ws v i) 3) (r2_t1 (us.rnds ws v i) (real.getW us.kc (real.nat (real.int i))) (real.getW ws (real.nat (real.int i)))), r2_g (us.rnds ws v i) 4, r2_g (us.rnds ws v i) 5, r2_g (us.rnds ws v i) 6] = us.rnds ws v (i + 1) := rndR _ _ _
theorem r_ref2_turned : Ready Try.prog 125 := by unfold Ready; kernel_rfl
noncomputable def sp_ref2_turned (F : Fs) (U : Us) : Specs := [(90, s_ref1_Rotl F U)]
theorem ok_ref2_turned : SpecsOK Try.prog (sp_ref2_turned real us) := sp_cons r_ref1_Rotl k_ref1_Rotl sp_nil
noncomputable def g_ref2_turned (F : Fs) (U : Us) : Law
  | [.w32 x, .i a, .i b, .i c] => some (True, [.val (.w32 (F.xor32 (F.xor32 (U.rl x (F.negi a)) (U.rl x (F.negi b))) (U.rl x (F.negi c))))])
  | _ => none
noncomputable def s_ref2_turned (F : Fs) (U : Us) : Vc.Spec := pureSpec F false [.keep, .keep, .keep, .keep] (g_ref2_turned F U)
noncomputable def x_ref2_turned (F : Fs) (U : Us) : Cx := ⟨Try.f125.ntmps, tt F, sp_ref2_turned F U, [], [], [], []⟩
theorem c_ref2_turned (x : UInt32) (a b c : Int) : vc real (x_ref2_turned real us) [] [] (Try.f125.body.getD .skip) ⟨zipSl 0 [.w32 x, .i a, .i b, .i c], [], 64⟩ (retOk real (tt real) false Try.f125.results.toList [.val (.w32 (real.xor32 (real.xor32 (us.rl x (real.negi a)) (us.rl x (real.negi b))) (us.rl x (real.negi c))))]) := by
  generalize hU : us = U
  generalize hF : real = F
  cbv
  repeat' first | apply And.intro | refine Classical.or_iff_not_imp_left.2 (fun _ => ?_) | exact trivial
  all_goals trace_state
theorem k_ref2_turned : SpecOK Try.prog 125 (s_ref2_turned real us) := by
  refine pure_sound (x := x_ref2_turned real us) ⟨tt_ok, ok_ref2_turned, Go.Vc.ks_nil⟩ mixed Try.func125 rfl rfl (by kernel_rfl) ?_
  intro l c rs hg hc
  unfold g_ref2_turned at hg
  split at hg
  · cases hg; exact ⟨Nat.le_of_ble_eq_true rfl, [], [], c_ref2_turned _ _ _ _⟩
  · cases hg

theorem r_ref2_constants : Ready Try.prog 123 := by unfold Ready; kernel_rfl
noncomputable def sp_ref2_constants (F : Fs) (U : Us) : Specs := []
theorem ok_ref2_constants : SpecsOK Try.prog (sp_ref2_constants real us) := sp_nil
noncomputable def g_ref2_constants (F : Fs) (U : Us) : Law
  | [] => some (True, [.val (.ag 64 (.wd (U.kc)))])
  | _ => none
noncomputable def s_ref2_constants (F : Fs) (U : Us) : Vc.Spec := pureSpec F false [] (g_ref2_constants F U)
noncomputable def x_ref2_constants (F : Fs) (U : Us) : Cx := ⟨Try.f123.ntmps, tt F, sp_ref2_constants F U, [], [], [], []⟩
theorem c_ref2_constants  : vc real (x_ref2_constants real us) [] [] (Try.f123.body.getD .skip) ⟨zipSl 0 [], [], 64⟩ (retOk real (tt real) false Try.f123.results.toList [.val (.ag 64 (.wd (us.kc)))]) := by
  generalize hU : us = U
  generalize hF : real = F
  cbv
  subst hF hU
  exact ⟨by decide, trivial⟩
theorem k_ref2_constants : SpecOK Try.prog 123 (s_ref2_constants real us) := by
  refine pure_sound (x := x_ref2_constants real us) ⟨tt_ok, ok_ref2_constants, Go.Vc.ks_nil⟩ mixed Try.func123 rfl rfl (by kernel_rfl) ?_
  intro l c rs hg hc
  unfold g_ref2_constants at hg
  split at hg
  · cases hg; exact ⟨Nat.le_of_ble_eq_true rfl, [], [], c_ref2_constants ⟩
  · cases hg

attribute [local irreducible] u_sched u_rnds u_kc u_add u_blks u_first u_next
theorem r_ref2_block : Ready Try.prog 98 := by unfold Ready; kernel_rfl
noncomputable def sp_ref2_block (F : Fs) (U : Us) : Specs := [(123, s_ref2_constants F U), (124, s_ref1_Big F U), (90, s_ref1_Rotl F U), (125, s_ref2_turned F U)]
theorem ok_ref2_block : SpecsOK Try.prog (sp_ref2_block real us) := sp_cons r_ref2_constants k_ref2_constants (sp_cons r_ref1_Big k_ref1_Big (sp_cons r_ref1_Rotl k_ref1_Rotl (sp_cons r_ref2_turned k_ref2_turned sp_nil)))
noncomputable def an_ref2_block (F : Fs) (U : Us) (s : List UInt32) (b : List UInt8) : Anns := [(4, ⟨Nat, fun i => i ≤ 64, fun i => F.subn 64 i, fun i => ⟨[(1, .rb 1 (.bt b)), (2, .p 0 0 0), (4, .p 1 0 0), (5, .p 2 0 0), (6, .p 3 0 0), (7, .i (F.int i))], [(2, 0, .bk 135 [(8, .wd s)]), (4, 1, .bk 135 [(8, .wd (F.repW 8))]), (5, 2, .bk 172 [(64, .wd (U.sched b i))]), (6, 3, .bk 172 [(64, .wd (U.kc))])]⟩⟩),
  (14, ⟨Nat, fun i => i ≤ 64, fun i => F.subn 64 i, fun i => ⟨[(2, .p 0 0 0), (4, .p 1 0 0), (5, .p 2 0 0), (6, .p 3 0 0), (12, .p 4 0 0), (13, .i (F.int i))], [(2, 0, .bk 135 [(8, .wd s)]), (4, 1, .bk 135 [(8, .wd (F.repW 8))]), (5, 2, .bk 172 [(64, .wd (U.sched b 64))]), (6, 3, .bk 172 [(64, .wd (U.kc))]), (12, 4, .bk 135 [(8, .wd (U.rnds (U.sched b 64) s i))])]⟩⟩),
  (21, ⟨Nat, fun i => i ≤ 8, fun i => F.subn 8 i, fun i => ⟨[(2, .p 0 0 0), (4, .p 1 0 0), (12, .p 4 0 0), (18, .i (F.int i))], [(2, 0, .bk 135 [(8, .wd (U.add s (U.rnds (U.sched b 64) s 64) i))]), (4, 1, .bk 135 [(8, .wd (F.repW 8))]), (12, 4, .bk 135 [(8, .wd (U.rnds (U.sched b 64) s 64))])]⟩⟩)]
noncomputable def g_ref2_block (F : Fs) (U : Us) : Law
  | [.ag 8 (.wd s), .rb 1 (.bt b)] => some (U.isW s 8 ∧ F.pLe 64 (F.lenB b) ∧ F.pLe (F.lenB b) 1000000000, [.val (.ag 8 (.wd (U.next s b)))])
  | _ => none
noncomputable def s_ref2_block (F : Fs) (U : Us) : Vc.Spec := pureSpec F false [.keep, .row .kB] (g_ref2_block F U)
noncomputable def x_ref2_block (F : Fs) (U : Us) : Cx := ⟨Try.f98.ntmps, tt F, sp_ref2_block F U, [], [(8, ([(7, [3])], [])), (11, ([(10, [4])], [])), (16, ([(3, [1])], [])), (17, ([(3, [1]), (7, [1, 3]), (12, [1, 3, 7]), (18, [1, 3, 7, 12]), (22, [1, 3, 7, 12, 18])], [])), (18, ([(4, [1]), (8, [1, 4]), (12, [1, 4, 8]), (14, [1, 4, 8, 12])], [])), (23, ([(6, [3])], []))], [], []⟩
theorem c_ref2_block (s : List UInt32) (b : List UInt8) (hc : us.isW s 8 ∧ real.pLe 64 (real.lenB b) ∧ real.pLe (real.lenB b) 1000000000) : vc real (x_ref2_block real us) (an_ref2_block real us s b) [] (Try.f98.body.getD .skip) ⟨zipSl 0 [.ag 8 (.wd s), .rb 1 (.bt b)], [], 64⟩ (retOk real (tt real) false Try.f98.results.toList [.val (.ag 8 (.wd (us.next s b)))]) := by
  generalize hU : us = U
  generalize hF : real = F
  have hs : s.length = 8 := hc.1
  have hb : 64 ≤ b.length := hc.2.1
  have hb2 : b.length ≤ 1000000000 := hc.2.2
  cbv
  repeat' first | apply And.intro | refine Classical.or_iff_not_imp_left.2 (fun _ => ?_) | exact trivial
  all_goals try (subst hF hU; simp only [real, us, Nat.le_eq, Int.cast_ofNat_Int, decide_eq_false_iff_not, decide_eq_true_eq, List.length_take, List.length_drop, List.length_append, List.length_replicate, List.length_set, List.length_cons, List.length_nil, List.length_zipWith] at *; (try simp (disch := omega) only [wrap_sm] at *); omega)
  · refine ⟨(0 : Nat), ?_⟩
    cbv; subst hF hU; simp only [real, us, Nat.le_eq, Int.cast_ofNat_Int, decide_eq_false_iff_not, decide_eq_true_eq] at *
    exact ⟨⟨sched_zero b, trivial⟩, trivial⟩
  · intro (i : Nat) hi
    replace hi : i ≤ 64 := hi
    have hl := sched_len b i
    have hi1 : IntKind.i64.wrap ((i : Int) + 1) = (i : Int) + 1 := wrap_sm (by omega) (by omega)
    cbv
    repeat' first | apply And.intro | refine Classical.or_iff_not_imp_left.2 (fun _ => ?_) | exact trivial
    all_goals try (subst hF hU; simp only [real, us, Nat.le_eq, Int.cast_ofNat_Int, decide_eq_false_iff_not, decide_eq_true_eq, List.length_take, List.length_drop, List.length_append, List.length_replicate, List.length_set, List.length_cons, List.length_nil, List.length_zipWith] at *; (try simp (disch := omega) only [wrap_sm] at *); omega)
    · have h16 := lt_g (j := i) (n := 16) (by subst hF; assumption)
      refine ⟨(i + 1 : Nat), ?_⟩
      cbv; subst hF hU
      exact ⟨by show i + 1 ≤ 64; omega, by show 64 - (i + 1) < 64 - i; omega, ⟨hi1, trivial⟩, ⟨schedR_lo b i h16 hb, trivial⟩, trivial⟩
    · have h16 := ge_g (j := i) (n := 16) (by subst hF; assumption)
      have h64 := lt_g (j := i) (n := 64) (by subst hF; assumption)
      refine ⟨(i + 1 : Nat), ?_⟩
      cbv; subst hF hU
      exact ⟨by show i + 1 ≤ 64; omega, by show 64 - (i + 1) < 64 - i; omega, ⟨hi1, trivial⟩, ⟨schedR_hi b i (by omega) h64, trivial⟩, trivial⟩
    · have h64 := ge_g (j := i) (n := 64) (by subst hF; assumption)
      have e : i = 64 := by omega
      refine ⟨(0 : Nat), ?_⟩
      cbv; subst hF hU e
      exact ⟨⟨rfl, trivial⟩, ⟨rnds_zero _ _, trivial⟩, trivial⟩
    · intro (i : Nat) hi
      replace hi : i ≤ 64 := hi
      have hl := rnds_len (u_sched b 64) s hs i
      have hl2 := sched_len b 64
      have hl3 := kc_len
      have hi1 : IntKind.i64.wrap ((i : Int) + 1) = (i : Int) + 1 := wrap_sm (by omega) (by omega)
      cbv
      repeat' first | apply And.intro | refine Classical.or_iff_not_imp_left.2 (fun _ => ?_) | exact trivial
      all_goals try (subst hF hU; simp only [real, us, Nat.le_eq, Int.cast_ofNat_Int, decide_eq_false_iff_not, decide_eq_true_eq, List.length_take, List.length_drop, List.length_append, List.length_replicate, List.length_set, List.length_cons, List.length_nil, List.length_zipWith] at *; (try simp (disch := omega) only [wrap_sm] at *); omega)
      · have h64 := lt_g (j := i) (n := 64) (by subst hF; assumption)
        refine ⟨(i + 1 : Nat), ?_⟩
        cbv; subst hF hU
        exact ⟨by show i + 1 ≤ 64; omega, by show 64 - (i + 1) < 64 - i; omega, ⟨hi1, trivial⟩, ⟨rndsR_step _ _ i, trivial⟩, trivial⟩
      · have h64 := ge_g (j := i) (n := 64) (by subst hF; assumption)
        have e : i = 64 := by omega
        refine ⟨(0 : Nat), ?_⟩
        cbv; subst hF hU e
        exact ⟨⟨add_zero _ _, trivial⟩, ⟨rfl, trivial⟩, trivial⟩
      · intro (j : Nat) hj
        replace hj : j ≤ 8 := hj
        have hr := rnds_len (u_sched b 64) s hs 64
        have ha := add_len s (u_rnds (u_sched b 64) s 64) hs hr j hj
        have hj1 : IntKind.i64.wrap ((j : Int) + 1) = (j : Int) + 1 := wrap_sm (by omega) (by omega)
        cbv
        repeat' first | apply And.intro | refine Classical.or_iff_not_imp_left.2 (fun _ => ?_) | exact trivial
        all_goals try (subst hF hU; simp only [real, us, Nat.le_eq, Int.cast_ofNat_Int, decide_eq_false_iff_not, decide_eq_true_eq, List.length_take, List.length_drop, List.length_append, List.length_replicate, List.length_set, List.length_cons, List.length_nil, List.length_zipWith] at *; (try simp (disch := omega) only [wrap_sm] at *); omega)
        · have h8 := lt_g (j := j) (n := 8) (by subst hF; assumption)
          refine ⟨(j + 1 : Nat), ?_⟩
          cbv; subst hF hU
          exact ⟨by show j + 1 ≤ 8; omega, by show 8 - (j + 1) < 8 - j; omega, ⟨hj1, trivial⟩, ⟨add_step s _ hs hr j h8, trivial⟩, trivial⟩
        · have h8 := ge_g (j := j) (n := 8) (by subst hF; assumption)
          have e : j = 8 := by omega
          subst hF hU e
          exact (add_comm8 s _ hs hr).trans (next_eq s b)
theorem k_ref2_block : SpecOK Try.prog 98 (s_ref2_block real us) := by
  refine pure_sound (x := x_ref2_block real us) ⟨tt_ok, ok_ref2_block, Go.Vc.ks_nil⟩ mixed Try.func98 rfl rfl (by kernel_rfl) ?_
  intro l c rs hg hc
  unfold g_ref2_block at hg
  split at hg
  · cases hg; exact ⟨Nat.le_of_ble_eq_true rfl, an_ref2_block real us _ _, [], c_ref2_block _ _ hc⟩
  · cases hg

end Go.Proofs.Ytmldccfchnlpgaa
set_option linter.unusedVariables false
set_option linter.unusedSimpArgs false
set_option maxRecDepth 100000
set_option maxHeartbeats 1000000
namespace Go.Proofs.Ytmldccfchnlpgaa
open Go Go.Vc
theorem putBig_get (x : UInt32) (j : Nat) (h : j < 4) : (u_putBig x).getD j 0 = real.ofI8 (real.toI32 (real.shr32 x ((24 - 8 * j : Nat) : Int))) := by
  have h4 : j = 0 ∨ j = 1 ∨ j = 2 ∨ j = 3 := by omega
  have e : real.shr32 x 0 = x := by simp [real]
  rcases h4 with rfl | rfl | rfl | rfl
  · rfl
  · rfl
  · rfl
  · rw [show ((24 - 8 * 3 : Nat) : Int) = 0 from rfl, e]; rfl
theorem outB_get (st : List UInt32) (i : Nat) (h : i < 32) : (u_outB st 8).getD i 0 = real.ofI8 (real.toI32 (real.shr32 (st.getD (i / 4) 0) ((24 - 8 * (i % 4) : Nat) : Int))) := by
  rw [chunk_get (u_outB st) (fun i => u_putBig (st.getD i 0)) 32 8 0 (fun _ => rfl) (fun _ _ => rfl) (fun i hi => outB_len st i hi) (by omega) 8 (by omega) i (by omega), putBig_get _ _ (by omega)]
theorem shamt24 (m : Nat) (h : m < 4) : real.toI64 (real.sub64 (real.ofI64 (real.int 24)) (real.mul64 (real.ofI64 (real.int 8)) (real.ofI64 (m : Int)))) = ((24 - 8 * m : Nat) : Int) := by
  have : ∀ m : Fin 4, real.toI64 (real.sub64 (real.ofI64 (real.int 24)) (real.mul64 (real.ofI64 (real.int 8)) (real.ofI64 (m.val : Int)))) = ((24 - 8 * m.val : Nat) : Int) := by decide
  exact this ⟨m, h⟩
theorem outF_step (st : List UInt32) (j : Nat) (h : j < 32) : (u_outF st j).set (real.nat (real.int j)) (real.ofI8 (real.toI32 (real.shr32 (real.getW st (real.nat (real.quoi (real.int j) (real.int 4)))) (real.toI64 (real.sub64 (real.ofI64 (real.int 24)) (real.mul64 (real.ofI64 (real.int 8)) (real.ofI64 (real.remi (real.int j) (real.int 4))))))))) = u_outF st (j + 1) := by
  rw [quo4 j (by omega), show real.remi (real.int j) (real.int 4) = ((j % 4 : Nat) : Int) from rfl, shamt24 _ (by omega), show real.nat (real.int j) = j from rfl]
  exact fill_step _ 32 j 0 0 _ (outB_len st 8 (by omega)) h (outB_get st j h)
theorem outF_zero (st : List UInt32) : List.replicate 32 0 = u_outF st 0 := (fill_zero _ 32 0).symm
theorem outF_end (st : List UInt32) : u_outF st 32 = u_outB st 8 := fill_full _ 32 0 (outB_len _ 8 (by omega))
theorem outF_len (st : List UInt32) (j : Nat) (h : j ≤ 32) : (u_outF st j).length = 32 := by
  unfold u_outF
  rw [List.length_append, List.length_take, outB_len st 8 (by omega), List.length_replicate]; omega
theorem first_eq : [real.ofI32 (real.int 1779033703), real.ofI32 (real.int 3144134277), real.ofI32 (real.int 1013904242), real.ofI32 (real.int 2773480762), real.ofI32 (real.int 1359893119), real.ofI32 (real.int 2600822924), real.ofI32 (real.int 528734635), real.ofI32 (real.int 1541459225)] = us.first := by decide
theorem sum_end (m : List UInt8) (j : Nat) (h : j = u_nblk (u_pad m m.length)) : u_outF (u_blks u_first (u_pad m m.length) j) 32 = u_sum m := by
  subst h
  exact outF_end _
theorem blk_cut (s : List UInt32) (x : List UInt8) (j : Nat) (h : j < u_nblk x) (hx : x.length ≤ 1000000) : us.next (us.blks s x j) (real.cutB x (real.nat (real.int (real.muln 64 j))) (real.subn (real.nat (real.addi (real.int (real.muln 64 j)) (real.int 64))) (real.nat (real.int (real.muln 64 j))))) = us.blks s x (j + 1) := by
  have hn : 64 * j + 64 ≤ x.length := by unfold u_nblk at h; omega
  show u_next (u_blks s x j) (List.take ((IntKind.i64.wrap (((64 * j : Nat) : Int) + 64)).toNat - (((64 * j : Nat) : Int)).toNat) (List.drop (((64 * j : Nat) : Int)).toNat x)) = _
  rw [wrap_sm (by omega) (by omega), show (((64 * j : Nat) : Int) + 64).toNat - (((64 * j : Nat) : Int)).toNat = 64 by omega]
  exact blks_cut s x j h
theorem cut_end {x : List UInt8} {j : Nat} (h : j < u_nblk x) (hx : x.length ≤ 1000000) : real.nat (real.addi (real.int (real.muln 64 j)) (real.int 64)) = 64 * j + 64 := by
  have hn : 64 * j + 64 ≤ x.length := by unfold u_nblk at h; omega
  show (IntKind.i64.wrap (((64 * j : Nat) : Int) + 64)).toNat = _
  rw [wrap_sm (by omega) (by omega)]; omega
theorem cut_lo {x : List UInt8} {j : Nat} (h : j < u_nblk x) (hx : x.length ≤ 1000000) : real.pLe (real.nat (real.addi (real.int (real.muln 64 j)) (real.int 64))) (real.lenB x) := by
  rw [cut_end h hx]
  show 64 * j + 64 ≤ x.length
  unfold u_nblk at h; omega
theorem cut_in {x : List UInt8} {j : Nat} (h : j < u_nblk x) (hx : x.length ≤ 1000000) : real.pLe (real.addn (real.nat (real.int (real.muln 64 j))) (real.subn (real.nat (real.addi (real.int (real.muln 64 j)) (real.int 64))) (real.nat (real.int (real.muln 64 j))))) (real.lenB x) := by
  rw [cut_end h hx]
  show 64 * j + (64 * j + 64 - 64 * j) ≤ x.length
  unfold u_nblk at h; omega
theorem cut_le {x : List UInt8} {j : Nat} (h : j < u_nblk x) (hx : x.length ≤ 1000000) : real.pLe 64 (real.lenB (real.cutB x (real.nat (real.int (real.muln 64 j))) (real.subn (real.nat (real.addi (real.int (real.muln 64 j)) (real.int 64))) (real.nat (real.int (real.muln 64 j)))))) := by
  rw [cut_end h hx]
  show 64 ≤ (List.take (64 * j + 64 - 64 * j) (List.drop (64 * j) x)).length
  rw [List.length_take, List.length_drop]
  unfold u_nblk at h; omega
theorem gd_lt {j : Nat} {x : List UInt8} (h : ¬ real.pB (real.lti (real.int (real.muln 64 j)) (real.int (real.lenB x))) false) : 64 * j < x.length := lt_g h
theorem gd_ge {j : Nat} {x : List UInt8} (h : ¬ real.pB (real.lti (real.int (real.muln 64 j)) (real.int (real.lenB x))) true) : x.length ≤ 64 * j := ge_g h
theorem nblk_stop {x : List UInt8} {j : Nat} (hj : j ≤ u_nblk x) (h : x.length ≤ 64 * j) : j = u_nblk x := by unfold u_nblk at *; omega
theorem sub_step {j n : Nat} (h : j < n) : n - (j + 1) < n - j := by omega
theorem blk_next {x : List UInt8} {j : Nat} (h : j < u_nblk x) (hx : x.length ≤ 1000000) : real.addi (real.int (real.muln 64 j)) (real.int 64) = real.int (real.muln 64 (j + 1)) := by
  have hn : 64 * j + 64 ≤ x.length := by unfold u_nblk at h; omega
  show IntKind.i64.wrap (((64 * j : Nat) : Int) + 64) = ((64 * (j + 1) : Nat) : Int)
  rw [wrap_sm (by omega) (by omega)]; omega
theorem quo_val (i : Nat) (h : i < 32) : real.quoi (real.int i) (real.int 4) = ((i / 4 : Nat) : Int) := by
  show IntKind.i64.wrap ((i : Int).tdiv 4) = _
  rw [show (i : Int).tdiv 4 = ((i / 4 : Nat) : Int) from rfl, wrap_sm (by omega) (by omega)]
theorem quo_in (i : Nat) (h : i < 32) : real.pIn (real.quoi (real.int i) (real.int 4)) 8 := by
  rw [quo_val i h]; exact ⟨by omega, by omega⟩
theorem quo_lt (i : Nat) (h : i < 32) : real.pLt (real.nat (real.quoi (real.int i) (real.int 4))) 8 := by
  rw [quo_val i h]; show i / 4 < 8; omega
theorem nblk_go {x : List UInt8} {j : Nat} (h : 64 * j < x.length) (hm : x.length % 64 = 0) : j < u_nblk x := by unfold u_nblk; omega
end Go.Proofs.Ytmldccfchnlpgaa
namespace Go.Proofs.Ytmldccfchnlpgaa
open Go Go.Vc
attribute [local irreducible] u_sched u_rnds u_kc u_add u_blks u_first u_next u_padZ u_padP u_pad u_outB u_nblk u_fin u_ws u_wr u_sum u_outF
theorem r_ref2_Sum : Ready Try.prog 41 := by unfold Ready; kernel_rfl
noncomputable def sp_ref2_Sum (F : Fs) (U : Us) : Specs := [(97, s_ref1_Put F U), (98, s_ref2_block F U)]
theorem ok_ref2_Sum : SpecsOK Try.prog (sp_ref2_Sum real us) := sp_cons r_ref1_Put k_ref1_Put (sp_cons r_ref2_block k_ref2_block sp_nil)
noncomputable def an_ref2_Sum (F : Fs) (U : Us) (m : List UInt8) : Anns := [(3, ⟨Nat, fun j => j ≤ U.padZ m, fun j => F.subn (U.padZ m) j, fun j => ⟨[(0, .rb 1 (.bt m)), (2, .p 0 0 0), (3, .p 1 0 0), (4, .rw 2)], [(2, 0, .bk 23 [(32, .bt (F.repB 32))]), (3, 1, .bk 135 [(8, .wd U.first)]), (4, 2, .row 5 1 (.bt (U.padP m j)))]⟩⟩),
  (7, ⟨Nat, fun j => j ≤ U.nblk (U.pad m (F.int (F.lenB m))), fun j => F.subn (U.nblk (U.pad m (F.int (F.lenB m)))) j, fun j => ⟨[(2, .p 0 0 0), (3, .p 1 0 0), (4, .rw 2), (5, .i (F.int (F.muln 64 j)))], [(2, 0, .bk 23 [(32, .bt (F.repB 32))]), (3, 1, .bk 135 [(8, .wd (U.blks U.first (U.pad m (F.int (F.lenB m))) j))]), (4, 2, .row 5 1 (.bt (U.pad m (F.int (F.lenB m)))))]⟩⟩),
  (12, ⟨Nat, fun i => i ≤ 32, fun i => F.subn 32 i, fun i => ⟨[(2, .p 0 0 0), (3, .p 1 0 0), (6, .p 2 0 0), (7, .i (F.int i))], [(2, 0, .bk 23 [(32, .bt (F.repB 32))]), (3, 1, .bk 135 [(8, .wd (U.blks U.first (U.pad m (F.int (F.lenB m))) (U.nblk (U.pad m (F.int (F.lenB m))))))]), (6, 2, .bk 23 [(32, .bt (U.outF (U.blks U.first (U.pad m (F.int (F.lenB m))) (U.nblk (U.pad m (F.int (F.lenB m))))) i))])]⟩⟩)]
noncomputable def g_ref2_Sum (F : Fs) (U : Us) : Law
  | [.rb 1 (.bt m)] => some (F.pLe (F.lenB m) 800000, [.val (.ag 32 (.bt (U.sum m)))])
  | _ => none
noncomputable def s_ref2_Sum (F : Fs) (U : Us) : Vc.Spec := pureSpec F false [.row .kB] (g_ref2_Sum F U)
noncomputable def x_ref2_Sum (F : Fs) (U : Us) : Cx := ⟨Try.f41.ntmps, tt F, sp_ref2_Sum F U, [], [(9, ([(5, [0])], []))], [], []⟩
theorem c_ref2_Sum (m : List UInt8) (hc : real.pLe (real.lenB m) 800000) : vc real (x_ref2_Sum real us) (an_ref2_Sum real us m) [] (Try.f41.body.getD .skip) ⟨zipSl 0 [.rb 1 (.bt m)], [], 64⟩ (retOk real (tt real) false Try.f41.results.toList [.val (.ag 32 (.bt (us.sum m)))]) := by
  generalize hU : us = U
  generalize hF : real = F
  have hm : m.length ≤ 800000 := hc
  have hpm := pad_mod m (m.length : Int)
  have hpl := pad_len m (m.length : Int)
  have hz : u_padZ m < 64 := by unfold u_padZ; omega
  have hnb := nblk_mul hpm
  have hfl := first_len
  have hplen : (u_pad m ↑m.length).length ≤ 1000000 := by omega
  cbv
  repeat' first | apply And.intro | refine Classical.or_iff_not_imp_left.2 (fun _ => ?_) | exact trivial
  all_goals try (subst hF hU; simp only [real, us, Nat.le_eq, Int.cast_ofNat_Int, decide_eq_false_iff_not, decide_eq_true_eq, List.length_take, List.length_drop, List.length_append, List.length_replicate, List.length_set, List.length_cons, List.length_nil, List.length_zipWith] at *; (try simp (disch := omega) only [wrap_sm] at *); omega)
  · refine ⟨(0 : Nat), ?_⟩
    cbv; subst hF hU
    exact ⟨Nat.zero_le _, ⟨first_eq, trivial⟩, padP_zero m, trivial⟩
  · intro (j : Nat) hj
    have hj2 : j ≤ u_padZ m := by subst hF hU; exact hj
    clear hj
    have hlen := padP_len m j
    cbv
    repeat' first | apply And.intro | refine Classical.or_iff_not_imp_left.2 (fun _ => ?_) | exact trivial
    all_goals try (subst hF hU; simp only [real, us, Nat.le_eq, Int.cast_ofNat_Int, decide_eq_false_iff_not, decide_eq_true_eq, List.length_take, List.length_drop, List.length_append, List.length_replicate, List.length_set, List.length_cons, List.length_nil, List.length_zipWith] at *; (try simp (disch := omega) only [wrap_sm] at *); omega)
    · refine ⟨(j + 1 : Nat), ?_⟩
      cbv; subst hF hU
      rename_i hg
      have hlt := pad_go hj2 hg
      exact ⟨hlt, by show u_padZ m - (j + 1) < u_padZ m - j; omega, padP_step m j, trivial⟩
    · refine ⟨(0 : Nat), ?_⟩
      cbv; subst hF hU
      rename_i hg
      have e := pad_stop hj2 hg
      rw [e]
      exact ⟨Nat.zero_le _, ⟨rfl, trivial⟩, ⟨blks_zero _ _, trivial⟩, pad_end m _, trivial⟩
    · intro (j : Nat) hj
      have hj2 : j ≤ u_nblk (u_pad m m.length) := by subst hF hU; exact hj
      clear hj
      have hbl := blks_len u_first (u_pad m m.length) hfl j
      cbv
      repeat' first | apply And.intro | refine Classical.or_iff_not_imp_left.2 (fun _ => ?_) | exact trivial
      all_goals try (subst hF hU; simp only [real, us, Nat.le_eq, Int.cast_ofNat_Int, decide_eq_false_iff_not, decide_eq_true_eq, List.length_take, List.length_drop, List.length_append, List.length_replicate, List.length_set, List.length_cons, List.length_nil, List.length_zipWith] at *; (try simp (disch := omega) only [wrap_sm] at *); omega)
      · subst hF hU; rename_i hg; exact cut_lo (nblk_go (gd_lt hg) hpm) hplen
      · subst hF hU; rename_i hg; exact cut_in (nblk_go (gd_lt hg) hpm) hplen
      · subst hF hU; exact hbl
      · subst hF hU; rename_i hg; exact cut_le (nblk_go (gd_lt hg) hpm) hplen
      · refine ⟨(j + 1 : Nat), ?_⟩
        cbv; subst hF hU
        rename_i hg
        have hlt := nblk_go (gd_lt hg) hpm
        exact ⟨hlt, sub_step hlt, ⟨blk_next hlt hplen, trivial⟩, ⟨blk_cut _ _ j hlt hplen, trivial⟩, trivial⟩
      · have e : j = u_nblk (u_pad m m.length) := by
          rename_i hg
          subst hF hU
          exact nblk_stop hj2 (gd_ge hg)
        refine ⟨(0 : Nat), ?_⟩
        cbv; subst hF hU e
        exact ⟨⟨rfl, trivial⟩, ⟨outF_zero _, trivial⟩, trivial⟩
      · intro (i : Nat) hi
        replace hi : i ≤ 32 := hi
        have hb8 := blks_len u_first (u_pad m m.length) hfl (u_nblk (u_pad m m.length))
        have hol := outF_len (u_blks u_first (u_pad m m.length) (u_nblk (u_pad m m.length))) i hi
        have hi1 : IntKind.i64.wrap ((i : Int) + 1) = (i : Int) + 1 := wrap_sm (by omega) (by omega)
        cbv
        repeat' first | apply And.intro | refine Classical.or_iff_not_imp_left.2 (fun _ => ?_) | exact trivial
        all_goals try (subst hF hU; simp only [real, us, Nat.le_eq, Int.cast_ofNat_Int, decide_eq_false_iff_not, decide_eq_true_eq, List.length_take, List.length_drop, List.length_append, List.length_replicate, List.length_set, List.length_cons, List.length_nil, List.length_zipWith] at *; (try simp (disch := omega) only [wrap_sm] at *); omega)
        · subst hF; rename_i hg; exact quo_in i (lt_g (n := 32) hg)
        · subst hF; rename_i hg; exact quo_lt i (lt_g (n := 32) hg)
        · have h32 := lt_g (j := i) (n := 32) (by subst hF; assumption)
          refine ⟨(i + 1 : Nat), ?_⟩
          cbv; subst hF hU
          exact ⟨by show i + 1 ≤ 32; omega, by show 32 - (i + 1) < 32 - i; omega, ⟨hi1, trivial⟩, ⟨outF_step _ i h32, trivial⟩, trivial⟩
        · have h32 := ge_g (j := i) (n := 32) (by subst hF; assumption)
          have e : i = 32 := by omega
          subst hF hU e
          exact sum_end m _ rfl
theorem k_ref2_Sum : SpecOK Try.prog 41 (s_ref2_Sum real us) := by
  refine pure_sound (x := x_ref2_Sum real us) ⟨tt_ok, ok_ref2_Sum, Go.Vc.ks_nil⟩ mixed Try.func41 rfl rfl (by kernel_rfl) ?_
  intro l c rs hg hc
  unfold g_ref2_Sum at hg
  split at hg
  · cases hg; exact ⟨Nat.le_of_ble_eq_true rfl, an_ref2_Sum real us _, [], c_ref2_Sum _ hc⟩
  · cases hg

end Go.Proofs.Ytmldccfchnlpgaa
set_option linter.unusedVariables false
set_option linter.unusedSimpArgs false
set_option maxRecDepth 100000
set_option maxHeartbeats 1000000
namespace Go.Proofs.Ytmldccfchnlpgaa
open Go Go.Vc
/-! ## What a hash is, in the conditions' words -/
theorem isW_first : us.isW us.first 8 := first_len
theorem isW_ws {s : List UInt32} (r b : List UInt8) (h : us.isW s 8) : us.isW (us.ws s r b) 8 := ws_len s r b h
theorem wr_small (r b : List UInt8) {N : Nat} (h : 64 ≤ N) : real.pLe (real.lenB (us.wr r b)) N := by
  show (u_wr r b).length ≤ N
  rw [wr_len]
  omega
theorem cut32 (x : List UInt8) (h : x.length = 32) : real.cutB x 0 32 = x := by
  show List.take 32 (List.drop 0 x) = x
  rw [List.drop_zero, List.take_of_length_le (by omega)]
theorem fin1 (m : List UInt8) (n : Int) (h : n = m.length) : us.fin (us.ws us.first [] m) (us.wr [] m) n = us.sum m := sum_ws m n h
theorem fin2 (m1 m2 : List UInt8) (n : Int) (h : n = (m1 ++ m2).length) : us.fin (us.ws (us.ws us.first [] m1) (us.wr [] m1) m2) (us.wr (us.wr [] m1) m2) n = us.sum (m1 ++ m2) := by
  show u_fin (u_ws (u_ws u_first [] m1) (u_wr [] m1) m2) (u_wr (u_wr [] m1) m2) n = u_sum (m1 ++ m2)
  rw [ws_ws, wr_wr]
  exact sum_ws _ n h
theorem isL_sum (m : List UInt8) : us.isL (us.sum m) 32 := sum_len m
theorem isL_fin (s : List UInt32) (r : List UInt8) (n : Int) : us.isL (us.fin s r n) 32 := fin_len s r n
theorem ws_none (b : List UInt8) : us.first = us.ws us.first [] (real.cutB b 0 0) := by
  show u_first = u_blks u_first ([] ++ List.take 0 (List.drop 0 b)) (u_nblk ([] ++ List.take 0 (List.drop 0 b)))
  have e : ([] ++ List.take 0 (List.drop 0 b) : List UInt8) = [] := by simp
  rw [e]
  have : u_nblk [] = 0 := by decide
  rw [this]; rfl
theorem ws_nil0 : us.first = us.ws us.first [] [] := ws_none []
theorem wr_none (b : List UInt8) : [] = us.wr [] (real.cutB b 0 0) := by
  show [] = List.drop (64 * u_nblk ([] ++ List.take 0 (List.drop 0 b))) ([] ++ List.take 0 (List.drop 0 b))
  have e : ([] ++ List.take 0 (List.drop 0 b) : List UInt8) = [] := by simp
  rw [e, List.drop_nil]
theorem wr_nil0 : [] = us.wr [] [] := wr_none []
theorem ws_more (m x : List UInt8) : us.ws (us.ws us.first [] m) (us.wr [] m) x = us.ws us.first [] (real.appB m x) := ws_ws _ _ _
theorem wr_more (m x : List UInt8) : us.wr (us.wr [] m) x = us.wr [] (real.appB m x) := wr_wr _ _
end Go.Proofs.Ytmldccfchnlpgaa
set_option linter.unusedVariables false
set_option linter.unusedSimpArgs false
set_option maxRecDepth 100000
set_option maxHeartbeats 1000000
namespace Go.Proofs.Ytmldccfchnlpgaa
open Go Go.Vc
theorem mpad_len (K : List UInt8) (c : UInt8) : (u_mpad K c).length = 64 := by
  unfold u_mpad
  rw [List.length_map, mfill_len]
theorem cut64 (K : List UInt8) (c : UInt8) : real.cutB (us.mpad K c) 0 64 = u_mpad K c := by
  show ((u_mpad K c).drop 0).take 64 = _
  rw [List.drop_zero, List.take_of_length_le (by rw [mpad_len]; omega)]
theorem cut32s (x : List UInt8) (h : x.length = 32) : real.cutB x 0 32 = x := by
  show (x.drop 0).take 32 = _
  rw [List.drop_zero, List.take_of_length_le (by omega)]
theorem c54 : real.ofI8 (real.int 54) = 54 := by decide
theorem c92 : real.ofI8 (real.int 92) = 92 := by decide
noncomputable abbrev inM (K m : List UInt8) : List UInt8 := us.fin (us.ws (us.ws us.first [] (real.cutB (us.mpad K (real.ofI8 (real.int 54))) 0 64)) (us.wr [] (real.cutB (us.mpad K (real.ofI8 (real.int 54))) 0 64)) m) (us.wr (us.wr [] (real.cutB (us.mpad K (real.ofI8 (real.int 54))) 0 64)) m) (real.addi (real.addi 0 (real.int (real.lenB (real.cutB (us.mpad K (real.ofI8 (real.int 54))) 0 64)))) (real.int (real.lenB m)))
noncomputable abbrev outM (K x : List UInt8) : List UInt8 := us.fin (us.ws (us.ws us.first [] (real.cutB (us.mpad K (real.ofI8 (real.int 92))) 0 64)) (us.wr [] (real.cutB (us.mpad K (real.ofI8 (real.int 92))) 0 64)) (real.cutB x 0 32)) (us.wr (us.wr [] (real.cutB (us.mpad K (real.ofI8 (real.int 92))) 0 64)) (real.cutB x 0 32)) (real.addi (real.addi 0 (real.int (real.lenB (real.cutB (us.mpad K (real.ofI8 (real.int 92))) 0 64)))) (real.int (real.lenB (real.cutB x 0 32))))
theorem two_add {a b : Nat} (h : a + b ≤ 1000000000) : real.addi (real.addi 0 (real.int a)) (real.int b) = ((a + b : Nat) : Int) := by
  have e : real.addi 0 (real.int a) = (a : Int) := by
    show IntKind.i64.wrap (0 + (a : Int)) = _
    rw [wrap_sm (by omega) (by omega)]; omega
  rw [e]
  show IntKind.i64.wrap ((a : Int) + (b : Int)) = _
  rw [wrap_sm (by omega) (by omega)]; omega
theorem inM_eq (K m : List UInt8) (hm : m.length ≤ 800000) : inM K m = u_sum (u_mpad K 54 ++ m) := by
  have hl := mpad_len K 54
  unfold inM
  rw [c54, cut64]
  refine fin2 _ _ _ ?_
  rw [List.length_append]
  exact two_add (a := (u_mpad K 54).length) (b := m.length) (by omega)
theorem outM_eq (K x : List UInt8) (hx : x.length = 32) : outM K x = u_sum (u_mpad K 92 ++ x) := by
  have hl := mpad_len K 92
  unfold outM
  rw [c92, cut64, cut32s x hx]
  refine fin2 _ _ _ ?_
  rw [List.length_append]
  exact two_add (a := (u_mpad K 92).length) (b := x.length) (by omega)
theorem mac_eq (K k m : List UInt8) (hm : m.length ≤ 800000) (h : K = u_mkey k) : outM K (inM K m) = us.mac k m := by
  rw [inM_eq K m hm, outM_eq K _ (sum_len _), h]
  rfl
theorem key_long {k : List UInt8} (h : ¬ real.pB (real.lti (real.int 64) (real.int (real.lenB k))) false) : real.cutB (us.sum k) 0 32 = u_mkey k := by
  have h1 := lt_g (j := 64) (n := k.length) h
  unfold u_mkey
  rw [if_pos h1]
  exact cut32s _ (sum_len k)
theorem key_short {k : List UInt8} (h : ¬ real.pB (real.lti (real.int 64) (real.int (real.lenB k))) true) : k = u_mkey k := by
  have h1 := ge_g (j := 64) (n := k.length) h
  unfold u_mkey
  rw [if_neg (by omega)]
theorem l32 (x : List UInt8) : real.pLe (real.addn 0 32) (real.lenB (us.sum x)) := by
  show 0 + 32 ≤ (u_sum x).length
  rw [sum_len]; omega
theorem l64 (x : List UInt8) (c : UInt8) : real.pLe (real.addn 0 64) (real.lenB (us.mpad x c)) := by
  show 0 + 64 ≤ (u_mpad x c).length
  rw [mpad_len]; omega
theorem lfin (s : List UInt32) (r : List UInt8) (n : Int) : real.pLe (real.addn 0 32) (real.lenB (us.fin s r n)) := by
  have h : (u_fin s r n).length = 32 := outB_len _ 8 (Nat.le_refl _)
  show 0 + 32 ≤ (u_fin s r n).length
  rw [h]; omega
attribute [local irreducible] u_sched u_rnds u_kc u_add u_blks u_first u_next u_padZ u_padP u_pad u_outB u_nblk u_fin u_ws u_wr u_sum u_mpad u_fill
theorem r_mac_Mac : Ready Try.prog 60 := by unfold Ready; kernel_rfl
noncomputable def sp_mac_Mac (F : Fs) (U : Us) : Specs := [(40, s_sha_Sum F U), (43, s_sha_New F U), (44, s_sha_Hash_Write F U), (45, s_sha_Hash_Sum F U), (115, s_mac_pad F U)]
theorem ok_mac_Mac : SpecsOK Try.prog (sp_mac_Mac real us) := sp_cons r_sha_Sum k_sha_Sum (sp_cons r_sha_New k_sha_New (sp_cons r_sha_Hash_Write k_sha_Hash_Write (sp_cons r_sha_Hash_Sum k_sha_Hash_Sum (sp_cons r_mac_pad k_mac_pad sp_nil))))
noncomputable def g_mac_Mac (F : Fs) (U : Us) : Law
  | [.rb 1 (.bt k), .rb 1 (.bt m)] => some (F.pLe (F.lenB k) 800000 ∧ F.pLe (F.lenB m) 800000, [.val (.ag 32 (.bt (U.mac k m)))])
  | _ => none
noncomputable def s_mac_Mac (F : Fs) (U : Us) : Vc.Spec := pureSpec F false [.row .kB, .row .kB] (g_mac_Mac F U)
noncomputable def x_mac_Mac (F : Fs) (U : Us) : Cx := ⟨Try.f60.ntmps, tt F, sp_mac_Mac F U, [], [], [], []⟩
theorem c_mac_Mac (k m : List UInt8) (hc : real.pLe (real.lenB k) 800000 ∧ real.pLe (real.lenB m) 800000) : vc real (x_mac_Mac real us) [] [] (Try.f60.body.getD .skip) ⟨zipSl 0 [.rb 1 (.bt k), .rb 1 (.bt m)], [], 64⟩ (retOk real (tt real) false Try.f60.results.toList [.val (.ag 32 (.bt (us.mac k m)))]) := by
  generalize hU : us = U
  generalize hF : real = F
  have hk : k.length ≤ 800000 := hc.1
  have hm : m.length ≤ 800000 := hc.2
  have f1 : ∀ x, F.pLe (F.addn 0 32) (F.lenB (U.sum x)) := by subst hF hU; exact l32
  have f2 : ∀ x c, F.pLe (F.addn 0 64) (F.lenB (U.mpad x c)) := by subst hF hU; exact l64
  have f3 : ∀ s r n, F.pLe (F.addn 0 32) (F.lenB (U.fin s r n)) := by subst hF hU; exact lfin
  have f4 : U.isW U.first 8 := by subst hU; exact isW_first
  have f5 : ∀ s r b, U.isW s 8 → U.isW (U.ws s r b) 8 := by subst hU; exact fun s r b h => isW_ws r b h
  have f6 : ∀ r b, F.pLe (F.lenB (U.wr r b)) 100000000 := by subst hF hU; exact fun r b => wr_small r b (by omega)
  have f7 : ∀ r b, F.pLe (F.lenB (U.wr r b)) 900000 := by subst hF hU; exact fun r b => wr_small r b (by omega)
  cbv
  repeat' first | apply And.intro | refine Classical.or_iff_not_imp_left.2 (fun _ => ?_) | exact trivial
  all_goals try (subst hF hU; simp only [real, us, Nat.le_eq, Int.cast_ofNat_Int, decide_eq_false_iff_not, decide_eq_true_eq, List.length_take, List.length_drop, List.length_append, List.length_replicate, List.length_set, List.length_cons, List.length_nil, List.length_zipWith] at *; (try simp (disch := omega) only [wrap_sm] at *); omega)
  all_goals first
    | exact f1 _
    | exact f2 _ _
    | exact f3 _ _ _
    | exact f4
    | exact f5 _ _ _ f4
    | exact f5 _ _ _ (f5 _ _ _ f4)
    | exact f6 _ _
    | exact f7 _ _
    | skip
  · rename_i h; subst hF hU; exact mac_eq _ k m hm (key_long h)
  · rename_i h; subst hF hU; exact mac_eq k k m hm (key_short h)
theorem k_mac_Mac : SpecOK Try.prog 60 (s_mac_Mac real us) := by
  refine pure_sound (x := x_mac_Mac real us) ⟨tt_ok, ok_mac_Mac, Go.Vc.ks_nil⟩ mixed Try.func60 rfl rfl (by kernel_rfl) ?_
  intro l c rs hg hc
  unfold g_mac_Mac at hg
  split at hg
  · cases hg; exact ⟨Nat.le_of_ble_eq_true rfl, [], [], c_mac_Mac _ _ hc⟩
  · cases hg

end Go.Proofs.Ytmldccfchnlpgaa
set_option linter.unusedVariables false
set_option linter.unusedSimpArgs false
set_option maxRecDepth 100000
set_option maxHeartbeats 1000000
namespace Go.Proofs.Ytmldccfchnlpgaa
open Go Go.Vc
def nN (n : Int) : Nat := (min (max n 0) 8160).toNat
theorem nn_eq (n : Int) : real.mini (real.maxi n (real.int 0)) (real.int 8160) = (nN n : Int) := by
  show (if (8160 : Int) < (if (0 : Int) > n then 0 else n) then 8160 else (if (0 : Int) > n then 0 else n)) = _
  unfold nN
  by_cases h : (0 : Int) > n
  · rw [if_pos h, if_neg (by omega)]; omega
  · rw [if_neg h]
    by_cases h2 : (8160 : Int) < n
    · rw [if_pos h2]; omega
    · rw [if_neg h2]; omega
theorem nN_le (n : Int) : nN n ≤ 8160 := by unfold nN; omega
noncomputable abbrev cnM (n : Int) : Nat := us.chN (real.repB (real.nat (real.mini (real.maxi n (real.int 0)) (real.int 8160))))
theorem cn_eq (n : Int) : cnM n = (nN n + 31) / 32 := by
  unfold cnM
  rw [nn_eq]
  show ((List.replicate (nN n) (0 : UInt8)).length + 31) / 32 = _
  rw [List.length_replicate]
theorem cn_le (n : Int) : cnM n ≤ 255 := by
  have := nN_le n
  rw [cn_eq]; omega
theorem mac_len (k m : List UInt8) : (u_mac k m).length = 32 := sum_len _
theorem mxL_len (k info : List UInt8) (i : Nat) : (u_mxL k info (i + 1)).length = 32 := mac_len _ _
theorem mxO_len (k info : List UInt8) : ∀ i, (u_mxO k info i).length = 32 * i
  | 0 => rfl
  | i + 1 => by
    rw [u_mxO, List.length_append, mxO_len k info i, mxL_len]; omega
theorem mx_lt {k info : List UInt8} {n : Int} {i : Nat} (h : ¬ real.pB (real.lti (real.int (real.lenB (us.mxO k info i))) (real.mini (real.maxi n (real.int 0)) (real.int 8160))) false) : i < cnM n := by
  rw [nn_eq] at h
  have h1 := lt_g (j := (u_mxO k info i).length) (n := nN n) h
  rw [mxO_len] at h1
  rw [cn_eq]; omega
theorem mx_ge {k info : List UInt8} {n : Int} {i : Nat} (h : ¬ real.pB (real.lti (real.int (real.lenB (us.mxO k info i))) (real.mini (real.maxi n (real.int 0)) (real.int 8160))) true) : cnM n ≤ i := by
  rw [nn_eq] at h
  have h1 := ge_g (j := (u_mxO k info i).length) (n := nN n) h
  rw [mxO_len] at h1
  rw [cn_eq]; omega
theorem cutk {k : List UInt8} (h : k.length = 32) : real.cutB k 0 32 = k := cut32s k h
theorem byte_of (j : Nat) : real.ofI8 (real.int j) = UInt8.ofNat j := by
  show UInt8.ofNat ((j : Int) % 2 ^ 8).toNat = _
  apply UInt8.toNat_inj.1
  rw [UInt8.toNat_ofNat', UInt8.toNat_ofNat']
  omega
theorem mx_first {k info : List UInt8} (hk : k.length = 32) : us.mac (real.cutB k 0 32) (real.appB (real.appB [] info) [real.ofI8 (real.int 1)]) = us.mxL k info 1 := by
  rw [cutk hk]
  have e : real.ofI8 (real.int 1) = UInt8.ofNat 1 := byte_of 1
  rw [e]; rfl
theorem mx_next {k info : List UInt8} (hk : k.length = 32) (j : Nat) : us.mac (real.cutB k 0 32) (real.appB (real.appB (real.cutB (us.mxL k info (j + 1)) 0 32) info) [real.ofI8 (real.int (j + 2))]) = us.mxL k info (j + 2) := by
  rw [cutk hk, cut32s (us.mxL k info (j + 1)) (mxL_len k info j), byte_of]
  rfl
theorem mx_out (k info : List UInt8) (i : Nat) : real.appB (us.mxO k info i) (real.cutB (us.mxL k info (i + 1)) 0 32) = us.mxO k info (i + 1) := by
  rw [cut32s (us.mxL k info (i + 1)) (mxL_len k info i)]
  rfl
theorem mx_out1 {k info : List UInt8} (hk : k.length = 32) : real.appB (us.mxO k info 0) (real.cutB (us.mac (real.cutB k 0 32) (real.appB (real.appB [] info) [real.ofI8 (real.int 1)])) 0 32) = us.mxO k info 1 := by
  rw [mx_first hk]
  exact mx_out k info 0
theorem mx_out2 {k info : List UInt8} (hk : k.length = 32) (j : Nat) : real.appB (us.mxO k info (j + 1)) (real.cutB (us.mac (real.cutB k 0 32) (real.appB (real.appB (real.cutB (us.mxL k info (j + 1)) 0 32) info) [real.ofI8 (real.int (j + 2))])) 0 32) = us.mxO k info (j + 2) := by
  rw [mx_next hk j]
  exact mx_out k info (j + 1)
theorem mxO_zero (k info : List UInt8) : us.mxO k info 0 = [] := rfl
theorem l32m (x y : List UInt8) : real.pLe (real.addn 0 32) (real.lenB (us.mac x y)) := by
  show 0 + 32 ≤ (u_mac x y).length
  rw [mac_len]; omega
theorem l32x (k info : List UInt8) (j : Nat) : real.pLe (real.addn 0 32) (real.lenB (us.mxL k info (j + 1))) := by
  show 0 + 32 ≤ (u_mxL k info (j + 1)).length
  rw [mxL_len]; omega
attribute [local irreducible] u_mac u_mxL u_mxO u_chN nN
theorem r_mac_Extract : Ready Try.prog 64 := by unfold Ready; kernel_rfl
noncomputable def sp_mac_Extract (F : Fs) (U : Us) : Specs := [(60, s_mac_Mac F U)]
theorem ok_mac_Extract : SpecsOK Try.prog (sp_mac_Extract real us) := sp_cons r_mac_Mac k_mac_Mac sp_nil
noncomputable def g_mac_Extract (F : Fs) (U : Us) : Law
  | [.rb 1 (.bt k), .rb 1 (.bt m)] => some (F.pLe (F.lenB k) 800000 ∧ F.pLe (F.lenB m) 800000, [.val (.ag 32 (.bt (U.mac k m)))])
  | _ => none
noncomputable def s_mac_Extract (F : Fs) (U : Us) : Vc.Spec := pureSpec F false [.row .kB, .row .kB] (g_mac_Extract F U)
noncomputable def x_mac_Extract (F : Fs) (U : Us) : Cx := ⟨Try.f64.ntmps, tt F, sp_mac_Extract F U, [], [], [], []⟩
theorem c_mac_Extract (k m : List UInt8) (hc : real.pLe (real.lenB k) 800000 ∧ real.pLe (real.lenB m) 800000) : vc real (x_mac_Extract real us) [] [] (Try.f64.body.getD .skip) ⟨zipSl 0 [.rb 1 (.bt k), .rb 1 (.bt m)], [], 64⟩ (retOk real (tt real) false Try.f64.results.toList [.val (.ag 32 (.bt (us.mac k m)))]) := by
  generalize hU : us = U
  generalize hF : real = F
  have hk : k.length ≤ 800000 := hc.1
  have hm : m.length ≤ 800000 := hc.2
  cbv
  repeat' first | apply And.intro | refine Classical.or_iff_not_imp_left.2 (fun _ => ?_) | exact trivial
  all_goals try (subst hF hU; simp only [real, us, Nat.le_eq, Int.cast_ofNat_Int, decide_eq_false_iff_not, decide_eq_true_eq, List.length_take, List.length_drop, List.length_append, List.length_replicate, List.length_set, List.length_cons, List.length_nil, List.length_zipWith] at *; (try simp (disch := omega) only [wrap_sm] at *); omega)
theorem k_mac_Extract : SpecOK Try.prog 64 (s_mac_Extract real us) := by
  refine pure_sound (x := x_mac_Extract real us) ⟨tt_ok, ok_mac_Extract, Go.Vc.ks_nil⟩ mixed Try.func64 rfl rfl (by kernel_rfl) ?_
  intro l c rs hg hc
  unfold g_mac_Extract at hg
  split at hg
  · cases hg; exact ⟨Nat.le_of_ble_eq_true rfl, [], [], c_mac_Extract _ _ hc⟩
  · cases hg

theorem r_mac_Expand_b : Ready Try.prog 61 := by unfold Ready; kernel_rfl
noncomputable def sp_mac_Expand_b (F : Fs) (U : Us) : Specs := [(60, s_mac_Mac F U)]
theorem ok_mac_Expand_b : SpecsOK Try.prog (sp_mac_Expand_b real us) := sp_cons r_mac_Mac k_mac_Mac sp_nil
noncomputable def an_mac_Expand_b (F : Fs) (U : Us) (k info : List UInt8) (n : Int) : Anns := [(4, ⟨Nat, fun i => F.pLe i (U.chN (F.repB (F.nat (F.mini (F.maxi n (F.int 0)) (F.int 8160))))), fun i => F.subn (U.chN (F.repB (F.nat (F.mini (F.maxi n (F.int 0)) (F.int 8160))))) i, fun i => match i with
  | 0 => ⟨[(1, .rb 1 (.bt info)), (2, .i (F.mini (F.maxi n (F.int 0)) (F.int 8160))), (3, .p 0 0 0), (7, .rw 1), (8, .nl), (9, .i (F.int 1))], [(3, 0, .bk 24 [(32, .bt k)]), (7, 1, .row 5 1 (.bt (U.mxO k info 0)))]⟩
  | Nat.succ j => ⟨[(1, .rb 1 (.bt info)), (2, .i (F.mini (F.maxi n (F.int 0)) (F.int 8160))), (3, .p 0 0 0), (7, .rw 1), (8, .sl 2 0 0 1 0 32), (9, .i (F.int (Nat.succ (Nat.succ j))))], [(3, 0, .bk 24 [(32, .bt k)]), (7, 1, .row 5 1 (.bt (U.mxO k info (Nat.succ j)))), (8, 2, .bk 23 [(32, .bt (U.mxL k info (Nat.succ j)))])]⟩⟩)]
noncomputable def g_mac_Expand_b (F : Fs) (U : Us) : GLaw := fun l mm => match l, mm with
  | [.ag 32 (.bt k), .rb 1 (.bt info), .i n], [] => some ⟨F.pLe (F.lenB info) 100000 ∧ U.isL k 32, [.sl 0 0 0 1 0 (F.nat (F.mini (F.maxi n (F.int 0)) (F.int 8160)))], [], [.row 5 1 (.bt (U.mxO k info (U.chN (F.repB (F.nat (F.mini (F.maxi n (F.int 0)) (F.int 8160)))))))]⟩
  | _, _ => none
noncomputable def s_mac_Expand_b (F : Fs) (U : Us) : Vc.Spec := gSpec 0 1 (g_mac_Expand_b F U)
noncomputable def x_mac_Expand_b (F : Fs) (U : Us) : Cx := ⟨Try.f61.ntmps, tt F, sp_mac_Expand_b F U, [], [], [], []⟩
theorem c_mac_Expand_b (k info : List UInt8) (n : Int) (hc : real.pLe (real.lenB info) 100000 ∧ us.isL k 32) : vc real (x_mac_Expand_b real us) (an_mac_Expand_b real us k info n) [] (Try.f61.body.getD .skip) ⟨zipSl 0 [.ag 32 (.bt k), .rb 1 (.bt info), .i n], zipMe 0 [], 64⟩ (retGOk real (tt real) Try.f61.results.toList [.sl 0 0 0 1 0 (real.nat (real.mini (real.maxi n (real.int 0)) (real.int 8160)))] [] [.row 5 1 (.bt (us.mxO k info (us.chN (real.repB (real.nat (real.mini (real.maxi n (real.int 0)) (real.int 8160)))))))]) := by
  generalize hU : us = U
  generalize hF : real = F
  have hi : info.length ≤ 100000 := hc.1
  have hk : k.length = 32 := by subst hU; exact hc.2
  cbv
  repeat' first | apply And.intro | refine Classical.or_iff_not_imp_left.2 (fun _ => ?_) | exact trivial
  all_goals try (subst hF hU; simp only [real, us, Nat.le_eq, Int.cast_ofNat_Int, decide_eq_false_iff_not, decide_eq_true_eq, List.length_take, List.length_drop, List.length_append, List.length_replicate, List.length_set, List.length_cons, List.length_nil, List.length_zipWith] at *; (try simp (disch := omega) only [wrap_sm] at *); omega)
  · refine ⟨(0 : Nat), ?_⟩
    cbv; subst hF hU
    exact ⟨Nat.zero_le _, mxO_zero k info, trivial⟩
  · intro (i : Nat) hi2
    have h1 : i ≤ cnM n := by subst hF hU; exact hi2
    have h2 := cn_le n
    clear hi2
    cases i with
    | zero =>
      cbv
      repeat' first | apply And.intro | refine Classical.or_iff_not_imp_left.2 (fun _ => ?_) | exact trivial
      all_goals try (subst hF hU; simp only [real, us, Nat.le_eq, Int.cast_ofNat_Int, decide_eq_false_iff_not, decide_eq_true_eq, List.length_take, List.length_drop, List.length_append, List.length_replicate, List.length_set, List.length_cons, List.length_nil, List.length_zipWith] at *; (try simp (disch := omega) only [wrap_sm] at *); omega)
      · subst hF hU; exact l32m _ _
      · rename_i g1
        refine ⟨(1 : Nat), ?_⟩
        cbv; subst hF hU
        have hlt := mx_lt g1
        exact ⟨hlt, sub_stepN (n := cnM n) (j := 0) hlt, ⟨addi1 (i := 1) (by omega), trivial⟩, mx_out1 hk, ⟨mx_first hk, trivial⟩, trivial⟩
      · rename_i g1; subst hF hU
        have hge := mx_ge g1
        exact congrArg (us.mxO k info) (Nat.le_antisymm h1 hge)
    | succ j =>
      cbv
      repeat' first | apply And.intro | refine Classical.or_iff_not_imp_left.2 (fun _ => ?_) | exact trivial
      all_goals try (subst hF hU; simp only [real, us, Nat.le_eq, Int.cast_ofNat_Int, decide_eq_false_iff_not, decide_eq_true_eq, List.length_take, List.length_drop, List.length_append, List.length_replicate, List.length_set, List.length_cons, List.length_nil, List.length_zipWith] at *; (try simp (disch := omega) only [wrap_sm] at *); omega)
      · subst hF hU; exact l32x k info j
      · subst hF hU; exact l32m _ _
      · rename_i g1
        refine ⟨(j + 2 : Nat), ?_⟩
        cbv; subst hF hU
        have hlt := mx_lt g1
        exact ⟨hlt, sub_stepN (n := cnM n) (j := j + 1) hlt, ⟨addi1 (i := j + 2) (by omega), trivial⟩, mx_out2 hk j, ⟨mx_next hk j, trivial⟩, trivial⟩
      · rename_i g1; subst hF hU
        have hge := mx_ge g1
        exact congrArg (us.mxO k info) (Nat.le_antisymm h1 hge)
theorem k_mac_Expand_b : SpecOK Try.prog 61 (s_mac_Expand_b real us) := by
  refine g_sound (n := 0) (q := 1) (x := x_mac_Expand_b real us) ⟨tt_ok, ok_mac_Expand_b, Go.Vc.ks_nil⟩ mixed Try.func61 rfl rfl (by kernel_rfl) (by decide) (fun j hj => by omega) ?_
  intro l mm c rs ch news hg hl hc
  unfold g_mac_Expand_b at hg
  split at hg
  · cases hg
    exact ⟨Nat.le_of_ble_eq_true rfl, an_mac_Expand_b real us _ _ _, [], c_mac_Expand_b _ _ _ hc⟩
  · cases hg

noncomputable def s_mac_Expand (F : Fs) (U : Us) : Vc.Spec := rbSpec F [.keep, .row (.kB), .keep] (s_mac_Expand_b F U)
theorem r_mac_Expand : Ready Try.prog 61 := by unfold Ready; kernel_rfl
theorem k_mac_Expand : SpecOK Try.prog 61 (s_mac_Expand real us) := rb_ok k_mac_Expand_b
end Go.Proofs.Ytmldccfchnlpgaa
set_option linter.unusedVariables false
set_option linter.unusedSimpArgs false
set_option maxRecDepth 100000
set_option maxHeartbeats 1000000
namespace Go.Proofs.Ytmldccfchnlpgaa
open Go Go.Vc
theorem mxO_ext (k info : List UInt8) (i : Nat) : ∀ m, ∃ T, u_mxO k info (i + m) = u_mxO k info i ++ T
  | 0 => ⟨[], by simp⟩
  | m + 1 => by
    obtain ⟨T, h⟩ := mxO_ext k info i m
    refine ⟨T ++ u_mxL k info (i + m + 1), ?_⟩
    rw [← Nat.add_assoc, u_mxO, h, List.append_assoc]
theorem mx_cut (k info : List UInt8) (n : Int) : real.cutB (us.mxO k info (cnM n)) 0 (real.nat (real.mini (real.maxi n (real.int 0)) (real.int 8160))) = us.mx k info n := by
  have h1 := cn_le n
  have h2 : nN n ≤ 32 * cnM n := by rw [cn_eq]; omega
  obtain ⟨T, hT⟩ := mxO_ext k info (cnM n) (255 - cnM n)
  rw [show cnM n + (255 - cnM n) = 255 by omega] at hT
  rw [nn_eq]
  show ((u_mxO k info (cnM n)).drop 0).take (nN n) = (u_mxO k info 255).take (nN n)
  rw [List.drop_zero, hT, List.take_append_of_le_length (by rw [mxO_len]; exact h2)]
theorem mx_len (k info : List UInt8) (n : Int) : (us.mx k info n).length = nN n := by
  have h := nN_le n
  show ((u_mxO k info 255).take (nN n)).length = nN n
  rw [List.length_take, mxO_len]; omega
theorem copy32 (x : List UInt8) (h : x.length = 32) : real.splB (real.repB 32) 0 (real.cutB x 0 (real.minn (real.lenB x) 32)) = x := by
  have e : real.cutB x 0 (real.minn (real.lenB x) 32) = x := by
    show (x.drop 0).take (min x.length 32) = x
    rw [List.drop_zero, List.take_of_length_le (by omega)]
  rw [e]
  show (List.replicate 32 (0 : UInt8)).take 0 ++ x ++ (List.replicate 32 (0 : UInt8)).drop (0 + x.length) = x
  rw [h, List.take_zero, List.nil_append, List.drop_of_length_le (by rw [List.length_replicate]; omega), List.append_nil]
theorem put_label (label : List UInt8) (n : UInt32) : real.appB label (us.put (real.ofI64 (real.toI32 n)) (real.int 4)) = label ++ putK (UInt64.ofNat n.toNat) 4 := by
  have hn := n.toNat_lt
  have e : real.ofI64 (real.toI32 n) = UInt64.ofNat n.toNat := by
    show UInt64.ofNat ((n.toNat : Int) % 2 ^ 64).toNat = _
    congr 1
    omega
  rw [e]; rfl
theorem put_fit {label : List UInt8} (h : label.length ≤ 90000) (n : UInt32) : real.pLe (real.lenB (real.appB label (us.put (real.ofI64 (real.toI32 n)) (real.int 4)))) 100000 := by
  rw [put_label]
  show (label ++ putK _ 4).length ≤ 100000
  rw [List.length_append, putK_len]; omega
theorem sl_fit (k info : List UInt8) (n : Int) : real.pLe (real.addn 0 (real.nat (real.mini (real.maxi n (real.int 0)) (real.int 8160)))) (real.lenB (us.mxO k info (cnM n))) := by
  have h2 : nN n ≤ 32 * cnM n := by rw [cn_eq]; omega
  rw [nn_eq]
  show 0 + nN n ≤ (u_mxO k info (cnM n)).length
  rw [mxO_len]; omega
theorem dv_eq (k label : List UInt8) (n : UInt32) : real.splB (real.repB 32) 0 (real.cutB (real.cutB (us.mxO k (real.appB label (us.put (real.ofI64 (real.toI32 n)) (real.int 4))) (cnM (real.int 32))) 0 (real.nat (real.mini (real.maxi (real.int 32) (real.int 0)) (real.int 8160)))) 0 (real.minn (real.lenB (real.cutB (us.mxO k (real.appB label (us.put (real.ofI64 (real.toI32 n)) (real.int 4))) (cnM (real.int 32))) 0 (real.nat (real.mini (real.maxi (real.int 32) (real.int 0)) (real.int 8160))))) 32)) = us.mdv k label n := by
  rw [mx_cut, put_label, copy32 _ (mx_len _ _ _)]
  rfl
attribute [local irreducible] u_mac u_mxL u_mxO u_chN u_mx
theorem r_mac_Derive : Ready Try.prog 62 := by unfold Ready; kernel_rfl
noncomputable def sp_mac_Derive (F : Fs) (U : Us) : Specs := [(106, s_bits_Put F U), (61, s_mac_Expand F U)]
theorem ok_mac_Derive : SpecsOK Try.prog (sp_mac_Derive real us) := sp_cons r_bits_Put k_bits_Put (sp_cons r_mac_Expand k_mac_Expand sp_nil)
noncomputable def g_mac_Derive (F : Fs) (U : Us) : Law
  | [.ag 32 (.bt k), .s label, .w32 n] => some (F.pLe (F.lenB label) 90000 ∧ U.isL k 32, [.val (.ag 32 (.bt (U.mdv k label n)))])
  | _ => none
noncomputable def s_mac_Derive (F : Fs) (U : Us) : Vc.Spec := pureSpec F false [.keep, .keep, .keep] (g_mac_Derive F U)
noncomputable def x_mac_Derive (F : Fs) (U : Us) : Cx := ⟨Try.f62.ntmps, tt F, sp_mac_Derive F U, [], [(2, ([(0, [3]), (1, [0, 3]), (3, [0, 1]), (5, [0, 1, 3]), (6, [0, 1]), (7, [0])], [(6, [3])]))], [], []⟩
theorem c_mac_Derive (k label : List UInt8) (n : UInt32) (hc : real.pLe (real.lenB label) 90000 ∧ us.isL k 32) : vc real (x_mac_Derive real us) [] [] (Try.f62.body.getD .skip) ⟨zipSl 0 [.ag 32 (.bt k), .s label, .w32 n], [], 64⟩ (retOk real (tt real) false Try.f62.results.toList [.val (.ag 32 (.bt (us.mdv k label n)))]) := by
  generalize hU : us = U
  generalize hF : real = F
  have hl : label.length ≤ 90000 := hc.1
  have hk : k.length = 32 := by subst hU; exact hc.2
  cbv
  repeat' first | apply And.intro | refine Classical.or_iff_not_imp_left.2 (fun _ => ?_) | exact trivial
  all_goals try (subst hF hU; simp only [real, us, Nat.le_eq, Int.cast_ofNat_Int, decide_eq_false_iff_not, decide_eq_true_eq, List.length_take, List.length_drop, List.length_append, List.length_replicate, List.length_set, List.length_cons, List.length_nil, List.length_zipWith] at *; (try simp (disch := omega) only [wrap_sm] at *); omega)
  · subst hF hU; exact put_fit hl n
  · subst hU; exact hk
  · subst hF hU; exact sl_fit k (real.appB label (us.put (real.ofI64 (real.toI32 n)) (real.int 4))) (real.int 32)
  · subst hF hU; exact dv_eq k label n
theorem k_mac_Derive : SpecOK Try.prog 62 (s_mac_Derive real us) := by
  refine pure_sound (x := x_mac_Derive real us) ⟨tt_ok, ok_mac_Derive, Go.Vc.ks_nil⟩ mixed Try.func62 rfl rfl (by kernel_rfl) ?_
  intro l c rs hg hc
  unfold g_mac_Derive at hg
  split at hg
  · cases hg; exact ⟨Nat.le_of_ble_eq_true rfl, [], [], c_mac_Derive _ _ _ hc⟩
  · cases hg

end Go.Proofs.Ytmldccfchnlpgaa
set_option linter.unusedVariables false
set_option linter.unusedSimpArgs false
set_option maxRecDepth 100000
set_option maxHeartbeats 1000000
namespace Go.Proofs.Ytmldccfchnlpgaa
open Go Go.Vc
theorem jefe : real.eqB (us.hex (us.mac [real.ofI8 (real.int 74), real.ofI8 (real.int 101), real.ofI8 (real.int 102), real.ofI8 (real.int 101)] [real.ofI8 (real.int 119), real.ofI8 (real.int 104), real.ofI8 (real.int 97), real.ofI8 (real.int 116), real.ofI8 (real.int 32), real.ofI8 (real.int 100), real.ofI8 (real.int 111), real.ofI8 (real.int 32), real.ofI8 (real.int 121), real.ofI8 (real.int 97), real.ofI8 (real.int 32), real.ofI8 (real.int 119), real.ofI8 (real.int 97), real.ofI8 (real.int 110), real.ofI8 (real.int 116), real.ofI8 (real.int 32), real.ofI8 (real.int 102), real.ofI8 (real.int 111), real.ofI8 (real.int 114), real.ofI8 (real.int 32), real.ofI8 (real.int 110), real.ofI8 (real.int 111), real.ofI8 (real.int 116), real.ofI8 (real.int 104), real.ofI8 (real.int 105), real.ofI8 (real.int 110), real.ofI8 (real.int 103), real.ofI8 (real.int 63)])) (real.ofS ⟨⟨[53, 98, 100, 99, 99, 49, 52, 54, 98, 102, 54, 48, 55, 53, 52, 101, 54, 97, 48, 52, 50, 52, 50, 54, 48, 56, 57, 53, 55, 53, 99, 55, 53, 97, 48, 48, 51, 102, 48, 56, 57, 100, 50, 55, 51, 57, 56, 51, 57, 100, 101, 99, 53, 56, 98, 57, 54, 52, 101, 99, 51, 56, 52, 51]⟩⟩) = true := by decide +kernel
theorem dv01 : (u_mxL (List.replicate 32 0) ([97] ++ putK (UInt64.ofNat 0) 4) 1 == u_mxL (List.replicate 32 0) ([97] ++ putK (UInt64.ofNat 1) 4) 1) = false := by decide +kernel
attribute [local irreducible] u_mac u_mxL u_mxO in
theorem mx_32 (k info : List UInt8) : us.mx k info 32 = u_mxL k info 1 := by
  obtain ⟨T, hT⟩ := mxO_ext k info 1 254
  have e9 : (min (max (32 : Int) 0) 8160).toNat = 32 := by decide
  have e0 : us.mx k info 32 = (u_mxO k info (1 + 254)).take (min (max (32 : Int) 0) 8160).toNat := rfl
  have e : u_mxO k info 1 = u_mxL k info 1 := by rw [u_mxO, u_mxO, List.nil_append]
  rw [e0, e9, hT, e, List.take_append_of_le_length (by rw [mxL_len]; omega), List.take_of_length_le (by rw [mxL_len]; omega)]
theorem dv_ne : (us.mdv (List.replicate 32 0) [97] 0 == us.mdv (List.replicate 32 0) [97] 1) = false := by
  have e : ∀ n : UInt32, us.mdv (List.replicate 32 0) [97] n = u_mxL (List.replicate 32 0) ([97] ++ putK (UInt64.ofNat n.toNat) 4) 1 := fun n => mx_32 _ _
  rw [e 0, e 1]
  exact dv01
theorem dv_neR : real.notb (real.eqB (us.mdv (real.repB 32) (real.ofS ⟨⟨[97]⟩⟩) (real.ofI32 (real.int 0))) (us.mdv (real.repB 32) (real.ofS ⟨⟨[97]⟩⟩) (real.ofI32 (real.int 1)))) = true := by
  have e0 : real.ofI32 (real.int 0) = 0 := rfl
  have e1 : real.ofI32 (real.int 1) = 1 := rfl
  have e2 : real.ofS ⟨⟨[97]⟩⟩ = [97] := rfl
  have e3 : real.repB 32 = List.replicate 32 0 := rfl
  rw [e0, e1, e2, e3]
  have h : real.eqB (us.mdv (List.replicate 32 0) [97] 0) (us.mdv (List.replicate 32 0) [97] 1) = false := dv_ne
  rw [h]; rfl
attribute [local irreducible] u_mac u_mxL u_mxO u_chN u_mx u_mdv u_hex
theorem r_law3_known : Ready Try.prog 59 := by unfold Ready; kernel_rfl
noncomputable def sp_law3_known (F : Fs) (U : Us) : Specs := [(60, s_mac_Mac F U), (42, s_sha_Hex F U), (61, s_mac_Expand F U), (63, s_mac_Equal F U), (62, s_mac_Derive F U)]
theorem ok_law3_known : SpecsOK Try.prog (sp_law3_known real us) := sp_cons r_mac_Mac k_mac_Mac (sp_cons r_sha_Hex k_sha_Hex (sp_cons r_mac_Expand k_mac_Expand (sp_cons r_mac_Equal k_mac_Equal (sp_cons r_mac_Derive k_mac_Derive sp_nil))))
noncomputable def g_law3_known (F : Fs) (U : Us) : Law
  | [] => some (True, [.val (.kb true)])
  | _ => none
noncomputable def s_law3_known (F : Fs) (U : Us) : Vc.Spec := pureSpec F false [] (g_law3_known F U)
noncomputable def x_law3_known (F : Fs) (U : Us) : Cx := ⟨Try.f59.ntmps, tt F, sp_law3_known F U, [], [], [], [2]⟩
theorem c_law3_known  : vc real (x_law3_known real us) [] [] (Try.f59.body.getD .skip) ⟨zipSl 0 [], [], 64⟩ (retOk real (tt real) false Try.f59.results.toList [.val (.kb true)]) := by
  generalize hU : us = U
  generalize hF : real = F
  cbv
  repeat' first | apply And.intro | refine Classical.or_iff_not_imp_left.2 (fun _ => ?_) | exact trivial
  all_goals try (subst hF hU; simp only [real, us, Nat.le_eq, Int.cast_ofNat_Int, decide_eq_false_iff_not, decide_eq_true_eq, List.length_take, List.length_drop, List.length_append, List.length_replicate, List.length_set, List.length_cons, List.length_nil, List.length_zipWith] at *; (try simp (disch := omega) only [wrap_sm] at *); omega)
  all_goals subst hF hU
  · exact mac_len _ _
  · exact jefe
  · exact List.length_replicate ..
  · rfl
  · rfl
  · rfl
  · exact List.length_replicate ..
  · exact List.length_replicate ..
  · exact dv_neR
theorem k_law3_known : SpecOK Try.prog 59 (s_law3_known real us) := by
  refine pure_sound (x := x_law3_known real us) ⟨tt_ok, ok_law3_known, Go.Vc.ks_nil⟩ mixed Try.func59 rfl rfl (by kernel_rfl) ?_
  intro l c rs hg hc
  unfold g_law3_known at hg
  split at hg
  · cases hg; exact ⟨Nat.le_of_ble_eq_true rfl, [], [], c_law3_known ⟩
  · cases hg

end Go.Proofs.Ytmldccfchnlpgaa
set_option linter.unusedVariables false
set_option linter.unusedSimpArgs false
set_option maxRecDepth 100000
set_option maxHeartbeats 1000000
namespace Go.Proofs.Ytmldccfchnlpgaa
open Go Go.Vc
/-! ## Bytes copied one by one into an array of noughts -/
theorem cp_val (n i : Nat) (X : List UInt8) (h : i ≤ X.length) : real.splB (real.repB n) 0 (real.cutB X 0 i) = X.take i ++ List.replicate (n - i) 0 := by
  show (List.replicate n (0 : UInt8)).take 0 ++ (X.drop 0).take i ++ (List.replicate n (0 : UInt8)).drop (0 + ((X.drop 0).take i).length) = _
  rw [List.drop_zero, List.take_zero, List.nil_append, List.drop_replicate, List.length_take, Nat.zero_add, Nat.min_eq_left h]
theorem cp_zero (n : Nat) (X : List UInt8) : real.repB n = real.splB (real.repB n) 0 (real.cutB X 0 0) := by
  rw [cp_val n 0 X (Nat.zero_le _)]
  rfl
theorem cp_len (n i : Nat) (X : List UInt8) (h : i ≤ X.length) (hn : i ≤ n) : (real.splB (real.repB n) 0 (real.cutB X 0 i)).length = n := by
  rw [cp_val n i X h, List.length_append, List.length_take, List.length_replicate]; omega
theorem cp_step (n i : Nat) (X : List UInt8) (h : i < X.length) (hn : i < n) : real.setB (real.splB (real.repB n) 0 (real.cutB X 0 i)) i (real.getB X i) = real.splB (real.repB n) 0 (real.cutB X 0 (i + 1)) := by
  rw [cp_val n i X (by omega), cp_val n (i + 1) X h]
  show (X.take i ++ List.replicate (n - i) 0).set i (X.getD i 0) = _
  rw [List.set_append_right _ _ (by rw [List.length_take]; omega), List.length_take, Nat.min_eq_left (by omega), Nat.sub_self, show n - i = (n - (i + 1)) + 1 by omega, List.replicate_succ, List.set_cons_zero, List.take_succ_eq_append_getElem h, List.append_assoc]
  rw [List.getD_eq_getElem?_getD, List.getElem?_eq_getElem h]
  rfl
theorem cp_end (n : Nat) (X : List UInt8) (h : n ≤ X.length) : real.splB (real.repB n) 0 (real.cutB X 0 n) = X.take n := by
  rw [cp_val n n X h, Nat.sub_self, List.replicate_zero, List.append_nil]
theorem cp_full (n : Nat) (X : List UInt8) (h : X.length = n) : real.splB (real.repB n) 0 (real.cutB X 0 n) = X := by
  rw [cp_end n X (by omega), List.take_of_length_le (by omega)]
/-- one 'copy' of as much as there is -/
theorem copyN (n : Nat) (X : List UInt8) (h : X.length = n) : real.splB (real.repB n) 0 (real.cutB X 0 (real.minn (real.lenB X) n)) = X := by
  have e : real.minn (real.lenB X) n = n := by show min X.length n = n; omega
  rw [e, cp_full n X h]
theorem copyG (n : Nat) (X : List UInt8) (h : n ≤ X.length) : real.splB (real.repB n) 0 (real.cutB X 0 (real.minn (real.lenB X) n)) = X.take n := by
  have e : real.minn (real.lenB X) n = n := by show min X.length n = n; omega
  rw [e, cp_end n X h]
theorem cutAll (X : List UInt8) (n : Nat) (h : X.length = n) : real.cutB X 0 n = X := by
  show (X.drop 0).take n = X
  rw [List.drop_zero, List.take_of_length_le (by omega)]
end Go.Proofs.Ytmldccfchnlpgaa
set_option linter.unusedVariables false
set_option linter.unusedSimpArgs false
set_option maxRecDepth 100000
set_option maxHeartbeats 1000000
namespace Go.Proofs.Ytmldccfchnlpgaa
open Go Go.Vc
/-! ## Sealed bytes, in plain words -/
theorem sx_tw (k n : List UInt8) (c : UInt32) (m : List UInt8) : u_sx k n c (u_sx k n c m) = m := by
  have h := sx_len k n c m
  have e : u_sx k n c (u_sx k n c m) = List.zipWith (· ^^^ ·) (u_sx k n c m) (u_ks k n c m.length) := by
    show List.zipWith _ _ (u_ks k n c (u_sx k n c m).length) = _
    rw [h]
  rw [e]
  show List.zipWith (· ^^^ ·) (List.zipWith (· ^^^ ·) m (u_ks k n c m.length)) (u_ks k n c m.length) = m
  rw [xor_twice, ks_len]
  simp
theorem mdvLen (k info : List UInt8) (x : UInt32) : (us.mdv k info x).length = 32 := by
  have e : us.mdv k info x = us.mx k (info ++ putK (UInt64.ofNat x.toNat) 4) 32 := rfl
  rw [e, mx_len]
  decide
theorem nonce_len (p : UInt32) (g : UInt64) : (u_nonce p g).length = 12 := by
  unfold u_nonce
  rw [List.length_append, putK_len, putK_len]
theorem tag_len (k n aad c : List UInt8) : (u_tag k n aad c).length = 16 := by
  unfold u_tag
  rw [List.length_take, mac_len]; omega
theorem enc_len (k n p : List UInt8) : (u_enc k n p).length = p.length := sx_len _ _ _ _
theorem enc_enc (k n p : List UInt8) : u_enc k n (u_enc k n p) = p := sx_tw _ _ _ _
theorem seal_len (k n aad p : List UInt8) : (u_seal k n aad p).length = p.length + 16 := by
  unfold u_seal
  rw [List.length_append, enc_len, tag_len]
attribute [local irreducible] u_enc u_tag
theorem opE_split (k n aad x y : List UInt8) (h : y.length = 16) : u_opE k n aad (x ++ y) = if y = u_tag k n aad x then 0 else 50 := by
  unfold u_opE
  have hl : (x ++ y).length - 16 = x.length := by rw [List.length_append]; omega
  rw [if_neg (by rw [List.length_append]; omega), hl, List.drop_left, List.take_left]
theorem opB_split (k n aad x y : List UInt8) (h : y.length = 16) : u_opB k n aad (x ++ y) = if y = u_tag k n aad x then u_enc k n x else [] := by
  unfold u_opB
  have hl : (x ++ y).length - 16 = x.length := by rw [List.length_append]; omega
  rw [opE_split k n aad x y h, hl, List.take_left]
  by_cases e : y = u_tag k n aad x
  · rw [if_pos e, if_pos e, if_pos rfl]
  · rw [if_neg e, if_neg e, if_neg (by decide)]
theorem opE_seal (k n aad p : List UInt8) : u_opE k n aad (u_seal k n aad p) = 0 := by
  unfold u_seal
  rw [opE_split _ _ _ _ _ (tag_len _ _ _ _), if_pos rfl]
theorem opB_seal (k n aad p : List UInt8) : u_opB k n aad (u_seal k n aad p) = p := by
  unfold u_seal
  rw [opB_split _ _ _ _ _ (tag_len _ _ _ _), if_pos rfl, enc_enc]
theorem opE_short (k n aad b : List UInt8) : u_opE k n aad b = 10 ↔ b.length < 16 := by
  unfold u_opE
  constructor
  · intro h
    split at h
    · assumption
    · split at h <;> simp at h
  · intro h
    rw [if_pos h]
theorem opE_is (k n aad b : List UInt8) : u_opE k n aad b = 0 ∨ u_opE k n aad b = 10 ∨ u_opE k n aad b = 50 := by
  unfold u_opE
  split
  · simp
  · split <;> simp
theorem opE_ok {k n aad b : List UInt8} (h : u_opE k n aad b = 0) : 16 ≤ b.length ∧ b.drop (b.length - 16) = u_tag k n aad (b.take (b.length - 16)) := by
  unfold u_opE at h
  split at h
  · simp at h
  · split at h
    · rename_i h1 h2; exact ⟨by omega, h2⟩
    · simp at h
theorem opB_ok {k n aad b : List UInt8} (h : u_opE k n aad b = 0) : u_opB k n aad b = u_enc k n (b.take (b.length - 16)) := by
  unfold u_opB
  rw [if_pos h]
theorem seal_open {k n aad b : List UInt8} (h : u_opE k n aad b = 0) : u_seal k n aad (u_opB k n aad b) = b := by
  obtain ⟨h1, h2⟩ := opE_ok h
  rw [opB_ok h]
  unfold u_seal
  rw [enc_enc, ← h2, List.take_append_drop]
theorem opB_len (k n aad b : List UInt8) : (u_opB k n aad b).length ≤ b.length := by
  unfold u_opB
  split
  · rw [enc_len, List.length_take]; omega
  · exact Nat.zero_le _
theorem wrp_len (k : List UInt8) (s : UInt32) (g : UInt64) (key : List UInt8) (h : key.length = 32) : (u_wrp k s g key).length = 48 := by
  unfold u_wrp
  rw [seal_len, h]
theorem uwK_len (k : List UInt8) (s : UInt32) (g : UInt64) (w : List UInt8) (h : w.length = 48) : (u_uwK k s g w).length = 32 := by
  unfold u_uwK u_uwE
  split
  · rename_i e
    rw [opB_ok e, enc_len, List.length_take]; omega
  · exact List.length_replicate ..
theorem uw_wrp (k : List UInt8) (s : UInt32) (g : UInt64) (key : List UInt8) : u_uwE k s g (u_wrp k s g key) = 0 ∧ u_uwK k s g (u_wrp k s g key) = key := by
  have h : u_uwE k s g (u_wrp k s g key) = 0 := opE_seal _ _ _ _
  refine ⟨h, ?_⟩
  unfold u_uwK
  rw [if_pos h]
  exact opB_seal _ _ _ _
/-- a tag's byte turned -/
theorem turn_eq (t : List UInt8) (i : Nat) (by_ : UInt8) (h : i < t.length) : t.set i (t.getD i 0 ^^^ by_) = t ↔ by_ = 0 := by
  have hg : t.getD i 0 = t[i] := by rw [List.getD_eq_getElem?_getD, List.getElem?_eq_getElem h]; rfl
  constructor
  · intro e
    have e2 : (t.set i (t.getD i 0 ^^^ by_))[i]? = t[i]? := by rw [e]
    rw [List.getElem?_set_self h, List.getElem?_eq_getElem h, hg] at e2
    have e3 : t[i] ^^^ by_ = t[i] := Option.some.inj e2
    have e4 : t[i] ^^^ (t[i] ^^^ by_) = t[i] ^^^ t[i] := by rw [e3]
    rw [← UInt8.xor_assoc, UInt8.xor_self, UInt8.zero_xor] at e4
    exact e4
  · intro e
    subst e
    rw [UInt8.xor_zero, hg, List.set_getElem_self]
theorem opE_turn (k n aad p : List UInt8) (i : Nat) (by_ : UInt8) (h : i < 16) : (u_opE k n aad ((u_seal k n aad p).set (p.length + i) ((u_seal k n aad p).getD (p.length + i) 0 ^^^ by_)) = 0) ↔ by_ = 0 := by
  have hl := enc_len k n p
  have ht := tag_len k n aad (u_enc k n p)
  have e : (u_seal k n aad p).set (p.length + i) ((u_seal k n aad p).getD (p.length + i) 0 ^^^ by_) = u_enc k n p ++ (u_tag k n aad (u_enc k n p)).set i ((u_tag k n aad (u_enc k n p)).getD i 0 ^^^ by_) := by
    unfold u_seal
    rw [List.getD_eq_getElem?_getD, List.getElem?_append_right (by omega), hl, Nat.add_sub_cancel_left, ← List.getD_eq_getElem?_getD, List.set_append_right _ _ (by omega), hl, Nat.add_sub_cancel_left]
  rw [e, opE_split _ _ _ _ _ (by rw [List.length_set]; exact ht)]
  have h2 := turn_eq (u_tag k n aad (u_enc k n p)) i by_ (by omega)
  by_cases c : by_ = 0
  · rw [if_pos (h2.2 c)]; simp [c]
  · rw [if_neg (fun h => c (h2.1 h))]; simp [c]
theorem enc_get (k n p q : List UInt8) (i : Nat) (h1 : i < p.length) (h2 : i < q.length) : ((u_enc k n p).getD i 0 ^^^ (u_enc k n q).getD i 0) = (p.getD i 0 ^^^ q.getD i 0) := by
  have g : ∀ (K N : List UInt8) (a : List UInt8), i < a.length → (u_sx K N 1 a).getD i 0 = a.getD i 0 ^^^ (u_block K N (1 + UInt32.ofNat (i / 64))).getD (i % 64) 0 := by
    intro K N a h
    have e : (u_ks K N 1 a.length).getD i 0 = (u_block K N (1 + UInt32.ofNat (i / 64))).getD (i % 64) 0 := by
      simp only [u_ks, List.getD_eq_getElem?_getD, List.getElem?_map, List.getElem?_range h, Option.map_some, Option.getD_some]
    rw [← e]
    exact zipWith_getD _ _ _ i 0 0 0 h (by rw [ks_len]; exact h)
  unfold u_enc
  rw [g _ _ p h1, g _ _ q h2]
  generalize (u_block _ _ _).getD (i % 64) 0 = z
  generalize p.getD i 0 = x
  generalize q.getD i 0 = y
  rw [UInt8.xor_assoc, UInt8.xor_comm z, UInt8.xor_assoc, UInt8.xor_self, UInt8.xor_zero]
end Go.Proofs.Ytmldccfchnlpgaa
set_option linter.unusedVariables false
set_option linter.unusedSimpArgs false
set_option maxRecDepth 100000
set_option maxHeartbeats 1000000
namespace Go.Proofs.Ytmldccfchnlpgaa
open Go Go.Vc
theorem u32_64 (p : UInt32) : real.ofI64 (real.toI32 p) = UInt64.ofNat p.toNat := by
  have hn := p.toNat_lt
  show UInt64.ofNat ((p.toNat : Int) % 2 ^ 64).toNat = _
  congr 1
  omega
theorem nonce_eq (p : UInt32) (g : UInt64) : real.splB (real.repB 12) 0 (real.cutB (real.appB (us.put (real.ofI64 (real.toI32 p)) (real.int 4)) (us.put g (real.int 8))) 0 (real.minn (real.lenB (real.appB (us.put (real.ofI64 (real.toI32 p)) (real.int 4)) (us.put g (real.int 8)))) 12)) = us.nonce p g := by
  have e : real.appB (us.put (real.ofI64 (real.toI32 p)) (real.int 4)) (us.put g (real.int 8)) = u_nonce p g := by
    rw [u32_64]; rfl
  rw [e, copyN 12 _ (nonce_len p g)]
  rfl
theorem r_seal_NonceOf : Ready Try.prog 69 := by unfold Ready; kernel_rfl
noncomputable def sp_seal_NonceOf (F : Fs) (U : Us) : Specs := [(106, s_bits_Put F U)]
theorem ok_seal_NonceOf : SpecsOK Try.prog (sp_seal_NonceOf real us) := sp_cons r_bits_Put k_bits_Put sp_nil
noncomputable def g_seal_NonceOf (F : Fs) (U : Us) : Law
  | [.w32 p, .w64 g] => some (True, [.val (.ag 12 (.bt (U.nonce p g)))])
  | _ => none
noncomputable def s_seal_NonceOf (F : Fs) (U : Us) : Vc.Spec := pureSpec F false [.keep, .keep] (g_seal_NonceOf F U)
noncomputable def x_seal_NonceOf (F : Fs) (U : Us) : Cx := ⟨Try.f69.ntmps, tt F, sp_seal_NonceOf F U, [], [(2, ([(0, [2, 3]), (2, [0]), (3, [0]), (5, [0])], [(3, [2]), (5, [3])]))], [], []⟩
theorem c_seal_NonceOf (p : UInt32) (g : UInt64) : vc real (x_seal_NonceOf real us) [] [] (Try.f69.body.getD .skip) ⟨zipSl 0 [.w32 p, .w64 g], [], 64⟩ (retOk real (tt real) false Try.f69.results.toList [.val (.ag 12 (.bt (us.nonce p g)))]) := by
  generalize hU : us = U
  generalize hF : real = F
  cbv
  repeat' first | apply And.intro | refine Classical.or_iff_not_imp_left.2 (fun _ => ?_) | exact trivial
  all_goals try (subst hF hU; simp only [real, us, Nat.le_eq, Int.cast_ofNat_Int, decide_eq_false_iff_not, decide_eq_true_eq, List.length_take, List.length_drop, List.length_append, List.length_replicate, List.length_set, List.length_cons, List.length_nil, List.length_zipWith] at *; (try simp (disch := omega) only [wrap_sm] at *); omega)
  · subst hF hU
    show (putK _ _).length ≤ 1000000
    rw [putK_len]; omega
  · subst hF hU; exact nonce_eq p g
theorem k_seal_NonceOf : SpecOK Try.prog 69 (s_seal_NonceOf real us) := by
  refine pure_sound (x := x_seal_NonceOf real us) ⟨tt_ok, ok_seal_NonceOf, Go.Vc.ks_nil⟩ mixed Try.func69 rfl rfl (by kernel_rfl) ?_
  intro l c rs hg hc
  unfold g_seal_NonceOf at hg
  split at hg
  · cases hg; exact ⟨Nat.le_of_ble_eq_true rfl, [], [], c_seal_NonceOf _ _⟩
  · cases hg

theorem mac32 (k m : List UInt8) : (us.mac k m).length = 32 := mac_len k m
attribute [local irreducible] u_mac u_mdv u_sx
theorem len64 {n : Nat} (h : n ≤ 100000) : real.ofI64 (real.int n) = UInt64.ofNat n := by
  show UInt64.ofNat ((n : Int) % 2 ^ 64).toNat = _
  congr 1
  omega
noncomputable abbrev tgK (k : List UInt8) : List UInt8 := real.cutB (us.mdv k (real.ofS ⟨⟨[109, 97, 99]⟩⟩) (real.ofI32 (real.int 0))) 0 32
noncomputable abbrev tg0 (aad : List UInt8) : List UInt8 := us.put (real.ofI64 (real.int (real.lenB aad))) (real.int 8)
noncomputable abbrev tgX (n aad c : List UInt8) : List UInt8 := real.appB (real.appB (real.appB (tg0 aad) aad) (real.cutB n 0 12)) c
theorem tgK_eq (k : List UInt8) : tgK k = u_mdv k [109, 97, 99] 0 := by
  unfold tgK
  exact cutAll _ 32 (mdvLen _ _ _)
theorem tg0_eq {aad : List UInt8} (h : aad.length ≤ 100000) : tg0 aad = putK (UInt64.ofNat aad.length) 8 := by
  unfold tg0
  have e : real.ofI64 (real.int (real.lenB aad)) = UInt64.ofNat aad.length := len64 h
  rw [e]; rfl
theorem tgX_eq {n aad : List UInt8} (c : List UInt8) (h : aad.length ≤ 100000) (hn : n.length = 12) : tgX n aad c = u_tagM n aad c := by
  unfold tgX
  rw [tg0_eq h, cutAll n 12 hn]
  rfl
theorem tag_eq (k : List UInt8) {n aad : List UInt8} (c : List UInt8) (h : aad.length ≤ 100000) (hn : n.length = 12) : real.splB (real.repB 16) 0 (real.cutB (real.cutB (us.mac (tgK k) (tgX n aad c)) 0 32) 0 (real.minn (real.lenB (real.cutB (us.mac (tgK k) (tgX n aad c)) 0 32)) 16)) = us.tag k n aad c := by
  have hl : (us.mac (tgK k) (tgX n aad c)).length = 32 := mac32 _ _
  rw [cutAll _ 32 hl, copyG 16 _ (by omega), tgK_eq, tgX_eq c h hn]
  rfl
theorem tg0_len (aad : List UInt8) : (tg0 aad).length = 8 := putK_len _ _
theorem tg1 {aad : List UInt8} (h : aad.length ≤ 100000) : real.pCap (real.addn (real.lenB (tg0 aad)) (real.lenB aad)) 1 := by
  have h0 := tg0_len aad
  show ((tg0 aad).length + aad.length) * 1 ≤ 140737488355328 ∧ (tg0 aad).length + aad.length ≤ 4611686018427387904
  omega
theorem tg2 {aad n : List UInt8} (h : aad.length ≤ 100000) : real.pCap (real.addn (real.lenB (real.appB (tg0 aad) aad)) (real.lenB (real.cutB n 0 12))) 1 := by
  have h0 := tg0_len aad
  show ((tg0 aad ++ aad).length + (List.take 12 (List.drop 0 n)).length) * 1 ≤ 140737488355328 ∧ (tg0 aad ++ aad).length + (List.take 12 (List.drop 0 n)).length ≤ 4611686018427387904
  rw [List.length_append, List.length_take]
  omega
theorem tg3 {aad n c : List UInt8} (h : aad.length ≤ 100000) (hc : c.length ≤ 100000) : real.pCap (real.addn (real.lenB (real.appB (real.appB (tg0 aad) aad) (real.cutB n 0 12))) (real.lenB c)) 1 := by
  have h0 := tg0_len aad
  show ((tg0 aad ++ aad ++ List.take 12 (List.drop 0 n)).length + c.length) * 1 ≤ 140737488355328 ∧ (tg0 aad ++ aad ++ List.take 12 (List.drop 0 n)).length + c.length ≤ 4611686018427387904
  rw [List.length_append, List.length_append, List.length_take]
  omega
theorem tg4 {aad n c : List UInt8} (h : aad.length ≤ 100000) (hc : c.length ≤ 100000) : real.pLe (real.lenB (tgX n aad c)) 800000 := by
  have h0 := tg0_len aad
  show (tg0 aad ++ aad ++ List.take 12 (List.drop 0 n) ++ c).length ≤ 800000
  rw [List.length_append, List.length_append, List.length_append, List.length_take]
  omega
theorem l32d (k l : List UInt8) (x : UInt32) : real.pLe (real.addn 0 32) (real.lenB (us.mdv k l x)) := by
  have e : real.lenB (us.mdv k l x) = 32 := mdvLen k l x
  rw [e]
  exact Nat.le_refl 32
theorem r_seal_TagOf : Ready Try.prog 75 := by unfold Ready; kernel_rfl
noncomputable def sp_seal_TagOf (F : Fs) (U : Us) : Specs := [(106, s_bits_Put F U), (62, s_mac_Derive F U), (60, s_mac_Mac F U)]
theorem ok_seal_TagOf : SpecsOK Try.prog (sp_seal_TagOf real us) := sp_cons r_bits_Put k_bits_Put (sp_cons r_mac_Derive k_mac_Derive (sp_cons r_mac_Mac k_mac_Mac sp_nil))
noncomputable def g_seal_TagOf (F : Fs) (U : Us) : Law
  | [.ag 32 (.bt k), .ag 12 (.bt n), .rb 1 (.bt aad), .rb 1 (.bt c)] => some ((U.isL k 32 ∧ U.isL n 12) ∧ F.pLe (F.lenB aad) 100000 ∧ F.pLe (F.lenB c) 100000, [.val (.ag 16 (.bt (U.tag k n aad c)))])
  | _ => none
noncomputable def s_seal_TagOf (F : Fs) (U : Us) : Vc.Spec := pureSpec F false [.keep, .keep, .row .kB, .row .kB] (g_seal_TagOf F U)
noncomputable def x_seal_TagOf (F : Fs) (U : Us) : Cx := ⟨Try.f75.ntmps, tt F, sp_seal_TagOf F U, [], [(6, ([(1, [0])], []))], [], []⟩
theorem c_seal_TagOf (k n aad c : List UInt8) (hc : (us.isL k 32 ∧ us.isL n 12) ∧ real.pLe (real.lenB aad) 100000 ∧ real.pLe (real.lenB c) 100000) : vc real (x_seal_TagOf real us) [] [] (Try.f75.body.getD .skip) ⟨zipSl 0 [.ag 32 (.bt k), .ag 12 (.bt n), .rb 1 (.bt aad), .rb 1 (.bt c)], [], 64⟩ (retOk real (tt real) false Try.f75.results.toList [.val (.ag 16 (.bt (us.tag k n aad c)))]) := by
  generalize hU : us = U
  generalize hF : real = F
  have hk : k.length = 32 := by subst hU; exact hc.1.1
  have hn : n.length = 12 := by subst hU; exact hc.1.2
  have ha : aad.length ≤ 100000 := hc.2.1
  have hcl : c.length ≤ 100000 := hc.2.2
  clear hc
  cbv
  repeat' first | apply And.intro | refine Classical.or_iff_not_imp_left.2 (fun _ => ?_) | exact trivial
  all_goals try (subst hF hU; simp only [real, us, Nat.le_eq, Int.cast_ofNat_Int, decide_eq_false_iff_not, decide_eq_true_eq, List.length_take, List.length_drop, List.length_append, List.length_replicate, List.length_set, List.length_cons, List.length_nil, List.length_zipWith] at *; (try simp (disch := omega) only [wrap_sm] at *); omega)
  · subst hU; exact hk
  · subst hF hU; exact tg1 ha
  · subst hF hU; exact tg2 ha
  · subst hF hU; exact tg3 ha hcl
  · subst hF hU; exact l32d _ _ _
  · subst hF hU; exact tg4 ha hcl
  · subst hF hU; exact l32m _ _
  · subst hF hU; exact tag_eq k c ha hn
theorem k_seal_TagOf : SpecOK Try.prog 75 (s_seal_TagOf real us) := by
  refine pure_sound (x := x_seal_TagOf real us) ⟨tt_ok, ok_seal_TagOf, Go.Vc.ks_nil⟩ mixed Try.func75 rfl rfl (by kernel_rfl) ?_
  intro l c rs hg hc
  unfold g_seal_TagOf at hg
  split at hg
  · cases hg; exact ⟨Nat.le_of_ble_eq_true rfl, [], [], c_seal_TagOf _ _ _ _ hc⟩
  · cases hg

theorem enc_eq (k n p : List UInt8) : us.sx (us.mdv k (real.ofS ⟨⟨[101, 110, 99]⟩⟩) (real.ofI32 (real.int 0))) n (real.ofI32 (real.int 1)) p = us.enc k n p := rfl
theorem r_seal_cross : Ready Try.prog 117 := by unfold Ready; kernel_rfl
noncomputable def sp_seal_cross (F : Fs) (U : Us) : Specs := [(62, s_mac_Derive F U), (37, s_stream_Xor F U)]
theorem ok_seal_cross : SpecsOK Try.prog (sp_seal_cross real us) := sp_cons r_mac_Derive k_mac_Derive (sp_cons r_stream_Xor k_stream_Xor sp_nil)
noncomputable def g_seal_cross (F : Fs) (U : Us) : Law
  | [.ag 32 (.bt k), .ag 12 (.bt n), .rb 1 (.bt p)] => some ((U.isL k 32 ∧ U.isL n 12) ∧ F.pLe (F.lenB p) 100000, [.row 5 1 (.bt (U.enc k n p))])
  | _ => none
noncomputable def s_seal_cross (F : Fs) (U : Us) : Vc.Spec := pureSpec F false [.keep, .keep, .row .kB] (g_seal_cross F U)
noncomputable def x_seal_cross (F : Fs) (U : Us) : Cx := ⟨Try.f117.ntmps, tt F, sp_seal_cross F U, [], [(1, ([(2, [0, 1])], []))], [], []⟩
theorem c_seal_cross (k n p : List UInt8) (hc : (us.isL k 32 ∧ us.isL n 12) ∧ real.pLe (real.lenB p) 100000) : vc real (x_seal_cross real us) [] [] (Try.f117.body.getD .skip) ⟨zipSl 0 [.ag 32 (.bt k), .ag 12 (.bt n), .rb 1 (.bt p)], [], 64⟩ (retOk real (tt real) false Try.f117.results.toList [.row 5 1 (.bt (us.enc k n p))]) := by
  generalize hU : us = U
  generalize hF : real = F
  have hk : k.length = 32 := by subst hU; exact hc.1.1
  have hn : n.length = 12 := by subst hU; exact hc.1.2
  have hp : p.length ≤ 100000 := hc.2
  clear hc
  have hd : ∀ l x, U.isL (U.mdv k l x) 32 := by subst hU; exact fun l x => mdvLen k l x
  cbv
  repeat' first | apply And.intro | refine Classical.or_iff_not_imp_left.2 (fun _ => ?_) | exact trivial
  all_goals try (subst hF hU; simp only [real, us, Nat.le_eq, Int.cast_ofNat_Int, decide_eq_false_iff_not, decide_eq_true_eq, List.length_take, List.length_drop, List.length_append, List.length_replicate, List.length_set, List.length_cons, List.length_nil, List.length_zipWith] at *; (try simp (disch := omega) only [wrap_sm] at *); omega)
  · subst hU; exact hk
  · exact hd _ _
  · subst hU; exact hn
  · subst hF hU; exact enc_eq k n p
theorem k_seal_cross : SpecOK Try.prog 117 (s_seal_cross real us) := by
  refine pure_sound (x := x_seal_cross real us) ⟨tt_ok, ok_seal_cross, Go.Vc.ks_nil⟩ mixed Try.func117 rfl rfl (by kernel_rfl) ?_
  intro l c rs hg hc
  unfold g_seal_cross at hg
  split at hg
  · cases hg; exact ⟨Nat.le_of_ble_eq_true rfl, [], [], c_seal_cross _ _ _ hc⟩
  · cases hg

attribute [local irreducible] u_enc u_tag
theorem seal_eq (k n aad p : List UInt8) : real.appB (us.enc k n p) (real.cutB (us.tag k n aad (us.enc k n p)) 0 16) = us.sel k n aad p := by
  have hl : (us.tag k n aad (us.enc k n p)).length = 16 := tag_len _ _ _ _
  rw [cutAll _ 16 hl]
  rfl
theorem r_seal_Seal : Ready Try.prog 77 := by unfold Ready; kernel_rfl
noncomputable def sp_seal_Seal (F : Fs) (U : Us) : Specs := [(117, s_seal_cross F U), (75, s_seal_TagOf F U)]
theorem ok_seal_Seal : SpecsOK Try.prog (sp_seal_Seal real us) := sp_cons r_seal_cross k_seal_cross (sp_cons r_seal_TagOf k_seal_TagOf sp_nil)
noncomputable def g_seal_Seal (F : Fs) (U : Us) : Law
  | [.ag 32 (.bt k), .ag 12 (.bt n), .rb 1 (.bt aad), .rb 1 (.bt p)] => some ((U.isL k 32 ∧ U.isL n 12) ∧ F.pLe (F.lenB aad) 100000 ∧ F.pLe (F.lenB p) 90000, [.row 5 1 (.bt (U.sel k n aad p))])
  | _ => none
noncomputable def s_seal_Seal (F : Fs) (U : Us) : Vc.Spec := pureSpec F false [.keep, .keep, .row .kB, .row .kB] (g_seal_Seal F U)
noncomputable def x_seal_Seal (F : Fs) (U : Us) : Cx := ⟨Try.f77.ntmps, tt F, sp_seal_Seal F U, [], [], [], []⟩
theorem c_seal_Seal (k n aad p : List UInt8) (hc : (us.isL k 32 ∧ us.isL n 12) ∧ real.pLe (real.lenB aad) 100000 ∧ real.pLe (real.lenB p) 90000) : vc real (x_seal_Seal real us) [] [] (Try.f77.body.getD .skip) ⟨zipSl 0 [.ag 32 (.bt k), .ag 12 (.bt n), .rb 1 (.bt aad), .rb 1 (.bt p)], [], 64⟩ (retOk real (tt real) false Try.f77.results.toList [.row 5 1 (.bt (us.sel k n aad p))]) := by
  generalize hU : us = U
  generalize hF : real = F
  have hk : k.length = 32 := by subst hU; exact hc.1.1
  have hn : n.length = 12 := by subst hU; exact hc.1.2
  have ha : aad.length ≤ 100000 := hc.2.1
  have hp : p.length ≤ 90000 := hc.2.2
  clear hc
  have he := enc_len k n p
  have ht := tag_len k n aad (u_enc k n p)
  cbv
  repeat' first | apply And.intro | refine Classical.or_iff_not_imp_left.2 (fun _ => ?_) | exact trivial
  all_goals try (subst hF hU; simp only [real, us, Nat.le_eq, Int.cast_ofNat_Int, decide_eq_false_iff_not, decide_eq_true_eq, List.length_take, List.length_drop, List.length_append, List.length_replicate, List.length_set, List.length_cons, List.length_nil, List.length_zipWith] at *; (try simp (disch := omega) only [wrap_sm] at *); omega)
  all_goals first
    | (subst hU; exact hk)
    | (subst hU; exact hn)
    | (subst hF hU; exact seal_eq k n aad p)
theorem k_seal_Seal : SpecOK Try.prog 77 (s_seal_Seal real us) := by
  refine pure_sound (x := x_seal_Seal real us) ⟨tt_ok, ok_seal_Seal, Go.Vc.ks_nil⟩ mixed Try.func77 rfl rfl (by kernel_rfl) ?_
  intro l c rs hg hc
  unfold g_seal_Seal at hg
  split at hg
  · cases hg; exact ⟨Nat.le_of_ble_eq_true rfl, [], [], c_seal_Seal _ _ _ _ hc⟩
  · cases hg

end Go.Proofs.Ytmldccfchnlpgaa
set_option linter.unusedVariables false
set_option linter.unusedSimpArgs false
set_option maxRecDepth 100000
set_option maxHeartbeats 1000000
namespace Go.Proofs.Ytmldccfchnlpgaa
open Go Go.Vc
noncomputable abbrev opN (b : List UInt8) : Int := real.subi (real.int (real.lenB b)) (real.int 16)
theorem op_n {b : List UInt8} (h : b.length ≤ 90000) : opN b = (b.length : Int) - 16 := by
  show IntKind.i64.wrap ((b.length : Int) - 16) = _
  rw [wrap_sm (by omega) (by omega)]
theorem op_lt {b : List UInt8} (h : b.length ≤ 90000) (hg : ¬ real.pB (real.lti (opN b) (real.int 0)) false) : b.length < 16 := by
  rw [op_n h] at hg
  have h1 : ¬ (decide ((b.length : Int) - 16 < 0) = false) := hg
  simp at h1
  omega
theorem op_ge {b : List UInt8} (h : b.length ≤ 90000) (hg : ¬ real.pB (real.lti (opN b) (real.int 0)) true) : 16 ≤ b.length := by
  rw [op_n h] at hg
  have h1 : ¬ (decide ((b.length : Int) - 16 < 0) = true) := hg
  simp at h1
  omega
theorem op_nat {b : List UInt8} (h : b.length ≤ 90000) : real.nat (opN b) = b.length - 16 := by
  rw [op_n h]
  show ((b.length : Int) - 16).toNat = _
  omega
noncomputable abbrev opX (b : List UInt8) : List UInt8 := real.cutB b (real.nat (opN b)) (real.subn (real.lenB b) (real.nat (opN b)))
theorem op_x {b : List UInt8} (h : b.length ≤ 90000) : opX b = b.drop (b.length - 16) := by
  unfold opX
  rw [op_nat h]
  show (b.drop (b.length - 16)).take (b.length - (b.length - 16)) = _
  rw [List.take_of_length_le (by rw [List.length_drop]; omega)]
theorem op_t {b : List UInt8} (h : b.length ≤ 90000) (h16 : 16 ≤ b.length) : real.splB (real.repB 16) 0 (real.cutB (opX b) 0 (real.minn (real.lenB (opX b)) 16)) = b.drop (b.length - 16) := by
  rw [op_x h]
  exact copyN 16 _ (by rw [List.length_drop]; omega)
theorem op_y {b : List UInt8} (h : b.length ≤ 90000) : real.cutB b 0 (real.nat (opN b)) = b.take (b.length - 16) := by
  rw [op_nat h]
  show (b.drop 0).take _ = _
  rw [List.drop_zero]
theorem op_p0 {b : List UInt8} (h : b.length ≤ 90000) (h16 : 16 ≤ b.length) : real.p0 (opN b) := by
  rw [op_n h]; show (0 : Int) ≤ _; omega
theorem op_in {b : List UInt8} (h : b.length ≤ 90000) (h16 : 16 ≤ b.length) : real.pLe (real.nat (opN b)) (real.lenB b) := by
  rw [op_nat h]; show b.length - 16 ≤ b.length; omega
theorem op_cl {b : List UInt8} (h : b.length ≤ 90000) : (real.cutB b 0 (real.nat (opN b))).length ≤ 90000 := by
  rw [op_y h, List.length_take]; omega
theorem opB_sh (k n aad : List UInt8) {b : List UInt8} (h : b.length < 16) : [] = us.opB k n aad b ∧ real.int 10 = us.opE k n aad b := by
  have e : u_opE k n aad b = 10 := (opE_short k n aad b).2 h
  refine ⟨?_, e.symm⟩
  show [] = u_opB k n aad b
  unfold u_opB
  rw [if_neg (by rw [e]; decide)]
theorem opB_no {k n aad b : List UInt8} (h : b.length ≤ 90000) (h16 : 16 ≤ b.length) (hg : ¬ real.pB (real.notb (real.eqB (real.splB (real.repB 16) 0 (real.cutB (opX b) 0 (real.minn (real.lenB (opX b)) 16))) (us.tag k n aad (real.cutB b 0 (real.nat (opN b)))))) false) : [] = us.opB k n aad b ∧ real.int 50 = us.opE k n aad b := by
  rw [op_t h h16, op_y h] at hg
  have h1 : ¬ ((!(b.drop (b.length - 16) == u_tag k n aad (b.take (b.length - 16)))) = false) := hg
  have h2 : b.drop (b.length - 16) ≠ u_tag k n aad (b.take (b.length - 16)) := by simpa using h1
  have e : u_opE k n aad b = 50 := by
    unfold u_opE
    rw [if_neg (by omega), if_neg h2]
  refine ⟨?_, e.symm⟩
  show [] = u_opB k n aad b
  unfold u_opB
  rw [if_neg (by rw [e]; decide)]
theorem opB_yes {k n aad b : List UInt8} (h : b.length ≤ 90000) (h16 : 16 ≤ b.length) (hg : ¬ real.pB (real.notb (real.eqB (real.splB (real.repB 16) 0 (real.cutB (opX b) 0 (real.minn (real.lenB (opX b)) 16))) (us.tag k n aad (real.cutB b 0 (real.nat (opN b)))))) true) : us.enc k n (real.cutB b 0 (real.nat (opN b))) = us.opB k n aad b ∧ real.int 0 = us.opE k n aad b := by
  rw [op_t h h16, op_y h] at hg
  have h1 : ¬ ((!(b.drop (b.length - 16) == u_tag k n aad (b.take (b.length - 16)))) = true) := hg
  have h2 : b.drop (b.length - 16) = u_tag k n aad (b.take (b.length - 16)) := by simpa using h1
  have e : u_opE k n aad b = 0 := by
    unfold u_opE
    rw [if_neg (by omega), if_pos h2]
  refine ⟨?_, e.symm⟩
  rw [op_y h]
  exact (opB_ok e).symm
attribute [local irreducible] u_enc u_tag u_opB u_opE
theorem r_seal_Open : Ready Try.prog 70 := by unfold Ready; kernel_rfl
noncomputable def sp_seal_Open (F : Fs) (U : Us) : Specs := [(75, s_seal_TagOf F U), (117, s_seal_cross F U)]
theorem ok_seal_Open : SpecsOK Try.prog (sp_seal_Open real us) := sp_cons r_seal_TagOf k_seal_TagOf (sp_cons r_seal_cross k_seal_cross sp_nil)
noncomputable def g_seal_Open (F : Fs) (U : Us) : Law
  | [.ag 32 (.bt k), .ag 12 (.bt n), .rb 1 (.bt aad), .rb 1 (.bt b)] => some ((U.isL k 32 ∧ U.isL n 12) ∧ F.pLe (F.lenB aad) 100000 ∧ F.pLe (F.lenB b) 90000, [.row 5 1 (.bt (U.opB k n aad b)), .val (.i (U.opE k n aad b))])
  | _ => none
noncomputable def s_seal_Open (F : Fs) (U : Us) : Vc.Spec := pureSpec F false [.keep, .keep, .row .kB, .row .kB] (g_seal_Open F U)
noncomputable def x_seal_Open (F : Fs) (U : Us) : Cx := ⟨Try.f70.ntmps, tt F, sp_seal_Open F U, [], [(5, ([(3, [0])], [])), (6, ([(1, [0]), (2, [0, 1]), (6, [0, 1, 2]), (7, [0])], [])), (8, ([(1, [0]), (4, [0, 1])], []))], [], []⟩
theorem c_seal_Open (k n aad b : List UInt8) (hc : (us.isL k 32 ∧ us.isL n 12) ∧ real.pLe (real.lenB aad) 100000 ∧ real.pLe (real.lenB b) 90000) : vc real (x_seal_Open real us) [] [] (Try.f70.body.getD .skip) ⟨zipSl 0 [.ag 32 (.bt k), .ag 12 (.bt n), .rb 1 (.bt aad), .rb 1 (.bt b)], [], 64⟩ (retOk real (tt real) false Try.f70.results.toList [.row 5 1 (.bt (us.opB k n aad b)), .val (.i (us.opE k n aad b))]) := by
  generalize hU : us = U
  generalize hF : real = F
  have hk : k.length = 32 := by subst hU; exact hc.1.1
  have hn : n.length = 12 := by subst hU; exact hc.1.2
  have ha : aad.length ≤ 100000 := hc.2.1
  have hb : b.length ≤ 90000 := hc.2.2
  clear hc
  cbv
  repeat' first | apply And.intro | refine Classical.or_iff_not_imp_left.2 (fun _ => ?_) | exact trivial
  all_goals try (subst hF hU; simp only [real, us, Nat.le_eq, Int.cast_ofNat_Int, decide_eq_false_iff_not, decide_eq_true_eq, List.length_take, List.length_drop, List.length_append, List.length_replicate, List.length_set, List.length_cons, List.length_nil, List.length_zipWith] at *; (try simp (disch := omega) only [wrap_sm] at *); omega)
  · rename_i g; subst hF hU; exact (opB_sh k n aad (op_lt hb g)).1.symm
  · rename_i g; subst hF hU; exact (opB_sh k n aad (op_lt hb g)).2
  · subst hU; exact hk
  · subst hU; exact hn
  · rename_i g1 g2; subst hF hU; exact (opB_no hb (op_ge hb g1) g2).1.symm
  · rename_i g1 g2; subst hF hU; exact (opB_no hb (op_ge hb g1) g2).2
  · subst hU; exact hk
  · subst hU; exact hn
  · rename_i g1 g2; subst hF hU; exact (opB_yes hb (op_ge hb g1) g2).1
  · rename_i g1 g2; subst hF hU; exact (opB_yes hb (op_ge hb g1) g2).2
theorem k_seal_Open : SpecOK Try.prog 70 (s_seal_Open real us) := by
  refine pure_sound (x := x_seal_Open real us) ⟨tt_ok, ok_seal_Open, Go.Vc.ks_nil⟩ mixed Try.func70 rfl rfl (by kernel_rfl) ?_
  intro l c rs hg hc
  unfold g_seal_Open at hg
  split at hg
  · cases hg; exact ⟨Nat.le_of_ble_eq_true rfl, [], [], c_seal_Open _ _ _ _ hc⟩
  · cases hg

theorem wt_eq : [real.ofI8 (real.int 119), real.ofI8 (real.int 114), real.ofI8 (real.int 97), real.ofI8 (real.int 112)] = u_wt := by decide
theorem nonceLen (p : UInt32) (g : UInt64) : us.isL (us.nonce p g) 12 := nonce_len p g
theorem selLen (k n aad p : List UInt8) : (us.sel k n aad p).length = p.length + 16 := seal_len k n aad p
theorem wrp_eq (k : List UInt8) (s : UInt32) (g : UInt64) (key : List UInt8) (h : key.length = 32) : real.splB (real.repB 48) 0 (real.cutB (us.sel k (us.nonce s g) [real.ofI8 (real.int 119), real.ofI8 (real.int 114), real.ofI8 (real.int 97), real.ofI8 (real.int 112)] (real.cutB key 0 32)) 0 (real.minn (real.lenB (us.sel k (us.nonce s g) [real.ofI8 (real.int 119), real.ofI8 (real.int 114), real.ofI8 (real.int 97), real.ofI8 (real.int 112)] (real.cutB key 0 32))) 48)) = us.wrp k s g key := by
  rw [wt_eq, cutAll key 32 h]
  exact copyN 48 _ (by rw [selLen, h])
attribute [local irreducible] u_seal u_nonce
theorem r_seal_Wrap : Ready Try.prog 79 := by unfold Ready; kernel_rfl
noncomputable def sp_seal_Wrap (F : Fs) (U : Us) : Specs := [(69, s_seal_NonceOf F U), (77, s_seal_Seal F U)]
theorem ok_seal_Wrap : SpecsOK Try.prog (sp_seal_Wrap real us) := sp_cons r_seal_NonceOf k_seal_NonceOf (sp_cons r_seal_Seal k_seal_Seal sp_nil)
noncomputable def g_seal_Wrap (F : Fs) (U : Us) : Law
  | [.ag 32 (.bt k), .w32 s, .w64 g, .ag 32 (.bt key)] => some (U.isL k 32 ∧ U.isL key 32, [.val (.ag 48 (.bt (U.wrp k s g key)))])
  | _ => none
noncomputable def s_seal_Wrap (F : Fs) (U : Us) : Vc.Spec := pureSpec F false [.keep, .keep, .keep, .keep] (g_seal_Wrap F U)
noncomputable def x_seal_Wrap (F : Fs) (U : Us) : Cx := ⟨Try.f79.ntmps, tt F, sp_seal_Wrap F U, [], [(2, ([(0, [5]), (1, [0, 5]), (4, [0, 1, 5]), (5, [0, 1, 4]), (6, [0, 1, 4]), (7, [0, 1, 4, 5, 6]), (8, [0])], [(6, [5])]))], [], []⟩
theorem c_seal_Wrap (k : List UInt8) (s : UInt32) (g : UInt64) (key : List UInt8) (hc : us.isL k 32 ∧ us.isL key 32) : vc real (x_seal_Wrap real us) [] [] (Try.f79.body.getD .skip) ⟨zipSl 0 [.ag 32 (.bt k), .w32 s, .w64 g, .ag 32 (.bt key)], [], 64⟩ (retOk real (tt real) false Try.f79.results.toList [.val (.ag 48 (.bt (us.wrp k s g key)))]) := by
  generalize hU : us = U
  generalize hF : real = F
  have hk : k.length = 32 := by subst hU; exact hc.1
  have hy : key.length = 32 := by subst hU; exact hc.2
  clear hc
  have hn : ∀ p g, U.isL (U.nonce p g) 12 := by subst hU; exact nonceLen
  cbv
  repeat' first | apply And.intro | refine Classical.or_iff_not_imp_left.2 (fun _ => ?_) | exact trivial
  all_goals try (subst hF hU; simp only [real, us, Nat.le_eq, Int.cast_ofNat_Int, decide_eq_false_iff_not, decide_eq_true_eq, List.length_take, List.length_drop, List.length_append, List.length_replicate, List.length_set, List.length_cons, List.length_nil, List.length_zipWith] at *; (try simp (disch := omega) only [wrap_sm] at *); omega)
  · subst hU; exact hk
  · exact hn _ _
  · subst hF hU; exact wrp_eq k s g key hy
theorem k_seal_Wrap : SpecOK Try.prog 79 (s_seal_Wrap real us) := by
  refine pure_sound (x := x_seal_Wrap real us) ⟨tt_ok, ok_seal_Wrap, Go.Vc.ks_nil⟩ mixed Try.func79 rfl rfl (by kernel_rfl) ?_
  intro l c rs hg hc
  unfold g_seal_Wrap at hg
  split at hg
  · cases hg; exact ⟨Nat.le_of_ble_eq_true rfl, [], [], c_seal_Wrap _ _ _ _ hc⟩
  · cases hg

theorem uwE_eq (k : List UInt8) (s : UInt32) (g : UInt64) (w : List UInt8) (h : w.length = 48) : us.opE k (us.nonce s g) [real.ofI8 (real.int 119), real.ofI8 (real.int 114), real.ofI8 (real.int 97), real.ofI8 (real.int 112)] (real.cutB w 0 48) = us.uwE k s g w := by
  rw [wt_eq, cutAll w 48 h]
  rfl
noncomputable abbrev uwV : List UInt8 := [real.ofI8 (real.int 119), real.ofI8 (real.int 114), real.ofI8 (real.int 97), real.ofI8 (real.int 112)]
theorem uw_no {k : List UInt8} {s : UInt32} {g : UInt64} {w : List UInt8} (h : w.length = 48) (hg : ¬ real.pB (real.notb (real.eqi (us.opE k (us.nonce s g) uwV (real.cutB w 0 48)) (real.int 0))) false) : real.repB 32 = us.uwK k s g w := by
  rw [uwE_eq k s g w h] at hg
  have h1 : ¬ ((!(u_uwE k s g w == 0)) = false) := hg
  have h2 : u_uwE k s g w ≠ 0 := by simpa using h1
  show List.replicate 32 0 = u_uwK k s g w
  unfold u_uwK
  rw [if_neg h2]
theorem uw_yes {k : List UInt8} {s : UInt32} {g : UInt64} {w : List UInt8} (h : w.length = 48) (hg : ¬ real.pB (real.notb (real.eqi (us.opE k (us.nonce s g) uwV (real.cutB w 0 48)) (real.int 0))) true) : real.splB (real.repB 32) 0 (real.cutB (us.opB k (us.nonce s g) uwV (real.cutB w 0 48)) 0 (real.minn (real.lenB (us.opB k (us.nonce s g) uwV (real.cutB w 0 48))) 32)) = us.uwK k s g w ∧ real.int 0 = us.uwE k s g w := by
  rw [uwE_eq k s g w h] at hg
  have h1 : ¬ ((!(u_uwE k s g w == 0)) = true) := hg
  have h2 : u_uwE k s g w = 0 := by simpa using h1
  refine ⟨?_, h2.symm⟩
  have e0 : us.uwK k s g w = us.opB k (us.nonce s g) u_wt w := by
    show u_uwK k s g w = u_opB k (u_nonce s g) u_wt w
    unfold u_uwK
    rw [if_pos h2]
  have hl : (us.uwK k s g w).length = 32 := uwK_len k s g w h
  have e : us.opB k (us.nonce s g) uwV (real.cutB w 0 48) = us.uwK k s g w := by
    unfold uwV
    rw [wt_eq, cutAll w 48 h, e0]
  rw [e, copyN 32 _ hl]
theorem r_seal_Unwrap : Ready Try.prog 72 := by unfold Ready; kernel_rfl
noncomputable def sp_seal_Unwrap (F : Fs) (U : Us) : Specs := [(69, s_seal_NonceOf F U), (70, s_seal_Open F U)]
theorem ok_seal_Unwrap : SpecsOK Try.prog (sp_seal_Unwrap real us) := sp_cons r_seal_NonceOf k_seal_NonceOf (sp_cons r_seal_Open k_seal_Open sp_nil)
noncomputable def g_seal_Unwrap (F : Fs) (U : Us) : Law
  | [.ag 32 (.bt k), .w32 s, .w64 g, .ag 48 (.bt w)] => some (U.isL k 32 ∧ U.isL w 48, [.val (.ag 32 (.bt (U.uwK k s g w))), .val (.i (U.uwE k s g w))])
  | _ => none
noncomputable def s_seal_Unwrap (F : Fs) (U : Us) : Vc.Spec := pureSpec F false [.keep, .keep, .keep, .keep] (g_seal_Unwrap F U)
noncomputable def x_seal_Unwrap (F : Fs) (U : Us) : Cx := ⟨Try.f72.ntmps, tt F, sp_seal_Unwrap F U, [], [(1, ([(0, [4]), (3, [0, 4]), (4, [0, 3]), (5, [0, 3]), (6, [0, 3, 4, 5])], [(5, [4])]))], [], []⟩
theorem c_seal_Unwrap (k : List UInt8) (s : UInt32) (g : UInt64) (w : List UInt8) (hc : us.isL k 32 ∧ us.isL w 48) : vc real (x_seal_Unwrap real us) [] [] (Try.f72.body.getD .skip) ⟨zipSl 0 [.ag 32 (.bt k), .w32 s, .w64 g, .ag 48 (.bt w)], [], 64⟩ (retOk real (tt real) false Try.f72.results.toList [.val (.ag 32 (.bt (us.uwK k s g w))), .val (.i (us.uwE k s g w))]) := by
  generalize hU : us = U
  generalize hF : real = F
  have hk : k.length = 32 := by subst hU; exact hc.1
  have hy : w.length = 48 := by subst hU; exact hc.2
  clear hc
  have hn : ∀ p g, U.isL (U.nonce p g) 12 := by subst hU; exact nonceLen
  cbv
  repeat' first | apply And.intro | refine Classical.or_iff_not_imp_left.2 (fun _ => ?_) | exact trivial
  all_goals try (subst hF hU; simp only [real, us, Nat.le_eq, Int.cast_ofNat_Int, decide_eq_false_iff_not, decide_eq_true_eq, List.length_take, List.length_drop, List.length_append, List.length_replicate, List.length_set, List.length_cons, List.length_nil, List.length_zipWith] at *; (try simp (disch := omega) only [wrap_sm] at *); omega)
  · subst hU; exact hk
  · exact hn _ _
  · rename_i g1; subst hF hU; exact uw_no hy g1
  · subst hF hU; exact uwE_eq k s g w hy
  · rename_i g1; subst hF hU; exact (uw_yes hy g1).1
  · rename_i g1; subst hF hU; exact (uw_yes hy g1).2
theorem k_seal_Unwrap : SpecOK Try.prog 72 (s_seal_Unwrap real us) := by
  refine pure_sound (x := x_seal_Unwrap real us) ⟨tt_ok, ok_seal_Unwrap, Go.Vc.ks_nil⟩ mixed Try.func72 rfl rfl (by kernel_rfl) ?_
  intro l c rs hg hc
  unfold g_seal_Unwrap at hg
  split at hg
  · cases hg; exact ⟨Nat.le_of_ble_eq_true rfl, [], [], c_seal_Unwrap _ _ _ _ hc⟩
  · cases hg

end Go.Proofs.Ytmldccfchnlpgaa
set_option linter.unusedVariables false
set_option linter.unusedSimpArgs false
set_option maxRecDepth 100000
set_option maxHeartbeats 1000000
namespace Go.Proofs.Ytmldccfchnlpgaa
open Go Go.Vc
theorem k5_len : us.isL (real.setB (real.repB 32) 1 (real.ofI8 (real.int 2))) 32 := by show (List.set (List.replicate 32 0) 1 _).length = 32; simp
theorem k6_len : us.isL (real.setB (real.repB 32) 5 (real.ofI8 (real.int 6))) 32 := by show (List.set (List.replicate 32 0) 5 _).length = 32; simp
theorem kn_eq : real.pB (real.eqB (us.nonce (real.ofI32 (real.int 1)) (real.ofI64 (real.int 2))) (real.setB (real.setB (real.repB 12) 3 (real.ofI8 (real.int 1))) 11 (real.ofI8 (real.int 2)))) true := by
  show real.eqB (us.nonce (real.ofI32 (real.int 1)) (real.ofI64 (real.int 2))) (real.setB (real.setB (real.repB 12) 3 (real.ofI8 (real.int 1))) 11 (real.ofI8 (real.int 2))) = true
  decide
noncomputable abbrev kS : List UInt8 := [real.ofI8 (real.int 115), real.ofI8 (real.int 101), real.ofI8 (real.int 99), real.ofI8 (real.int 114), real.ofI8 (real.int 101), real.ofI8 (real.int 116)]
noncomputable abbrev kK : List UInt8 := real.setB (real.repB 32) 1 (real.ofI8 (real.int 2))
noncomputable abbrev kN : List UInt8 := us.nonce (real.ofI32 (real.int 1)) (real.ofI64 (real.int 2))
noncomputable abbrev kY : List UInt8 := real.setB (real.repB 32) 5 (real.ofI8 (real.int 6))
def xK : List UInt8 := [0, 2, 0, 0, 0, 0, 0, 0, 0, 0, 0, 0, 0, 0, 0, 0, 0, 0, 0, 0, 0, 0, 0, 0, 0, 0, 0, 0, 0, 0, 0, 0]
def xN : List UInt8 := [0, 0, 0, 1, 0, 0, 0, 0, 0, 0, 0, 2]
def xS : List UInt8 := [115, 101, 99, 114, 101, 116]
theorem kK_eq : kK = xK := by decide
theorem kN_eq : kN = xN := by decide
theorem kS_eq : kS = xS := by decide
theorem tags_ab : ((u_mac (u_mxL xK ([109, 97, 99] ++ putK (UInt64.ofNat 0) 4) 1) (u_tagM xN [97] (u_sx (u_mxL xK ([101, 110, 99] ++ putK (UInt64.ofNat 0) 4) 1) xN 1 xS))).take 16 == (u_mac (u_mxL xK ([109, 97, 99] ++ putK (UInt64.ofNat 0) 4) 1) (u_tagM xN [98] (u_sx (u_mxL xK ([101, 110, 99] ++ putK (UInt64.ofNat 0) 4) 1) xN 1 xS))).take 16) = false := by decide +kernel
attribute [local irreducible] u_mac u_mxL u_mxO u_sx u_mx in
theorem mdv_is (k l : List UInt8) (n : UInt32) : u_mdv k l n = u_mxL k (l ++ putK (UInt64.ofNat n.toNat) 4) 1 := mx_32 k _
attribute [local irreducible] u_mac u_mxL u_mxO u_sx u_mx in
theorem tag_ab : u_tag xK xN [97] (u_enc xK xN xS) ≠ u_tag xK xN [98] (u_enc xK xN xS) := by
  have h : ∀ a, u_tag xK xN a (u_enc xK xN xS) = (u_mac (u_mxL xK ([109, 97, 99] ++ putK (UInt64.ofNat 0) 4) 1) (u_tagM xN a (u_sx (u_mxL xK ([101, 110, 99] ++ putK (UInt64.ofNat 0) 4) 1) xN 1 xS))).take 16 := by
    intro a
    unfold u_tag u_enc
    rw [mdv_is, mdv_is]
    rfl
  rw [h [97], h [98]]
  intro e
  have := tags_ab
  rw [e] at this
  simp at this
attribute [local irreducible] u_seal u_nonce u_enc u_tag u_opB u_opE u_wrp u_uwE u_uwK
theorem kg1 : real.pLe (real.lenB (us.sel kK kN [real.ofI8 (real.int 97)] kS)) 90000 := by
  have h : real.lenB (us.sel kK kN [real.ofI8 (real.int 97)] kS) = 22 := selLen _ _ _ _
  rw [h]
  show 22 ≤ 90000
  omega
theorem kg2 : real.pB (real.eqi (real.int (real.lenB (us.sel kK kN [real.ofI8 (real.int 97)] kS))) (real.int 22)) true := by
  have h : real.lenB (us.sel kK kN [real.ofI8 (real.int 97)] kS) = 22 := selLen _ _ _ _
  rw [h]
  rfl
theorem kg3 : us.isL (us.wrp kK (real.ofI32 (real.int 3)) (real.ofI64 (real.int 4)) kY) 48 := wrp_len _ _ _ _ k6_len
theorem eqi_self (x : Int) : real.pB (real.eqi x x) true := by
  show (x == x) = true
  simp
theorem kg4 : real.pB (real.eqi (us.opE kK kN [real.ofI8 (real.int 97)] (us.sel kK kN [real.ofI8 (real.int 97)] kS)) (real.int 0)) true := by
  have h : us.opE kK kN [real.ofI8 (real.int 97)] (us.sel kK kN [real.ofI8 (real.int 97)] kS) = real.int 0 := opE_seal _ _ _ _
  rw [h]
  exact eqi_self _
theorem kg5 : real.pB (real.eqB (us.opB kK kN [real.ofI8 (real.int 97)] (us.sel kK kN [real.ofI8 (real.int 97)] kS)) (real.ofS ⟨⟨[115, 101, 99, 114, 101, 116]⟩⟩)) true := by
  have h : us.opB kK kN [real.ofI8 (real.int 97)] (us.sel kK kN [real.ofI8 (real.int 97)] kS) = kS := opB_seal _ _ _ _
  rw [h]
  show (real.eqB kS [115, 101, 99, 114, 101, 116]) = true
  decide
theorem kg6 : real.pB (real.eqi (us.opE kK kN [real.ofI8 (real.int 98)] (us.sel kK kN [real.ofI8 (real.int 97)] kS)) (real.int 50)) true := by
  have h : us.opE kK kN [real.ofI8 (real.int 98)] (us.sel kK kN [real.ofI8 (real.int 97)] kS) = real.int 50 := by
    rw [kK_eq, kN_eq, kS_eq]
    show u_opE xK xN [98] (u_seal xK xN [97] xS) = 50
    unfold u_seal
    rw [opE_split _ _ _ _ _ (tag_len _ _ _ _), if_neg tag_ab]
  rw [h]
  exact eqi_self _
theorem kg7 : real.pB (real.eqi (us.opE kK kN [] []) (real.int 10)) true := by
  have h : us.opE kK kN [] [] = real.int 10 := (opE_short _ _ _ _).2 (by decide)
  rw [h]
  exact eqi_self _
theorem kg8 : real.pB (real.eqi (us.uwE kK (real.ofI32 (real.int 3)) (real.ofI64 (real.int 4)) (us.wrp kK (real.ofI32 (real.int 3)) (real.ofI64 (real.int 4)) kY)) (real.int 0)) true := by
  have h : us.uwE kK (real.ofI32 (real.int 3)) (real.ofI64 (real.int 4)) (us.wrp kK (real.ofI32 (real.int 3)) (real.ofI64 (real.int 4)) kY) = real.int 0 := (uw_wrp _ _ _ _).1
  rw [h]
  exact eqi_self _
theorem kg9 : real.eqB (us.uwK kK (real.ofI32 (real.int 3)) (real.ofI64 (real.int 4)) (us.wrp kK (real.ofI32 (real.int 3)) (real.ofI64 (real.int 4)) kY)) kY = true := by
  have h : us.uwK kK (real.ofI32 (real.int 3)) (real.ofI64 (real.int 4)) (us.wrp kK (real.ofI32 (real.int 3)) (real.ofI64 (real.int 4)) kY) = kY := (uw_wrp _ _ _ _).2
  rw [h]
  exact eqB_self _
theorem r_law5_known : Ready Try.prog 68 := by unfold Ready; kernel_rfl
noncomputable def sp_law5_known (F : Fs) (U : Us) : Specs := [(69, s_seal_NonceOf F U), (77, s_seal_Seal F U), (70, s_seal_Open F U), (72, s_seal_Unwrap F U), (79, s_seal_Wrap F U)]
theorem ok_law5_known : SpecsOK Try.prog (sp_law5_known real us) := sp_cons r_seal_NonceOf k_seal_NonceOf (sp_cons r_seal_Seal k_seal_Seal (sp_cons r_seal_Open k_seal_Open (sp_cons r_seal_Unwrap k_seal_Unwrap (sp_cons r_seal_Wrap k_seal_Wrap sp_nil))))
noncomputable def g_law5_known (F : Fs) (U : Us) : Law
  | [] => some (True, [.val (.kb true)])
  | _ => none
noncomputable def s_law5_known (F : Fs) (U : Us) : Vc.Spec := pureSpec F false [] (g_law5_known F U)
noncomputable def x_law5_known (F : Fs) (U : Us) : Cx := ⟨Try.f68.ntmps, tt F, sp_law5_known F U, [], [(7, ([(1, [0]), (3, [0]), (8, [0, 1, 3, 4])], []))], [], [8]⟩
theorem c_law5_known  : vc real (x_law5_known real us) [] [] (Try.f68.body.getD .skip) ⟨zipSl 0 [], [], 64⟩ (retOk real (tt real) false Try.f68.results.toList [.val (.kb true)]) := by
  generalize hU : us = U
  generalize hF : real = F
  cbv
  repeat' first | apply And.intro | refine Classical.or_iff_not_imp_left.2 (fun _ => ?_) | exact trivial
  all_goals try (subst hF hU; simp only [real, us, Nat.le_eq, Int.cast_ofNat_Int, decide_eq_false_iff_not, decide_eq_true_eq, List.length_take, List.length_drop, List.length_append, List.length_replicate, List.length_set, List.length_cons, List.length_nil, List.length_zipWith] at *; (try simp (disch := omega) only [wrap_sm] at *); omega)
  all_goals first
    | (subst hF hU; exact k5_len)
    | (subst hF hU; exact k6_len)
    | (subst hU; exact nonceLen _ _)
    | (subst hF hU; exact kn_eq)
    | (subst hF hU; exact kg1)
    | (subst hF hU; exact kg2)
    | (subst hF hU; exact kg3)
    | (subst hF hU; exact kg4)
    | (subst hF hU; exact kg5)
    | (subst hF hU; exact kg6)
    | (subst hF hU; exact kg7)
    | (subst hF hU; exact kg8)
    | (subst hF hU; exact kg9)
theorem k_law5_known : SpecOK Try.prog 68 (s_law5_known real us) := by
  refine pure_sound (x := x_law5_known real us) ⟨tt_ok, ok_law5_known, Go.Vc.ks_nil⟩ mixed Try.func68 rfl rfl (by kernel_rfl) ?_
  intro l c rs hg hc
  unfold g_law5_known at hg
  split at hg
  · cases hg; exact ⟨Nat.le_of_ble_eq_true rfl, [], [], c_law5_known ⟩
  · cases hg

end Go.Proofs.Ytmldccfchnlpgaa
set_option linter.unusedVariables false
set_option linter.unusedSimpArgs false
set_option maxRecDepth 100000
set_option maxHeartbeats 1000000
namespace Go.Proofs.Ytmldccfchnlpgaa
open Go Go.Vc
attribute [local irreducible] u_mac u_sum u_mdv u_seal u_nonce u_enc u_tag u_opB u_opE u_wrp u_uwE u_uwK
theorem eqI {x y : Int} (h : x = y) : real.eqi x y = true := by
  subst h
  show (x == x) = true
  simp
theorem eqBy {x y : List UInt8} (h : x = y) : real.eqB x y = true := by subst h; exact eqB_self x
theorem l16t (k n aad c : List UInt8) : real.pLe (real.addn 0 16) (real.lenB (us.tag k n aad c)) := by
  have h : real.lenB (us.tag k n aad c) = 16 := tag_len k n aad c
  rw [h]
  exact Nat.le_refl 16
theorem cutTag (k n aad c : List UInt8) : real.cutB (us.tag k n aad c) 0 16 = us.tag k n aad c := cutAll _ 16 (tag_len k n aad c)
theorem eqb_iff {x y : Bool} (h : x = true ↔ y = true) : real.eqb x y = true := by
  show (x == y) = true
  cases x <;> cases y <;> simp_all
theorem eqi_iff (x y : Int) : real.eqi x y = true ↔ x = y := by
  show (x == y) = true ↔ _
  simp
theorem eq8_iff (x y : UInt8) : real.eq8 x y = true ↔ x = y := by
  show (x == y) = true ↔ _
  simp
theorem a16 (a : UInt8) : real.wrapi (real.toI8 (real.rem8 a (real.ofI8 (real.int 16)))) = real.int (a.toNat % 16) := by
  have e : real.toI8 (real.rem8 a (real.ofI8 (real.int 16))) = ((a.toNat % 16 : Nat) : Int) := by
    show ((a % 16).toNat : Int) = _
    rw [UInt8.toNat_mod]; rfl
  rw [e]
  show IntKind.i64.wrap ((a.toNat % 16 : Nat) : Int) = ((a.toNat % 16 : Nat) : Int)
  rw [wrap_sm (by omega) (by omega)]
theorem ne16 : real.pNe (real.toI8 (real.ofI8 (real.int 16))) := by show ¬ (_ = _); decide
end Go.Proofs.Ytmldccfchnlpgaa
set_option linter.unusedVariables false
set_option linter.unusedSimpArgs false
namespace Go.Vc
open Go Go.RowKit Go.ChangeShapes Go.WideShapes
section
variable {P : Program} {w : World}
/-- a reading of a one-cell type gives such a cell -/
def Elt (P : Program) (w : World) (t : TypeId) {α : Type} (E : α → Value) (q : α → Prop) : Prop :=
  ∀ (H : Type) (enc : TypeId × Value → H) (base : Nat) (sp : Nat → Bool) (held : Bool) (fuel : Nat) (cs : List Value) (x : DataW H × List MemPlace),
    DataW.trod enc P w base sp held fuel t cs = some x → ∃ a, cs = [E a] ∧ q a
theorem u16_arg {a : Int} (h : (Lit.int .u16 a).wf = true) : ∃ x : UInt16, a = (x.toNat : Int) := by
  simp only [Lit.wf, Bool.and_eq_true, decide_eq_true_eq, IntKind.min, IntKind.max] at h
  refine ⟨UInt16.ofNat a.toNat, ?_⟩
  simp [IntKind.signed, IntKind.bits] at h
  rw [UInt16.toNat_ofNat_of_lt' (by simp [UInt16.size]; omega)]
  omega
theorem elt_i64 {t : TypeId} (ht : P.underlying t = some (.int .i64)) : Elt P w t EI (fun n => -9223372036854775808 ≤ n ∧ n ≤ 9223372036854775807) := by
  intro H enc base sp held fuel cs x h
  obtain ⟨n, rfl, _, hw⟩ := DataW.trod_int ht h
  exact ⟨n, rfl, i64_arg hw⟩
theorem elt_bool {t : TypeId} (ht : P.underlying t = some .bool) : Elt P w t Value.bool (fun _ => True) := by
  intro H enc base sp held fuel cs x h
  obtain ⟨n, rfl, _⟩ := DataW.trod_bool ht h
  exact ⟨n, rfl, trivial⟩
theorem elt_str {t : TypeId} (ht : P.underlying t = some .string) : Elt P w t ES (fun s => s.length ≤ 9223372036854775807) := by
  intro H enc base sp held fuel cs x h
  obtain ⟨s, rfl, _, hs⟩ := DataW.trod_string ht h
  refine ⟨s.data.toList, by simp [ES], ?_⟩
  simpa [maxLen] using hs
theorem elt_u8 {t : TypeId} (ht : P.underlying t = some (.int .u8)) : Elt P w t E8 (fun _ => True) := by
  intro H enc base sp held fuel cs x h
  obtain ⟨n, rfl, _, hw⟩ := DataW.trod_int ht h
  obtain ⟨y, hy⟩ := u8_arg hw
  exact ⟨y, by rw [hy], trivial⟩
theorem elt_u16 {t : TypeId} (ht : P.underlying t = some (.int .u16)) : Elt P w t E16 (fun _ => True) := by
  intro H enc base sp held fuel cs x h
  obtain ⟨n, rfl, _, hw⟩ := DataW.trod_int ht h
  obtain ⟨y, hy⟩ := u16_arg hw
  exact ⟨y, by rw [hy], trivial⟩
theorem elt_u32 {t : TypeId} (ht : P.underlying t = some (.int .u32)) : Elt P w t E32 (fun _ => True) := by
  intro H enc base sp held fuel cs x h
  obtain ⟨n, rfl, _, hw⟩ := DataW.trod_int ht h
  obtain ⟨y, hy⟩ := u32_arg hw
  exact ⟨y, by rw [hy], trivial⟩
theorem elt_u64 {t : TypeId} (ht : P.underlying t = some (.int .u64)) : Elt P w t E64 (fun _ => True) := by
  intro H enc base sp held fuel cs x h
  obtain ⟨n, rfl, _, hw⟩ := DataW.trod_int ht h
  obtain ⟨y, hy⟩ := u64_arg hw
  exact ⟨y, by rw [hy], trivial⟩
theorem drop_take_one {α : Type} {l : List α} {a : α} {i : Nat} (h : (l.drop i).take 1 = [a]) : l[i]? = some a := by
  have h1 := congrArg List.head? h
  rw [List.head?_take, if_neg (by decide), List.head?_drop] at h1
  simpa using h1
theorem list_of {α : Type} (E : α → Value) (q : α → Prop) : ∀ cs : List Value, (∀ i, i < cs.length → ∃ x, cs[i]? = some (E x) ∧ q x) → ∃ xs : List α, cs = xs.map E ∧ ∀ x ∈ xs, q x
  | [], _ => ⟨[], rfl, by simp⟩
  | c :: r, h => by
    obtain ⟨x, hx, hq⟩ := h 0 (by simp)
    obtain ⟨xs, hr, hqs⟩ := list_of E q r fun i hi => by
      obtain ⟨x, hx, hq⟩ := h (i + 1) (by simp; omega)
      exact ⟨x, by simpa using hx, hq⟩
    simp only [List.getElem?_cons_zero, Option.some.injEq] at hx
    refine ⟨x :: xs, by simp [hx, hr], fun y hy => ?_⟩
    rcases List.mem_cons.1 hy with rfl | hy
    · exact hq
    · exact hqs y hy
theorem arr_of {α : Type} {E : α → Value} {q : α → Prop} {t e : TypeId} {n : Nat} (ht : P.underlying t = some (.array n e)) (hc : P.cellsOf e = 1) (hn : P.cellsOf t = n) (hE : Elt P w e E q)
    (H : Type) (enc : TypeId × Value → H) (base : Nat) (sp : Nat → Bool) (held : Bool) (fuel : Nat) (cs : List Value) (x : DataW H × List MemPlace)
    (h : DataW.trod enc P w base sp held fuel t cs = some x) : ∃ xs : List α, cs = xs.map E ∧ xs.length = n ∧ ∀ x ∈ xs, q x := by
  obtain ⟨ys, m, rfl, rfl, hl, hyl, hel⟩ := DataW.trod_array ht h
  obtain ⟨xs, rfl, hq⟩ := list_of E q cs fun i hi => by
    have h1 := hel i (by omega)
    rw [List.getElem?_eq_getElem (by omega), hc] at h1
    obtain ⟨a, ha, hq⟩ := hE H enc base sp held m _ _ h1
    exact ⟨a, drop_take_one (by simpa using ha), hq⟩
  exact ⟨xs, rfl, by simpa [hn] using hl, hq⟩
theorem cell_ltO {a : Addr} {v : Value} (h : w.cell? a = some v) : a.block < w.heap.size := by
  unfold World.cell? at h
  split at h
  · rename_i h1; exact (Array.getElem?_eq_some_iff.1 h1).1
  · cases h
theorem stableAtTop {a : Addr} {ds : List Value} (h0 : 0 < ds.length) (h : ∀ j x, ds[j]? = some x → w.cell? (a.add j) = some x) : StableAt mTop w a ds := by
  refine ⟨⟨?_, trivial, .inr fun k v hk => by cases hk⟩, h⟩
  have := cell_ltO (h 0 ds[0] (by simp [h0]))
  rwa [add_block] at this
theorem sl_of {α : Type} {E : α → Value} {q : α → Prop} {t e : TypeId} (ht : P.underlying t = some (.slice e)) (hc : P.cellsOf e = 1) (hE : Elt P w e E q)
    (H : Type) (enc : TypeId × Value → H) (base : Nat) (sp : Nat → Bool) (held : Bool) (fuel : Nat) (cs : List Value) (x : DataW H × List MemPlace)
    (h : DataW.trod enc P w base sp held fuel t cs = some x) :
    ∃ (xs : List α) (ad : Option Addr) (cap : Nat), cs = [.slice ad xs.length cap] ∧ xs.length ≤ cap ∧ xs.length ≤ 9223372036854775807 ∧ (0 < xs.length → ∃ a, ad = some a ∧ StableAt mTop w a (xs.map E)) ∧ ∀ x ∈ xs, q x := by
  rcases DataW.trod_slice ht h with ⟨rfl, _⟩ | ⟨a, len, cap, elems, rest, m, rfl, rfl, rfl, _, hl, hm, hlen, hel, _⟩
  · exact ⟨[], none, 0, rfl, by simp, by simp, by simp, by simp⟩
  · have key : ∀ k, k ≤ len → ∃ xs : List α, xs.length = k ∧ (∀ j x, (xs.map E)[j]? = some x → w.cell? (a.add j) = some x) ∧ ∀ x ∈ xs, q x := by
      intro k
      induction k with
      | zero => exact fun _ => ⟨[], rfl, by simp, by simp⟩
      | succ k ih =>
        intro hk
        obtain ⟨xs, h1, h2, h3⟩ := ih (by omega)
        have h4 := hel k (by omega)
        rw [List.getElem?_eq_getElem (by omega), hc, Nat.mul_one, Option.bind_eq_some_iff] at h4
        obtain ⟨cs', hcs, hy⟩ := h4
        obtain ⟨y, rfl, hq⟩ := hE H enc base sp held m _ _ hy
        have hcell := cell_of_cells?_one hcs
        refine ⟨xs ++ [y], by simp [h1], fun j x hj => ?_, fun x hx => ?_⟩
        · rw [List.map_append, List.getElem?_append] at hj
          split at hj
          · exact h2 j x hj
          · rename_i hlt
            simp only [List.length_map] at hj hlt
            have : j = k := by
              have := (List.getElem?_eq_some_iff.1 hj).1
              simp at this
              omega
            subst this
            simp [h1] at hj
            rw [← hj]; exact hcell
        · rcases List.mem_append.1 hx with hx | hx
          · exact h3 x hx
          · simp at hx; rw [hx]; exact hq
    obtain ⟨xs, h1, h2, h3⟩ := key len (Nat.le_refl _)
    refine ⟨xs, some a, cap, by rw [h1], by omega, by simp [maxLen] at hm; omega, fun h0 => ⟨a, rfl, stableAtTop (by simpa using h0) h2⟩, h3⟩
theorem cells_oneO {v : Value} (h : ∀ cs, v ≠ .agg cs) : v.cells.toList = [v] := by
  unfold Value.cells
  split
  · rename_i cs; exact absurd rfl (h cs)
  · rfl
section
variable {H : Type} {enc : TypeId × Value → H} {base b0 : Nat} {sp : Nat → Bool} {held : Bool} {t e : TypeId} {v : Value} {d : DataW H} {ps : List MemPlace} {r : Reach}
theorem openB (ht : P.underlying t = some .bool) (hval : Value.okWide P w r b0 t v) (hd : DataW.Trod enc P w base sp held t v d ps) : ∃ x, RV mTop w (.b x) v := by
  obtain ⟨n, rfl⟩ := okWide_bool ht hval
  exact ⟨n, by simp [RV, CR]⟩
theorem openI (ht : P.underlying t = some (.int .i64)) (hval : Value.okWide P w r b0 t v) (hd : DataW.Trod enc P w base sp held t v d ps) : ∃ x, RV mTop w (.i x) v ∧ -9223372036854775808 ≤ x ∧ x ≤ 9223372036854775807 := by
  obtain ⟨n, rfl⟩ := okWide_int ht hval
  obtain ⟨fuel, hf⟩ := hd
  rw [cells_oneO (by simp)] at hf
  obtain ⟨a, ha, hq⟩ := elt_i64 ht _ _ _ _ _ _ _ _ hf
  exact ⟨a, by simpa [RV, CR] using ha, hq⟩
theorem openS (ht : P.underlying t = some .string) (hval : Value.okWide P w r b0 t v) (hd : DataW.Trod enc P w base sp held t v d ps) : ∃ x, RV mTop w (.s x) v ∧ x.length ≤ 9223372036854775807 := by
  obtain ⟨n, rfl⟩ := okWide_string ht hval
  obtain ⟨fuel, hf⟩ := hd
  rw [cells_oneO (by simp)] at hf
  obtain ⟨a, ha, hq⟩ := elt_str ht _ _ _ _ _ _ _ _ hf
  exact ⟨a, by simpa [RV, CR] using ha, hq⟩
theorem open8 (ht : P.underlying t = some (.int .u8)) (hval : Value.okWide P w r b0 t v) (hd : DataW.Trod enc P w base sp held t v d ps) : ∃ x, RV mTop w (.w8 x) v := by
  obtain ⟨n, rfl⟩ := okWide_int ht hval
  obtain ⟨fuel, hf⟩ := hd
  rw [cells_oneO (by simp)] at hf
  obtain ⟨a, ha, hq⟩ := elt_u8 ht _ _ _ _ _ _ _ _ hf
  exact ⟨a, by simpa [RV, CR] using ha⟩
theorem open16 (ht : P.underlying t = some (.int .u16)) (hval : Value.okWide P w r b0 t v) (hd : DataW.Trod enc P w base sp held t v d ps) : ∃ x, RV mTop w (.w16 x) v := by
  obtain ⟨n, rfl⟩ := okWide_int ht hval
  obtain ⟨fuel, hf⟩ := hd
  rw [cells_oneO (by simp)] at hf
  obtain ⟨a, ha, hq⟩ := elt_u16 ht _ _ _ _ _ _ _ _ hf
  exact ⟨a, by simpa [RV, CR] using ha⟩
theorem open32 (ht : P.underlying t = some (.int .u32)) (hval : Value.okWide P w r b0 t v) (hd : DataW.Trod enc P w base sp held t v d ps) : ∃ x, RV mTop w (.w32 x) v := by
  obtain ⟨n, rfl⟩ := okWide_int ht hval
  obtain ⟨fuel, hf⟩ := hd
  rw [cells_oneO (by simp)] at hf
  obtain ⟨a, ha, hq⟩ := elt_u32 ht _ _ _ _ _ _ _ _ hf
  exact ⟨a, by simpa [RV, CR] using ha⟩
theorem open64 (ht : P.underlying t = some (.int .u64)) (hval : Value.okWide P w r b0 t v) (hd : DataW.Trod enc P w base sp held t v d ps) : ∃ x, RV mTop w (.w64 x) v := by
  obtain ⟨n, rfl⟩ := okWide_int ht hval
  obtain ⟨fuel, hf⟩ := hd
  rw [cells_oneO (by simp)] at hf
  obtain ⟨a, ha, hq⟩ := elt_u64 ht _ _ _ _ _ _ _ _ hf
  exact ⟨a, by simpa [RV, CR] using ha⟩
theorem openA8 {n : Nat} (ht : P.underlying t = some (.array n e)) (he : P.underlying e = some (.int .u8)) (hc : P.cellsOf e = 1) (hn : P.cellsOf t = n) (hval : Value.okWide P w r b0 t v) (hd : DataW.Trod enc P w base sp held t v d ps) :
    ∃ xs : List UInt8, RV mTop w (.ag n (.bt xs)) v ∧ xs.length = n := by
  obtain ⟨cs, rfl, hcs⟩ : ∃ cs, v = .agg cs ∧ cs.size = P.cellsOf t := by
    simp only [Value.okWide, ht] at hval
    obtain ⟨cs, h1, h2, _⟩ := hval
    exact ⟨cs, h1, h2⟩
  obtain ⟨fuel, hf⟩ := hd
  obtain ⟨xs, h1, h2, hq⟩ := arr_of ht hc hn (elt_u8 he) _ _ _ _ _ _ _ _ hf
  refine ⟨xs, ?_, h2⟩
  simp only [RV]
  have h1 : cs.toList = xs.map E8 := h1
  exact ⟨cs.toList, by simp, by simp [h1, h2], by simpa [RC] using h1⟩
theorem openL8 (ht : P.underlying t = some (.slice e)) (he : P.underlying e = some (.int .u8)) (hc : P.cellsOf e = 1) (hval : Value.okWide P w r b0 t v) (hd : DataW.Trod enc P w base sp held t v d ps) :
    ∃ xs : List UInt8, RV mTop w (.rb 1 (.bt xs)) v ∧ xs.length ≤ 9223372036854775807 := by
  obtain ⟨a, len, cap, rfl⟩ := okWide_slice ht hval
  obtain ⟨fuel, hf⟩ := hd
  rw [cells_oneO (by simp)] at hf
  obtain ⟨xs, ad, cap', h1, h2, h3, h4, hq⟩ := sl_of ht hc (elt_u8 he) _ _ _ _ _ _ _ _ hf
  simp only [List.cons.injEq, and_true, Value.slice.injEq] at h1
  obtain ⟨rfl, rfl, rfl⟩ := h1
  refine ⟨xs, ?_, h3⟩
  simp only [RV, CR]
  exact ⟨_, _, _, xs.map E8, rfl, by simp [RC], by simp, h2, h4⟩
theorem openA16 {n : Nat} (ht : P.underlying t = some (.array n e)) (he : P.underlying e = some (.int .u16)) (hc : P.cellsOf e = 1) (hn : P.cellsOf t = n) (hval : Value.okWide P w r b0 t v) (hd : DataW.Trod enc P w base sp held t v d ps) :
    ∃ xs : List UInt16, RV mTop w (.ag n (.wh xs)) v ∧ xs.length = n := by
  obtain ⟨cs, rfl, hcs⟩ : ∃ cs, v = .agg cs ∧ cs.size = P.cellsOf t := by
    simp only [Value.okWide, ht] at hval
    obtain ⟨cs, h1, h2, _⟩ := hval
    exact ⟨cs, h1, h2⟩
  obtain ⟨fuel, hf⟩ := hd
  obtain ⟨xs, h1, h2, hq⟩ := arr_of ht hc hn (elt_u16 he) _ _ _ _ _ _ _ _ hf
  refine ⟨xs, ?_, h2⟩
  simp only [RV]
  have h1 : cs.toList = xs.map E16 := h1
  exact ⟨cs.toList, by simp, by simp [h1, h2], by simpa [RC] using h1⟩
theorem openL16 (ht : P.underlying t = some (.slice e)) (he : P.underlying e = some (.int .u16)) (hc : P.cellsOf e = 1) (hval : Value.okWide P w r b0 t v) (hd : DataW.Trod enc P w base sp held t v d ps) :
    ∃ xs : List UInt16, RV mTop w (.rb 1 (.wh xs)) v ∧ xs.length ≤ 9223372036854775807 := by
  obtain ⟨a, len, cap, rfl⟩ := okWide_slice ht hval
  obtain ⟨fuel, hf⟩ := hd
  rw [cells_oneO (by simp)] at hf
  obtain ⟨xs, ad, cap', h1, h2, h3, h4, hq⟩ := sl_of ht hc (elt_u16 he) _ _ _ _ _ _ _ _ hf
  simp only [List.cons.injEq, and_true, Value.slice.injEq] at h1
  obtain ⟨rfl, rfl, rfl⟩ := h1
  refine ⟨xs, ?_, h3⟩
  simp only [RV, CR]
  exact ⟨_, _, _, xs.map E16, rfl, by simp [RC], by simp, h2, h4⟩
theorem openA32 {n : Nat} (ht : P.underlying t = some (.array n e)) (he : P.underlying e = some (.int .u32)) (hc : P.cellsOf e = 1) (hn : P.cellsOf t = n) (hval : Value.okWide P w r b0 t v) (hd : DataW.Trod enc P w base sp held t v d ps) :
    ∃ xs : List UInt32, RV mTop w (.ag n (.wd xs)) v ∧ xs.length = n := by
  obtain ⟨cs, rfl, hcs⟩ : ∃ cs, v = .agg cs ∧ cs.size = P.cellsOf t := by
    simp only [Value.okWide, ht] at hval
    obtain ⟨cs, h1, h2, _⟩ := hval
    exact ⟨cs, h1, h2⟩
  obtain ⟨fuel, hf⟩ := hd
  obtain ⟨xs, h1, h2, hq⟩ := arr_of ht hc hn (elt_u32 he) _ _ _ _ _ _ _ _ hf
  refine ⟨xs, ?_, h2⟩
  simp only [RV]
  have h1 : cs.toList = xs.map E32 := h1
  exact ⟨cs.toList, by simp, by simp [h1, h2], by simpa [RC] using h1⟩
theorem openL32 (ht : P.underlying t = some (.slice e)) (he : P.underlying e = some (.int .u32)) (hc : P.cellsOf e = 1) (hval : Value.okWide P w r b0 t v) (hd : DataW.Trod enc P w base sp held t v d ps) :
    ∃ xs : List UInt32, RV mTop w (.rb 1 (.wd xs)) v ∧ xs.length ≤ 9223372036854775807 := by
  obtain ⟨a, len, cap, rfl⟩ := okWide_slice ht hval
  obtain ⟨fuel, hf⟩ := hd
  rw [cells_oneO (by simp)] at hf
  obtain ⟨xs, ad, cap', h1, h2, h3, h4, hq⟩ := sl_of ht hc (elt_u32 he) _ _ _ _ _ _ _ _ hf
  simp only [List.cons.injEq, and_true, Value.slice.injEq] at h1
  obtain ⟨rfl, rfl, rfl⟩ := h1
  refine ⟨xs, ?_, h3⟩
  simp only [RV, CR]
  exact ⟨_, _, _, xs.map E32, rfl, by simp [RC], by simp, h2, h4⟩
theorem openA64 {n : Nat} (ht : P.underlying t = some (.array n e)) (he : P.underlying e = some (.int .u64)) (hc : P.cellsOf e = 1) (hn : P.cellsOf t = n) (hval : Value.okWide P w r b0 t v) (hd : DataW.Trod enc P w base sp held t v d ps) :
    ∃ xs : List UInt64, RV mTop w (.ag n (.ww xs)) v ∧ xs.length = n := by
  obtain ⟨cs, rfl, hcs⟩ : ∃ cs, v = .agg cs ∧ cs.size = P.cellsOf t := by
    simp only [Value.okWide, ht] at hval
    obtain ⟨cs, h1, h2, _⟩ := hval
    exact ⟨cs, h1, h2⟩
  obtain ⟨fuel, hf⟩ := hd
  obtain ⟨xs, h1, h2, hq⟩ := arr_of ht hc hn (elt_u64 he) _ _ _ _ _ _ _ _ hf
  refine ⟨xs, ?_, h2⟩
  simp only [RV]
  have h1 : cs.toList = xs.map E64 := h1
  exact ⟨cs.toList, by simp, by simp [h1, h2], by simpa [RC] using h1⟩
theorem openL64 (ht : P.underlying t = some (.slice e)) (he : P.underlying e = some (.int .u64)) (hc : P.cellsOf e = 1) (hval : Value.okWide P w r b0 t v) (hd : DataW.Trod enc P w base sp held t v d ps) :
    ∃ xs : List UInt64, RV mTop w (.rb 1 (.ww xs)) v ∧ xs.length ≤ 9223372036854775807 := by
  obtain ⟨a, len, cap, rfl⟩ := okWide_slice ht hval
  obtain ⟨fuel, hf⟩ := hd
  rw [cells_oneO (by simp)] at hf
  obtain ⟨xs, ad, cap', h1, h2, h3, h4, hq⟩ := sl_of ht hc (elt_u64 he) _ _ _ _ _ _ _ _ hf
  simp only [List.cons.injEq, and_true, Value.slice.injEq] at h1
  obtain ⟨rfl, rfl, rfl⟩ := h1
  refine ⟨xs, ?_, h3⟩
  simp only [RV, CR]
  exact ⟨_, _, _, xs.map E64, rfl, by simp [RC], by simp, h2, h4⟩
theorem openAI {n : Nat} (ht : P.underlying t = some (.array n e)) (he : P.underlying e = some (.int .i64)) (hc : P.cellsOf e = 1) (hn : P.cellsOf t = n) (hval : Value.okWide P w r b0 t v) (hd : DataW.Trod enc P w base sp held t v d ps) :
    ∃ xs : List Int, RV mTop w (.ag n (.is xs)) v ∧ xs.length = n ∧ ∀ x ∈ xs, -9223372036854775808 ≤ x ∧ x ≤ 9223372036854775807 := by
  obtain ⟨cs, rfl, hcs⟩ : ∃ cs, v = .agg cs ∧ cs.size = P.cellsOf t := by
    simp only [Value.okWide, ht] at hval
    obtain ⟨cs, h1, h2, _⟩ := hval
    exact ⟨cs, h1, h2⟩
  obtain ⟨fuel, hf⟩ := hd
  obtain ⟨xs, h1, h2, hq⟩ := arr_of ht hc hn (elt_i64 he) _ _ _ _ _ _ _ _ hf
  refine ⟨xs, ?_, h2, hq⟩
  simp only [RV]
  have h1 : cs.toList = xs.map EI := h1
  exact ⟨cs.toList, by simp, by simp [h1, h2], by simpa [RC] using h1⟩
theorem openLI (ht : P.underlying t = some (.slice e)) (he : P.underlying e = some (.int .i64)) (hc : P.cellsOf e = 1) (hval : Value.okWide P w r b0 t v) (hd : DataW.Trod enc P w base sp held t v d ps) :
    ∃ xs : List Int, RV mTop w (.rb 1 (.is xs)) v ∧ xs.length ≤ 9223372036854775807 ∧ ∀ x ∈ xs, -9223372036854775808 ≤ x ∧ x ≤ 9223372036854775807 := by
  obtain ⟨a, len, cap, rfl⟩ := okWide_slice ht hval
  obtain ⟨fuel, hf⟩ := hd
  rw [cells_oneO (by simp)] at hf
  obtain ⟨xs, ad, cap', h1, h2, h3, h4, hq⟩ := sl_of ht hc (elt_i64 he) _ _ _ _ _ _ _ _ hf
  simp only [List.cons.injEq, and_true, Value.slice.injEq] at h1
  obtain ⟨rfl, rfl, rfl⟩ := h1
  refine ⟨xs, ?_, h3, hq⟩
  simp only [RV, CR]
  exact ⟨_, _, _, xs.map EI, rfl, by simp [RC], by simp, h2, h4⟩
theorem openAS {n : Nat} (ht : P.underlying t = some (.array n e)) (he : P.underlying e = some (.string)) (hc : P.cellsOf e = 1) (hn : P.cellsOf t = n) (hval : Value.okWide P w r b0 t v) (hd : DataW.Trod enc P w base sp held t v d ps) :
    ∃ xs : List (List UInt8), RV mTop w (.ag n (.ss xs)) v ∧ xs.length = n ∧ ∀ x ∈ xs, x.length ≤ 9223372036854775807 := by
  obtain ⟨cs, rfl, hcs⟩ : ∃ cs, v = .agg cs ∧ cs.size = P.cellsOf t := by
    simp only [Value.okWide, ht] at hval
    obtain ⟨cs, h1, h2, _⟩ := hval
    exact ⟨cs, h1, h2⟩
  obtain ⟨fuel, hf⟩ := hd
  obtain ⟨xs, h1, h2, hq⟩ := arr_of ht hc hn (elt_str he) _ _ _ _ _ _ _ _ hf
  refine ⟨xs, ?_, h2, hq⟩
  simp only [RV]
  have h1 : cs.toList = xs.map ES := h1
  exact ⟨cs.toList, by simp, by simp [h1, h2], by simpa [RC] using h1⟩
theorem openLS (ht : P.underlying t = some (.slice e)) (he : P.underlying e = some (.string)) (hc : P.cellsOf e = 1) (hval : Value.okWide P w r b0 t v) (hd : DataW.Trod enc P w base sp held t v d ps) :
    ∃ xs : List (List UInt8), RV mTop w (.rb 1 (.ss xs)) v ∧ xs.length ≤ 9223372036854775807 ∧ ∀ x ∈ xs, x.length ≤ 9223372036854775807 := by
  obtain ⟨a, len, cap, rfl⟩ := okWide_slice ht hval
  obtain ⟨fuel, hf⟩ := hd
  rw [cells_oneO (by simp)] at hf
  obtain ⟨xs, ad, cap', h1, h2, h3, h4, hq⟩ := sl_of ht hc (elt_str he) _ _ _ _ _ _ _ _ hf
  simp only [List.cons.injEq, and_true, Value.slice.injEq] at h1
  obtain ⟨rfl, rfl, rfl⟩ := h1
  refine ⟨xs, ?_, h3, hq⟩
  simp only [RV, CR]
  exact ⟨_, _, _, xs.map ES, rfl, by simp [RC], by simp, h2, h4⟩
end
theorem rvs_cons {m : Hd} {a : AV} {v : Value} {l : List AV} {vs : List Value} (h : RV m w a v) (hs : RVs m w l vs) : RVs m w (a :: l) (v :: vs) := ⟨v, vs, rfl, h, hs⟩
theorem rvs_nil {m : Hd} : RVs m w [] [] := rfl
/-! ## A law's end -/
theorem trodAll_stays {H : Type} {enc : TypeId × Value → H} {W W' : World} (hl : laidOutB P = true) (hb : Below W.heap.size W W') :
    ∀ {ts : List TypeId} {vs : List Value} {ds : List (DataW H)} {ps : List MemPlace}, (ts.all fun t => P.readableRec t && decide (t < P.types.size)) = true →
      DataW.TrodAll enc P W 0 (fun _ => true) true ts vs ds ps → DataW.TrodAll enc P W' 0 (fun b => decide (b < W.heap.size)) true ts vs ds ps
  | [], [], [], _, _, h => h
  | t :: ts, v :: vs, d :: ds, ps, hr, h => by
    have hlt := h.lt
    obtain ⟨p, q, h1, h2, rfl⟩ := h
    simp only [List.all_cons, Bool.and_eq_true, decide_eq_true_eq] at hr
    exact ⟨p, q, Below.trod hl hr.1.1 hr.1.2 h1 hb fun x hx => hlt x (List.mem_append_left _ hx), trodAll_stays hl hb hr.2 h2, rfl⟩
  | [], [], _ :: _, _, _, h => h.elim
  | [], _ :: _, _, _, _, h => h.elim
  | _ :: _, [], _, _, _, h => h.elim
  | _ :: _, _ :: _, [], _, _, h => h.elim
theorem post_true {H : Type} {enc : TypeId × Value → H} {f : Func} {s : ChangeSpec} {W W' : World} {args : Array Value} {ds gs : List (DataW H)} {before : List MemPlace} {tb : TypeId}
    (hl : laidOutB P = true) (hr : (f.params.toList.all fun t => P.readableRec t && decide (t < P.types.size)) = true) (hrt : f.resultTypes = #[tb]) (hb : P.underlying tb = some .bool) (hsv : s.vars = [])
    (hW : DataW.Whole enc P f.params.toList s.vars false W args.toList ds gs before) (hfn : s.fn H (ds ++ []) = ⟨[.lit (.bool true)], ds, []⟩) (hk : Below W.heap.size W W') :
    s.post enc P f false true false false W args (.bool true) W' := by
  have hW' := hW
  obtain ⟨p, q, hA, hV, rfl, _, _⟩ := hW
  rw [hsv] at hV
  obtain ⟨rfl, rfl⟩ := trodVars_none hV
  refine ⟨ds, [], _, [], p, [], hW', ?_, ?_, ?_, hk.frame _, fun h => by cases h⟩
  · rw [hfn, hrt]
    exact trodAll_mk1 (shut_bool hb _)
  · rw [hfn]
    exact trodAll_stays hl hk hr hA
  · rw [hfn, hsv]
    rfl
/-- a law's walk, from the conditions of its code -/
theorem law_walk2 {x : Cx} {an cu : Anns} (hx : XOK P x) (hmx : P.follows .mixedOrders = true) {f : Nat} {fn : Func} {body : Code} (hf : P.funcs[f]? = some fn) (hbd : fn.body = some body) (hn : fn.ntmps = x.nt) (hdr : drawsOk x.tt x.dr body = true)
    {l : List AV} {vals : List Value} {w : World} (hsh : w.ShapedOpen P) (hl : llen l ≤ x.nt) (hv : RVs mTop w l vals) (hvc : vc real x an cu body ⟨zipSl 0 l, [], 64⟩ (retOk real x.tt false fn.results.toList [.val (.b true)])) :
    Calls P f vals.toArray w fun e w' => e = .returned (.bool true) ∧ Below w.heap.size w w' := by
  have hlen := RVs_length hv
  rw [llen_eq] at hl
  let E : Env := ⟨w, [], fun _ => True, none, [], fun _ => False⟩
  have hr : StR E x.nt ⟨zipSl 0 l, [], 64⟩ mTop { tmps := vals.toArray ++ Array.replicate (fn.ntmps - vals.toArray.size) undef, defers := [] } w :=
    ⟨entry_sl hv _, ⟨fun k ab h => (by cases h), fun k k' ab ab' v v' b h => (by cases h), fun b h => h.elim, fun k ab v b h => (by cases h), fun k ab v b h => (by cases h), fun _ _ => trivial⟩, fun k v b hk => (by cases hk), fun k _ => rfl, (by simp; omega), rfl,
      ⟨rfl, rfl, rfl, Nat.le_refl _, rfl, fun _ _ _ => rfl, fun k v b hk => (by cases hk), fun m0 w1 he => (by cases he), fun j v hj => (by cases hj), fun b h => h.elim, fun b h => h.elim⟩⟩
  have hE : GE P E := ⟨w, hsh, fun g o h1 h2 => ⟨(Array.getElem?_eq_some_iff.1 h2).1, fun h => (by cases h), trivial, h2⟩⟩
  refine calls_of_wp hf hbd (code_mono (vc_sound hx hE (fun j v hj => (by cases hj)) (.inl rfl) hmx body _ _ hdr hvc _ _ w hr) ?_)
  intro en a w' hp
  refine ends_sound hx.tt (fun l vs s' m1 w1 k1 k2 k3 => ?_) hp
  cases l with
  | nil => simp [retM] at k2
  | cons b r =>
    cases r with
    | cons c r => simp [retM, AV.nk] at k2
    | nil =>
      simp only [retM, AV.nk, and_true] at k2
      simp only [RVs] at k1
      obtain ⟨v, q, rfl, h1, rfl⟩ := k1
      have := RV_le b (.b true) v k2 (fun h => by cases h) h1
      simp only [RV, CR, List.cons.injEq, and_true] at this
      subst this
      exact ⟨rfl, k3.fr.os, k3.fr.tape, k3.fr.output, k3.fr.size, fun b hb => k3.fr.block b hb (fun h => by cases h)⟩
end
end Go.Vc
set_option linter.unusedVariables false
set_option linter.unusedSimpArgs false
namespace Go.Vc
open Go Go.RowKit Go.ChangeShapes Go.WideShapes
/-! ## What is handed, opened by the shape of its type -/
section
variable (P : Program)
mutual
/-- a type of this shape -/
def ShT : Sh → TypeId → Prop
  | .i, t => P.underlying t = some (.int .i64)
  | .w8, t => P.underlying t = some (.int .u8)
  | .w32, t => P.underlying t = some (.int .u32)
  | .w64, t => P.underlying t = some (.int .u64)
  | .b, t => P.underlying t = some .bool
  | .s, t => P.underlying t = some .string
  | .l8 n, t => ∃ e, P.underlying t = some (.array n e) ∧ P.underlying e = some (.int .u8) ∧ P.cellsOf e = 1 ∧ P.cellsOf t = n
  | .ss, t => ∃ e, P.underlying t = some (.slice e) ∧ P.underlying e = some .string ∧ P.cellsOf e = 1
  | .bs, t => ∃ e, P.underlying t = some (.slice e) ∧ P.underlying e = some (.int .u8) ∧ P.cellsOf e = 1
  | .t l, t => ∃ fs, P.underlying t = some (.struct fs) ∧ P.cellsOf t = Sh.lcells l ∧ ShTs l fs.toList 0
  | .sl sh, t => ∃ e, P.underlying t = some (.slice e) ∧ P.cellsOf e = sh.cells ∧ 0 < sh.cells ∧ ShT sh e
def ShTs : List Sh → List Field → Nat → Prop
  | [], [], _ => True
  | a :: l, f :: fs, o => f.offset = o ∧ P.cellsOf f.type = a.cells ∧ ShT a f.type ∧ ShTs l fs (o + a.cells)
  | _, _, _ => False
end
end
mutual
/-- data of this shape, within a machine's bounds -/
def DF : Sh → D → Prop
  | .i, d => ∃ n, d = .i n ∧ -9223372036854775808 ≤ n ∧ n ≤ 9223372036854775807
  | .w8, d => ∃ x, d = .w8 x
  | .w32, d => ∃ x, d = .w32 x
  | .w64, d => ∃ x, d = .w64 x
  | .b, d => ∃ x, d = .b x
  | .s, d => ∃ x, d = .s x ∧ x.length ≤ 9223372036854775807
  | .l8 n, d => ∃ x, d = .l8 x ∧ x.length = n
  | .ss, d => ∃ x, d = .ss x ∧ x.length ≤ 9223372036854775807 ∧ ∀ y ∈ x, y.length ≤ 9223372036854775807
  | .bs, d => ∃ x, d = .l8 x ∧ x.length ≤ 9223372036854775807
  | .t l, d => ∃ ds, d = .t ds ∧ DFs l ds
  | .sl sh, d => ∃ ds, d = .t ds ∧ ds.length ≤ 9223372036854775807 ∧ ∀ x, x ∈ ds → DF sh x
def DFs : List Sh → List D → Prop
  | [], [] => True
  | a :: l, d :: ds => DF a d ∧ DFs l ds
  | _, _ => False
end
section
variable {P : Program} {w : World}
theorem sl_sh {sh : Sh} {t e : TypeId} (ht : P.underlying t = some (.slice e)) (hc : P.cellsOf e = sh.cells) (h0 : 0 < sh.cells)
    (hE : ∀ (H : Type) (enc : TypeId × Value → H) (base : Nat) (sp : Nat → Bool) (held : Bool) (fuel : Nat) (cs : List Value) (x : DataW H × List MemPlace), DataW.trod enc P w base sp held fuel e cs = some x → ∃ d, DF sh d ∧ DR mTop w sh d cs)
    (H : Type) (enc : TypeId × Value → H) (base : Nat) (sp : Nat → Bool) (held : Bool) (fuel : Nat) (cs : List Value) (x : DataW H × List MemPlace)
    (h : DataW.trod enc P w base sp held fuel t cs = some x) :
    ∃ (ds : List D) (ad : Option Addr) (cap : Nat) (css : List (List Value)), cs = [.slice ad ds.length cap] ∧ ds.length ≤ cap ∧ ds.length ≤ 9223372036854775807 ∧ css.length = ds.length ∧
      (∀ (j : Nat) (x : List Value) (y : D), css[j]? = some x → ds[j]? = some y → x.length = sh.cells ∧ DR mTop w sh y x) ∧ css.flatten.length = ds.length * sh.cells ∧ (0 < ds.length → ∃ a, ad = some a ∧ StableAt mTop w a css.flatten) ∧ ∀ x, x ∈ ds → DF sh x := by
  rcases DataW.trod_slice ht h with ⟨rfl, _⟩ | ⟨a, len, cap, elems, rest, m, rfl, rfl, rfl, _, hl, hm, hlen, hel, _⟩
  · exact ⟨[], none, 0, [], rfl, by simp, by simp, rfl, by simp, by simp, by simp, by simp⟩
  · have key : ∀ k, k ≤ len → ∃ (ds : List D) (css : List (List Value)), ds.length = k ∧ css.length = k ∧ (∀ (j : Nat) (x : List Value), css[j]? = some x → x.length = sh.cells) ∧ (∀ (j : Nat) (x : List Value) (y : D), css[j]? = some x → ds[j]? = some y → DR mTop w sh y x) ∧
        (∀ (j : Nat) x, css.flatten[j]? = some x → w.cell? (a.add j) = some x) ∧ ∀ x, x ∈ ds → DF sh x := by
      intro k
      induction k with
      | zero => exact fun _ => ⟨[], [], rfl, rfl, by simp, by simp, by simp, by simp⟩
      | succ k ih =>
        intro hk
        obtain ⟨ds, css, h1, h2, h3, h4, h5, h6⟩ := ih (by omega)
        have h7 := hel k (by omega)
        rw [List.getElem?_eq_getElem (by omega), hc, Option.bind_eq_some_iff] at h7
        obtain ⟨cs', hcs, hy⟩ := h7
        obtain ⟨d, hd1, hd2⟩ := hE H enc base sp held m _ _ hy
        have hdl := DR_len sh d cs' hd2
        obtain ⟨_, hn, hcell⟩ := World.cells?_some hcs
        have hfl := flat_len h3
        refine ⟨ds ++ [d], css ++ [cs'], by simp [h1], by simp [h2], fun j x hj => ?_, fun j x y hj hj' => ?_, fun j x hj => ?_, fun x hx => ?_⟩
        · rw [List.getElem?_append] at hj
          split at hj
          · exact h3 j x hj
          · have := List.mem_of_getElem? hj
            simp at this; rw [this]; exact hdl
        · rw [List.getElem?_append] at hj hj'
          rw [h2] at hj
          rw [h1] at hj'
          by_cases hlt : j < k
          · rw [if_pos hlt] at hj hj'
            exact h4 j x y hj hj'
          · rw [if_neg hlt] at hj hj'
            have e1 := List.mem_of_getElem? hj
            have e2 := List.mem_of_getElem? hj'
            simp at e1 e2
            rw [e1, e2]; exact hd2
        · rw [List.flatten_append, List.getElem?_append] at hj
          split at hj
          · exact h5 j x hj
          · rename_i hlt
            rw [hfl, h2] at hj hlt
            simp only [List.flatten_cons, List.flatten_nil, List.append_nil] at hj
            have hjl := (List.getElem?_eq_some_iff.1 hj).1
            have := hcell (j - k * sh.cells) (by omega)
            rw [hj, add_add_at, show k * sh.cells + (j - k * sh.cells) = j by omega] at this
            exact this
        · rcases List.mem_append.1 hx with hx | hx
          · exact h6 x hx
          · simp at hx; rw [hx]; exact hd1
    obtain ⟨ds, css, h1, h2, h3, h4, h5, h6⟩ := key len (Nat.le_refl _)
    have hfl := flat_len h3
    refine ⟨ds, some a, cap, css, by rw [h1], by omega, by simp [maxLen] at hm; omega, by omega, fun j x y hx hy => ⟨h3 j x hx, h4 j x y hx hy⟩, by rw [hfl, h2, h1], fun hn => ⟨a, rfl, stableAtTop ?_ h5⟩, h6⟩
    rw [hfl, h2]
    exact Nat.mul_pos (by omega) h0
mutual
theorem elt_sh : ∀ (sh : Sh) (t : TypeId), ShT P sh t → ∀ (H : Type) (enc : TypeId × Value → H) (base : Nat) (sp : Nat → Bool) (held : Bool) (fuel : Nat) (cs : List Value) (x : DataW H × List MemPlace),
    DataW.trod enc P w base sp held fuel t cs = some x → ∃ d, DF sh d ∧ DR mTop w sh d cs
  | .i, t, ht, H, enc, base, sp, held, fuel, cs, x, h => by
    obtain ⟨a, rfl, hq⟩ := elt_i64 (w := w) ht _ _ _ _ _ _ _ _ h
    exact ⟨.i a, ⟨a, rfl, hq⟩, by simp [DR, D.gi]⟩
  | .w8, t, ht, H, enc, base, sp, held, fuel, cs, x, h => by
    obtain ⟨a, rfl, hq⟩ := elt_u8 (w := w) ht _ _ _ _ _ _ _ _ h
    exact ⟨.w8 a, ⟨a, rfl⟩, by simp [DR, D.g8]⟩
  | .w32, t, ht, H, enc, base, sp, held, fuel, cs, x, h => by
    obtain ⟨a, rfl, hq⟩ := elt_u32 (w := w) ht _ _ _ _ _ _ _ _ h
    exact ⟨.w32 a, ⟨a, rfl⟩, by simp [DR, D.g32]⟩
  | .w64, t, ht, H, enc, base, sp, held, fuel, cs, x, h => by
    obtain ⟨a, rfl, hq⟩ := elt_u64 (w := w) ht _ _ _ _ _ _ _ _ h
    exact ⟨.w64 a, ⟨a, rfl⟩, by simp [DR, D.g64]⟩
  | .b, t, ht, H, enc, base, sp, held, fuel, cs, x, h => by
    obtain ⟨a, rfl, hq⟩ := elt_bool (w := w) ht _ _ _ _ _ _ _ _ h
    exact ⟨.b a, ⟨a, rfl⟩, by simp [DR, D.gb]⟩
  | .s, t, ht, H, enc, base, sp, held, fuel, cs, x, h => by
    obtain ⟨a, rfl, hq⟩ := elt_str (w := w) ht _ _ _ _ _ _ _ _ h
    exact ⟨.s a, ⟨a, rfl, hq⟩, by simp [DR, D.gs]⟩
  | .l8 n, t, ht, H, enc, base, sp, held, fuel, cs, x, h => by
    obtain ⟨e, h1, h2, h3, h4⟩ := ht
    obtain ⟨xs, rfl, hl, _⟩ := arr_of (w := w) h1 h3 h4 (elt_u8 h2) _ _ _ _ _ _ _ _ h
    exact ⟨.l8 xs, ⟨xs, rfl, hl⟩, by simp [DR, D.gl8, hl]⟩
  | .ss, t, ht, H, enc, base, sp, held, fuel, cs, x, h => by
    obtain ⟨e, h1, h2, h3⟩ := ht
    obtain ⟨xs, ad, cap, rfl, h4, h5, h6, h7⟩ := sl_of (w := w) h1 h3 (elt_str h2) _ _ _ _ _ _ _ _ h
    exact ⟨.ss xs, ⟨xs, rfl, h5, h7⟩, by simp only [DR, D.gss]; exact ⟨ad, _, cap, _, rfl, rfl, by simp, h4, h6⟩⟩
  | .bs, t, ht, H, enc, base, sp, held, fuel, cs, x, h => by
    obtain ⟨e, h1, h2, h3⟩ := ht
    obtain ⟨xs, ad, cap, rfl, h4, h5, h6, h7⟩ := sl_of (w := w) h1 h3 (elt_u8 h2) _ _ _ _ _ _ _ _ h
    exact ⟨.l8 xs, ⟨xs, rfl, h5⟩, by simp only [DR, D.gl8]; exact ⟨ad, _, cap, _, rfl, rfl, by simp, h4, h6⟩⟩
  | .t l, t, ht, H, enc, base, sp, held, fuel, cs, x, h => by
    obtain ⟨fs, h1, h2, h3⟩ := ht
    obtain ⟨xs, n, rfl, rfl, hl, hlen, hf⟩ := DataW.trod_struct h1 h
    obtain ⟨ds, g1, g2⟩ := elts_sh l fs.toList 0 h3 H enc base sp held n cs (fun i f hi => by
      have hi' : fs[i]? = some f := by simpa using hi
      have := hf i f hi'
      have hif := (Array.getElem?_eq_some_iff.1 hi').1
      exact ⟨xs[i]'(by omega), by rw [this, List.getElem?_eq_getElem (by omega)]⟩)
    refine ⟨.t ds, ⟨ds, rfl, g1⟩, ?_⟩
    have := g2 (.t ds) 0 (fun i => by simp [D.fld, D.gt])
    rw [List.drop_zero, List.take_of_length_le (by omega)] at this
    simpa only [DR] using this
  | .sl sh, t, ht, H, enc, base, sp, held, fuel, cs, x, h => by
    obtain ⟨e, h1, h2, h3, h4⟩ := ht
    obtain ⟨ds, ad, cap, css, rfl, g1, g2, g3, g4, g5, g6, g7⟩ := sl_sh (w := w) h1 h2 h3 (elt_sh sh e h4) _ _ _ _ _ _ _ _ h
    refine ⟨.t ds, ⟨ds, rfl, g2, g7⟩, ?_⟩
    simp only [DR, D.gt]
    exact ⟨ad, _, cap, _, rfl, ⟨css, g3, rfl, g4⟩, g5, g1, g6⟩
theorem elts_sh : ∀ (l : List Sh) (fs : List Field) (o : Nat), ShTs P l fs o → ∀ (H : Type) (enc : TypeId × Value → H) (base : Nat) (sp : Nat → Bool) (held : Bool) (fuel : Nat) (cs : List Value),
    (∀ (i : Nat) (f : Field), fs[i]? = some f → ∃ y, DataW.trod enc P w base sp held fuel f.type ((cs.drop f.offset).take (P.cellsOf f.type)) = some y) →
    ∃ ds, DFs l ds ∧ ∀ (d : D) (j0 : Nat), (∀ i, d.fld (j0 + i) = ds.getD i D.no) → DRs mTop w l d j0 ((cs.drop o).take (Sh.lcells l))
  | [], fs, o, ht, H, enc, base, sp, held, fuel, cs, h => ⟨[], by simp [DFs], fun d j0 _ => by simp [DRs, Sh.lcells]⟩
  | a :: l, fs, o, ht, H, enc, base, sp, held, fuel, cs, h => by
    cases fs with
    | nil => exact (show False from ht).elim
    | cons f fs =>
      obtain ⟨h1, h2, h3, h4⟩ := ht
      obtain ⟨y, hy⟩ := h 0 f rfl
      rw [h1, h2] at hy
      obtain ⟨d, g1, g2⟩ := elt_sh a f.type h3 H enc base sp held fuel _ _ hy
      obtain ⟨ds, k1, k2⟩ := elts_sh l fs (o + a.cells) h4 H enc base sp held fuel cs (fun i f' hi => h (i + 1) f' (by simpa using hi))
      refine ⟨d :: ds, ⟨g1, k1⟩, fun d0 j0 hd => ?_⟩
      simp only [DRs, Sh.lcells]
      refine ⟨(cs.drop o).take a.cells, (cs.drop (o + a.cells)).take (Sh.lcells l), ?_, ?_, ?_⟩
      · rw [List.take_add, List.drop_drop]
      · have := hd 0
        rw [Nat.add_zero] at this
        rw [this]; exact g2
      · refine k2 d0 (j0 + 1) (fun i => ?_)
        have := hd (i + 1)
        rw [show j0 + 1 + i = j0 + (i + 1) by omega, this]
        simp
end
section
variable {H : Type} {enc : TypeId × Value → H} {base b0 : Nat} {sp : Nat → Bool} {held : Bool} {t e : TypeId} {v : Value} {d : DataW H} {ps : List MemPlace} {r : Reach}
/-- a slice of elements of a shape -/
theorem openLD {sh : Sh} (ht : P.underlying t = some (.slice e)) (hc : P.cellsOf e = sh.cells) (h0 : 0 < sh.cells) (hs : ShT P sh e) (hval : Value.okWide P w r b0 t v) (hd : DataW.Trod enc P w base sp held t v d ps) :
    ∃ xs : List D, RV mTop w (.rb sh.cells (.ds sh xs)) v ∧ xs.length ≤ 9223372036854775807 ∧ ∀ x ∈ xs, DF sh x := by
  obtain ⟨a, len, cap, rfl⟩ := okWide_slice ht hval
  obtain ⟨fuel, hf⟩ := hd
  rw [cells_oneO (by simp)] at hf
  obtain ⟨ds, ad, cap', css, h1, h2, h3, h4, h5, h6, h7, h8⟩ := sl_sh (w := w) ht hc h0 (elt_sh sh e hs) _ _ _ _ _ _ _ _ hf
  simp only [List.cons.injEq, and_true, Value.slice.injEq] at h1
  obtain ⟨rfl, rfl, rfl⟩ := h1
  refine ⟨ds, ?_, h3, h8⟩
  simp only [RV, CR]
  exact ⟨_, _, _, css.flatten, rfl, by simp only [RC]; exact ⟨css, h4, rfl, h5⟩, h6, h2, h7⟩
end
end
end Go.Vc
set_option linter.unusedVariables false
namespace Go.Vc
open Go Go.RowKit
/-- the closed facts of a row: what is asked of the whole program is handed in, the rest goes by reckoning -/
theorem joined_of {P : Program} {f : FuncId} {fn : Func} {s : ChangeSpec} {c : OpenClaim} (p1 : laidOutB P = true) (p2 : mapsRowed P = true) (p6 : P.stops = []) (p8 : P.stopKnobs = []) (p24 : P.stopsHeard = true) (p25 : P.mayEnter = true) (p26 : P.liftsFinal = false) (p27 : P.make = some .cut) (c26 : c.lifted = false) (c27 : c.make = .cut) (h0 : (c.wf (OpenSpec.ofChange s)) = true) (h3 : (fn.params.all (P.readableRec ·)) = true) (h4 : (namedTie P c.named s.vars) = true) (h5 : ((c.stops == [])) = true) (h7 : ((c.knobs == [])) = true) (h9 : ((c.inPlace == P.inPlace f)) = true) (h10 : ((c.unfollowed == P.unfollowed f)) = true) (h11 : ((c.recurses == P.recurses f)) = true) (h12 : ((c.named == P.varsNamed f)) = true) (h13 : ((c.maps == (fn.params.toList ++ s.plain.varTypes P).any (P.mapsRec ·))) = true) (h14 : ((c.ifaces == (fn.params.toList ++ s.plain.varTypes P).any (P.ifacesRec ·))) = true) (h15 : ((c.mapsOut == P.mapsAmong fn.resultTypes.toList)) = true) (h16 : ((c.loops == (fn.params.toList ++ s.plain.varTypes P).any (P.loopsFrom ·))) = true) (h17 : ((c.wideKeys == (fn.params.toList ++ s.plain.varTypes P ++ fn.resultTypes.toList).any (P.wideKeysFrom ·))) = true) (h18 : (s.vars.all (P.varReadable ·)) = true) (h19 : (fn.resultTypes.all (fun t => P.readableRec t && decide (t < P.types.size))) = true) (h20 : ((c.ifacesOut == fn.resultTypes.toList.any (P.ifacesRec ·))) = true) (h21 : ((c.loopsOut == fn.resultTypes.toList.any (P.loopsFrom ·))) = true) (h22 : ((c.plainKeys == P.plainKeys)) = true) (h23 : (c.shortTexts.isNone) = true) (h28 : ((c.kinds == (if c.domain.isEmpty then [] else fn.params.toList.map fun t => match P.underlying t with | some (.int k) => some k | _ => none))) = true) (h29 : ((c.pinned == c.pinnedBy)) = true) (h30 : ((c.veiled == (fn.params.toList ++ s.plain.varTypes P ++ fn.resultTypes.toList).any (P.veiledRec ·))) = true) (h31 : (c.veiledFits P fn.params.toList (fn.params.toList ++ s.plain.varTypes P ++ fn.resultTypes.toList)) = true) : joinedFacts P f fn s c = true := by
  unfold joinedFacts
  exact Bool.and_eq_true_iff.2 ⟨Bool.and_eq_true_iff.2 ⟨Bool.and_eq_true_iff.2 ⟨Bool.and_eq_true_iff.2 ⟨Bool.and_eq_true_iff.2 ⟨Bool.and_eq_true_iff.2 ⟨Bool.and_eq_true_iff.2 ⟨Bool.and_eq_true_iff.2 ⟨Bool.and_eq_true_iff.2 ⟨Bool.and_eq_true_iff.2 ⟨Bool.and_eq_true_iff.2 ⟨Bool.and_eq_true_iff.2 ⟨Bool.and_eq_true_iff.2 ⟨Bool.and_eq_true_iff.2 ⟨Bool.and_eq_true_iff.2 ⟨Bool.and_eq_true_iff.2 ⟨Bool.and_eq_true_iff.2 ⟨Bool.and_eq_true_iff.2 ⟨Bool.and_eq_true_iff.2 ⟨Bool.and_eq_true_iff.2 ⟨Bool.and_eq_true_iff.2 ⟨Bool.and_eq_true_iff.2 ⟨Bool.and_eq_true_iff.2 ⟨Bool.and_eq_true_iff.2 ⟨Bool.and_eq_true_iff.2 ⟨Bool.and_eq_true_iff.2 ⟨Bool.and_eq_true_iff.2 ⟨Bool.and_eq_true_iff.2 ⟨Bool.and_eq_true_iff.2 ⟨Bool.and_eq_true_iff.2 ⟨Bool.and_eq_true_iff.2 ⟨h0, p1⟩, p2⟩, h3⟩, h4⟩, h5⟩, (by rw [p6]; rfl)⟩, h7⟩, (by rw [p8]; rfl)⟩, h9⟩, h10⟩, h11⟩, h12⟩, h13⟩, h14⟩, h15⟩, h16⟩, h17⟩, h18⟩, h19⟩, h20⟩, h21⟩, h22⟩, h23⟩, p24⟩, p25⟩, (by rw [c26, p26]; rfl)⟩, (by rw [c27, p27]; rfl)⟩, h28⟩, h29⟩, h30⟩, h31⟩
end Go.Vc
set_option maxRecDepth 100000
namespace Go.Proofs.Ytmldccfchnlpgaa
open Go
/-- a sign by its number -/
abbrev kc (n : Nat) : Char := Char.ofNat n
theorem io_eq : Try.prog.initOrder = String.ofList [kc 104, kc 97, kc 114, kc 110, kc 101, kc 115, kc 115, kc 32, kc 97, kc 56, kc 50, kc 99, kc 49, kc 50, kc 50, kc 98, kc 48, kc 49, kc 102, kc 102, kc 56, kc 56, kc 99, kc 49, kc 51, kc 100, kc 97, kc 56, kc 53, kc 55, kc 54, kc 100, kc 56, kc 54, kc 52, kc 48, kc 102, kc 97, kc 48, kc 100, kc 54, kc 52, kc 57, kc 54, kc 50, kc 100, kc 54, kc 48, kc 48, kc 54, kc 98, kc 55, kc 101, kc 97, kc 53, kc 99, kc 98, kc 50, kc 97, kc 100, kc 98, kc 50, kc 49, kc 49, kc 56, kc 97, kc 48, kc 48, kc 48, kc 99, kc 48, kc 48, kc 32, kc 99, kc 117, kc 116, kc 32, kc 97, kc 116, kc 32, kc 115, kc 97, kc 99, kc 114, kc 105, kc 115, kc 116, kc 121, kc 47, kc 115, kc 97, kc 99, kc 114, kc 105, kc 115, kc 116, kc 121, kc 108, kc 97, kc 119, kc 52, kc 46, kc 83, kc 116, kc 114, kc 101, kc 97, kc 109, kc 84, kc 101, kc 108, kc 108, kc 115, kc 32, kc 115, kc 97, kc 99, kc 114, kc 105, kc 115, kc 116, kc 121, kc 47, kc 115, kc 97, kc 99, kc 114, kc 105, kc 115, kc 116, kc 121, kc 108, kc 97, kc 119, kc 50, kc 46, kc 83, kc 104, kc 97, kc 84, kc 101, kc 108, kc 108, kc 115, kc 32, kc 115, kc 97, kc 99, kc 114, kc 105, kc 115, kc 116, kc 121, kc 47, kc 115, kc 97, kc 99, kc 114, kc 105, kc 115, kc 116, kc 121, kc 108, kc 97, kc 119, kc 50, kc 46, kc 83, kc 104, kc 97, kc 72, kc 101, kc 120, kc 32, kc 115, kc 97, kc 99, kc 114, kc 105, kc 115, kc 116, kc 121, kc 47, kc 115, kc 97, kc 99, kc 114, kc 105, kc 115, kc 116, kc 121, kc 108, kc 97, kc 119, kc 50, kc 46, kc 83, kc 104, kc 97, kc 67, kc 104, kc 97, kc 105, kc 110, kc 115, kc 32, kc 115, kc 97, kc 99, kc 114, kc 105, kc 115, kc 116, kc 121, kc 47, kc 115, kc 97, kc 99, kc 114, kc 105, kc 115, kc 116, kc 121, kc 108, kc 97, kc 119, kc 50, kc 46, kc 83, kc 104, kc 97, kc 83, kc 105, kc 122, kc 101, kc 115, kc 32, kc 115, kc 97, kc 99, kc 114, kc 105, kc 115, kc 116, kc 121, kc 47, kc 115, kc 97, kc 99, kc 114, kc 105, kc 115, kc 116, kc 121, kc 108, kc 97, kc 119, kc 50, kc 46, kc 83, kc 104, kc 97, kc 80, kc 105, kc 101, kc 99, kc 101, kc 115, kc 32, kc 115, kc 97, kc 99, kc 114, kc 105, kc 115, kc 116, kc 121, kc 47, kc 115, kc 97, kc 99, kc 114, kc 105, kc 115, kc 116, kc 121, kc 108, kc 97, kc 119, kc 56, kc 46, kc 78, kc 111, kc 100, kc 101, kc 66, kc 111, kc 117, kc 110, kc 100, kc 115, kc 32, kc 115, kc 97, kc 99, kc 114, kc 105, kc 115, kc 116, kc 121, kc 47, kc 115, kc 97, kc 99, kc 114, kc 105, kc 115, kc 116, kc 121, kc 108, kc 97, kc 119, kc 56, kc 46, kc 78, kc 111, kc 100, kc 101, kc 70, kc 117, kc 108, kc 108, kc 32, kc 115, kc 97, kc 99, kc 114, kc 105, kc 115, kc 116, kc 121, kc 47, kc 115, kc 97, kc 99, kc 114, kc 105, kc 115, kc 116, kc 121, kc 108, kc 97, kc 119, kc 56, kc 46, kc 78, kc 111, kc 100, kc 101, kc 75, kc 105, kc 100, kc 115, kc 32, kc 115, kc 97, kc 99, kc 114, kc 105, kc 115, kc 116, kc 121, kc 47, kc 115, kc 97, kc 99, kc 114, kc 105, kc 115, kc 116, kc 121, kc 108, kc 97, kc 119, kc 56, kc 46, kc 78, kc 111, kc 100, kc 101, kc 82, kc 101, kc 97, kc 100, kc 115, kc 32, kc 115, kc 97, kc 99, kc 114, kc 105, kc 115, kc 116, kc 121, kc 47, kc 115, kc 97, kc 99, kc 114, kc 105, kc 115, kc 116, kc 121, kc 108, kc 97, kc 119, kc 56, kc 46, kc 78, kc 111, kc 100, kc 101, kc 66, kc 97, kc 99, kc 107, kc 32, kc 115, kc 97, kc 99, kc 114, kc 105, kc 115, kc 116, kc 121, kc 47, kc 115, kc 97, kc 99, kc 114, kc 105, kc 115, kc 116, kc 121, kc 108, kc 97, kc 119, kc 51, kc 46, kc 77, kc 97, kc 99, kc 76, kc 111, kc 110, kc 103, kc 32, kc 115, kc 97, kc 99, kc 114, kc 105, kc 115, kc 116, kc 121, kc 47, kc 115, kc 97, kc 99, kc 114, kc 105, kc 115, kc 116, kc 121, kc 108, kc 97, kc 119, kc 51, kc 46, kc 77, kc 97, kc 99, kc 66, kc 101, kc 103, kc 105, kc 110, kc 115, kc 32, kc 115, kc 97, kc 99, kc 114, kc 105, kc 115, kc 116, kc 121, kc 47, kc 115, kc 97, kc 99, kc 114, kc 105, kc 115, kc 116, kc 121, kc 108, kc 97, kc 119, kc 51, kc 46, kc 77, kc 97, kc 99, kc 65, kc 112, kc 97, kc 114, kc 116, kc 32, kc 115, kc 97, kc 99, kc 114, kc 105, kc 115, kc 116, kc 121, kc 47, kc 115, kc 97, kc 99, kc 114, kc 105, kc 115, kc 116, kc 121, kc 108, kc 97, kc 119, kc 51, kc 46, kc 77, kc 97, kc 99, kc 82, kc 111, kc 119, kc 115, kc 32, kc 115, kc 97, kc 99, kc 114, kc 105, kc 115, kc 116, kc 121, kc 47, kc 115, kc 97, kc 99, kc 114, kc 105, kc 115, kc 116, kc 121, kc 108, kc 97, kc 119, kc 51, kc 46, kc 77, kc 97, kc 99, kc 69, kc 113, kc 117, kc 97, kc 108, kc 32, kc 115, kc 97, kc 99, kc 114, kc 105, kc 115, kc 116, kc 121, kc 47, kc 115, kc 97, kc 99, kc 114, kc 105, kc 115, kc 116, kc 121, kc 108, kc 97, kc 119, kc 51, kc 46, kc 77, kc 97, kc 99, kc 84, kc 101, kc 108, kc 108, kc 115, kc 32, kc 115, kc 97, kc 99, kc 114, kc 105, kc 115, kc 116, kc 121, kc 47, kc 115, kc 97, kc 99, kc 114, kc 105, kc 115, kc 116, kc 121, kc 108, kc 97, kc 119, kc 53, kc 46, kc 83, kc 101, kc 97, kc 108, kc 84, kc 101, kc 108, kc 108, kc 115, kc 32, kc 115, kc 97, kc 99, kc 114, kc 105, kc 115, kc 116, kc 121, kc 47, kc 115, kc 97, kc 99, kc 114, kc 105, kc 115, kc 116, kc 121, kc 108, kc 97, kc 119, kc 53, kc 46, kc 83, kc 101, kc 97, kc 108, kc 66, kc 97, kc 99, kc 107, kc 32, kc 115, kc 97, kc 99, kc 114, kc 105, kc 115, kc 116, kc 121, kc 47, kc 115, kc 97, kc 99, kc 114, kc 105, kc 115, kc 116, kc 121, kc 108, kc 97, kc 119, kc 53, kc 46, kc 83, kc 101, kc 97, kc 108, kc 84, kc 97, kc 103, kc 115, kc 32, kc 115, kc 97, kc 99, kc 114, kc 105, kc 115, kc 116, kc 121, kc 47, kc 115, kc 97, kc 99, kc 114, kc 105, kc 115, kc 116, kc 121, kc 108, kc 97, kc 119, kc 53, kc 46, kc 83, kc 101, kc 97, kc 108, kc 87, kc 114, kc 97, kc 112, kc 115, kc 32, kc 115, kc 97, kc 99, kc 114, kc 105, kc 115, kc 116, kc 121, kc 47, kc 115, kc 97, kc 99, kc 114, kc 105, kc 115, kc 116, kc 121, kc 108, kc 97, kc 119, kc 53, kc 46, kc 83, kc 101, kc 97, kc 108, kc 78, kc 111, kc 110, kc 99, kc 101, kc 115, kc 32, kc 115, kc 97, kc 99, kc 114, kc 105, kc 115, kc 116, kc 121, kc 47, kc 115, kc 97, kc 99, kc 114, kc 105, kc 115, kc 116, kc 121, kc 108, kc 97, kc 119, kc 53, kc 46, kc 83, kc 101, kc 97, kc 108, kc 76, kc 101, kc 110, kc 103, kc 116, kc 104, kc 115, kc 32, kc 115, kc 97, kc 99, kc 114, kc 105, kc 115, kc 116, kc 121, kc 47, kc 115, kc 97, kc 99, kc 114, kc 105, kc 115, kc 116, kc 121, kc 108, kc 97, kc 119, kc 50, kc 55, kc 46, kc 73, kc 109, kc 97, kc 103, kc 101, kc 84, kc 101, kc 108, kc 108, kc 115, kc 32, kc 115, kc 97, kc 99, kc 114, kc 105, kc 115, kc 116, kc 121, kc 47, kc 115, kc 97, kc 99, kc 114, kc 105, kc 115, kc 116, kc 121, kc 108, kc 97, kc 119, kc 50, kc 55, kc 46, kc 73, kc 109, kc 97, kc 103, kc 101, kc 87, kc 114, kc 97, kc 112, kc 112, kc 101, kc 100, kc 32, kc 115, kc 97, kc 99, kc 114, kc 105, kc 115, kc 116, kc 121, kc 47, kc 115, kc 97, kc 99, kc 114, kc 105, kc 115, kc 116, kc 121, kc 108, kc 97, kc 119, kc 50, kc 55, kc 46, kc 73, kc 109, kc 97, kc 103, kc 101, kc 80, kc 97, kc 114, kc 116, kc 115, kc 32, kc 115, kc 97, kc 99, kc 114, kc 105, kc 115, kc 116, kc 121, kc 47, kc 115, kc 97, kc 99, kc 114, kc 105, kc 115, kc 116, kc 121, kc 108, kc 97, kc 119, kc 50, kc 55, kc 46, kc 73, kc 109, kc 97, kc 103, kc 101, kc 83, kc 101, kc 99, kc 116, kc 111, kc 114, kc 115, kc 32, kc 115, kc 97, kc 99, kc 114, kc 105, kc 115, kc 116, kc 121, kc 47, kc 115, kc 97, kc 99, kc 114, kc 105, kc 115, kc 116, kc 121, kc 108, kc 97, kc 119, kc 50, kc 55, kc 46, kc 73, kc 109, kc 97, kc 103, kc 101, kc 80, kc 105, kc 101, kc 99, kc 101, kc 115, kc 32, kc 115, kc 97, kc 99, kc 114, kc 105, kc 115, kc 116, kc 121, kc 47, kc 115, kc 97, kc 99, kc 114, kc 105, kc 115, kc 116, kc 121, kc 108, kc 97, kc 119, kc 50, kc 55, kc 46, kc 73, kc 109, kc 97, kc 103, kc 101, kc 70, kc 105, kc 114, kc 115, kc 116] := by kernel_rfl
theorem io_chars : Try.prog.initOrder.toList = [kc 104, kc 97, kc 114, kc 110, kc 101, kc 115, kc 115, kc 32, kc 97, kc 56, kc 50, kc 99, kc 49, kc 50, kc 50, kc 98, kc 48, kc 49, kc 102, kc 102, kc 56, kc 56, kc 99, kc 49, kc 51, kc 100, kc 97, kc 56, kc 53, kc 55, kc 54, kc 100, kc 56, kc 54, kc 52, kc 48, kc 102, kc 97, kc 48, kc 100, kc 54, kc 52, kc 57, kc 54, kc 50, kc 100, kc 54, kc 48, kc 48, kc 54, kc 98, kc 55, kc 101, kc 97, kc 53, kc 99, kc 98, kc 50, kc 97, kc 100, kc 98, kc 50, kc 49, kc 49, kc 56, kc 97, kc 48, kc 48, kc 48, kc 99, kc 48, kc 48, kc 32, kc 99, kc 117, kc 116, kc 32, kc 97, kc 116, kc 32, kc 115, kc 97, kc 99, kc 114, kc 105, kc 115, kc 116, kc 121, kc 47, kc 115, kc 97, kc 99, kc 114, kc 105, kc 115, kc 116, kc 121, kc 108, kc 97, kc 119, kc 52, kc 46, kc 83, kc 116, kc 114, kc 101, kc 97, kc 109, kc 84, kc 101, kc 108, kc 108, kc 115, kc 32, kc 115, kc 97, kc 99, kc 114, kc 105, kc 115, kc 116, kc 121, kc 47, kc 115, kc 97, kc 99, kc 114, kc 105, kc 115, kc 116, kc 121, kc 108, kc 97, kc 119, kc 50, kc 46, kc 83, kc 104, kc 97, kc 84, kc 101, kc 108, kc 108, kc 115, kc 32, kc 115, kc 97, kc 99, kc 114, kc 105, kc 115, kc 116, kc 121, kc 47, kc 115, kc 97, kc 99, kc 114, kc 105, kc 115, kc 116, kc 121, kc 108, kc 97, kc 119, kc 50, kc 46, kc 83, kc 104, kc 97, kc 72, kc 101, kc 120, kc 32, kc 115, kc 97, kc 99, kc 114, kc 105, kc 115, kc 116, kc 121, kc 47, kc 115, kc 97, kc 99, kc 114, kc 105, kc 115, kc 116, kc 121, kc 108, kc 97, kc 119, kc 50, kc 46, kc 83, kc 104, kc 97, kc 67, kc 104, kc 97, kc 105, kc 110, kc 115, kc 32, kc 115, kc 97, kc 99, kc 114, kc 105, kc 115, kc 116, kc 121, kc 47, kc 115, kc 97, kc 99, kc 114, kc 105, kc 115, kc 116, kc 121, kc 108, kc 97, kc 119, kc 50, kc 46, kc 83, kc 104, kc 97, kc 83, kc 105, kc 122, kc 101, kc 115, kc 32, kc 115, kc 97, kc 99, kc 114, kc 105, kc 115, kc 116, kc 121, kc 47, kc 115, kc 97, kc 99, kc 114, kc 105, kc 115, kc 116, kc 121, kc 108, kc 97, kc 119, kc 50, kc 46, kc 83, kc 104, kc 97, kc 80, kc 105, kc 101, kc 99, kc 101, kc 115, kc 32, kc 115, kc 97, kc 99, kc 114, kc 105, kc 115, kc 116, kc 121, kc 47, kc 115, kc 97, kc 99, kc 114, kc 105, kc 115, kc 116, kc 121, kc 108, kc 97, kc 119, kc 56, kc 46, kc 78, kc 111, kc 100, kc 101, kc 66, kc 111, kc 117, kc 110, kc 100, kc 115, kc 32, kc 115, kc 97, kc 99, kc 114, kc 105, kc 115, kc 116, kc 121, kc 47, kc 115, kc 97, kc 99, kc 114, kc 105, kc 115, kc 116, kc 121, kc 108, kc 97, kc 119, kc 56, kc 46, kc 78, kc 111, kc 100, kc 101, kc 70, kc 117, kc 108, kc 108, kc 32, kc 115, kc 97, kc 99, kc 114, kc 105, kc 115, kc 116, kc 121, kc 47, kc 115, kc 97, kc 99, kc 114, kc 105, kc 115, kc 116, kc 121, kc 108, kc 97, kc 119, kc 56, kc 46, kc 78, kc 111, kc 100, kc 101, kc 75, kc 105, kc 100, kc 115, kc 32, kc 115, kc 97, kc 99, kc 114, kc 105, kc 115, kc 116, kc 121, kc 47, kc 115, kc 97, kc 99, kc 114, kc 105, kc 115, kc 116, kc 121, kc 108, kc 97, kc 119, kc 56, kc 46, kc 78, kc 111, kc 100, kc 101, kc 82, kc 101, kc 97, kc 100, kc 115, kc 32, kc 115, kc 97, kc 99, kc 114, kc 105, kc 115, kc 116, kc 121, kc 47, kc 115, kc 97, kc 99, kc 114, kc 105, kc 115, kc 116, kc 121, kc 108, kc 97, kc 119, kc 56, kc 46, kc 78, kc 111, kc 100, kc 101, kc 66, kc 97, kc 99, kc 107, kc 32, kc 115, kc 97, kc 99, kc 114, kc 105, kc 115, kc 116, kc 121, kc 47, kc 115, kc 97, kc 99, kc 114, kc 105, kc 115, kc 116, kc 121, kc 108, kc 97, kc 119, kc 51, kc 46, kc 77, kc 97, kc 99, kc 76, kc 111, kc 110, kc 103, kc 32, kc 115, kc 97, kc 99, kc 114, kc 105, kc 115, kc 116, kc 121, kc 47, kc 115, kc 97, kc 99, kc 114, kc 105, kc 115, kc 116, kc 121, kc 108, kc 97, kc 119, kc 51, kc 46, kc 77, kc 97, kc 99, kc 66, kc 101, kc 103, kc 105, kc 110, kc 115, kc 32, kc 115, kc 97, kc 99, kc 114, kc 105, kc 115, kc 116, kc 121, kc 47, kc 115, kc 97, kc 99, kc 114, kc 105, kc 115, kc 116, kc 121, kc 108, kc 97, kc 119, kc 51, kc 46, kc 77, kc 97, kc 99, kc 65, kc 112, kc 97, kc 114, kc 116, kc 32, kc 115, kc 97, kc 99, kc 114, kc 105, kc 115, kc 116, kc 121, kc 47, kc 115, kc 97, kc 99, kc 114, kc 105, kc 115, kc 116, kc 121, kc 108, kc 97, kc 119, kc 51, kc 46, kc 77, kc 97, kc 99, kc 82, kc 111, kc 119, kc 115, kc 32, kc 115, kc 97, kc 99, kc 114, kc 105, kc 115, kc 116, kc 121, kc 47, kc 115, kc 97, kc 99, kc 114, kc 105, kc 115, kc 116, kc 121, kc 108, kc 97, kc 119, kc 51, kc 46, kc 77, kc 97, kc 99, kc 69, kc 113, kc 117, kc 97, kc 108, kc 32, kc 115, kc 97, kc 99, kc 114, kc 105, kc 115, kc 116, kc 121, kc 47, kc 115, kc 97, kc 99, kc 114, kc 105, kc 115, kc 116, kc 121, kc 108, kc 97, kc 119, kc 51, kc 46, kc 77, kc 97, kc 99, kc 84, kc 101, kc 108, kc 108, kc 115, kc 32, kc 115, kc 97, kc 99, kc 114, kc 105, kc 115, kc 116, kc 121, kc 47, kc 115, kc 97, kc 99, kc 114, kc 105, kc 115, kc 116, kc 121, kc 108, kc 97, kc 119, kc 53, kc 46, kc 83, kc 101, kc 97, kc 108, kc 84, kc 101, kc 108, kc 108, kc 115, kc 32, kc 115, kc 97, kc 99, kc 114, kc 105, kc 115, kc 116, kc 121, kc 47, kc 115, kc 97, kc 99, kc 114, kc 105, kc 115, kc 116, kc 121, kc 108, kc 97, kc 119, kc 53, kc 46, kc 83, kc 101, kc 97, kc 108, kc 66, kc 97, kc 99, kc 107, kc 32, kc 115, kc 97, kc 99, kc 114, kc 105, kc 115, kc 116, kc 121, kc 47, kc 115, kc 97, kc 99, kc 114, kc 105, kc 115, kc 116, kc 121, kc 108, kc 97, kc 119, kc 53, kc 46, kc 83, kc 101, kc 97, kc 108, kc 84, kc 97, kc 103, kc 115, kc 32, kc 115, kc 97, kc 99, kc 114, kc 105, kc 115, kc 116, kc 121, kc 47, kc 115, kc 97, kc 99, kc 114, kc 105, kc 115, kc 116, kc 121, kc 108, kc 97, kc 119, kc 53, kc 46, kc 83, kc 101, kc 97, kc 108, kc 87, kc 114, kc 97, kc 112, kc 115, kc 32, kc 115, kc 97, kc 99, kc 114, kc 105, kc 115, kc 116, kc 121, kc 47, kc 115, kc 97, kc 99, kc 114, kc 105, kc 115, kc 116, kc 121, kc 108, kc 97, kc 119, kc 53, kc 46, kc 83, kc 101, kc 97, kc 108, kc 78, kc 111, kc 110, kc 99, kc 101, kc 115, kc 32, kc 115, kc 97, kc 99, kc 114, kc 105, kc 115, kc 116, kc 121, kc 47, kc 115, kc 97, kc 99, kc 114, kc 105, kc 115, kc 116, kc 121, kc 108, kc 97, kc 119, kc 53, kc 46, kc 83, kc 101, kc 97, kc 108, kc 76, kc 101, kc 110, kc 103, kc 116, kc 104, kc 115, kc 32, kc 115, kc 97, kc 99, kc 114, kc 105, kc 115, kc 116, kc 121, kc 47, kc 115, kc 97, kc 99, kc 114, kc 105, kc 115, kc 116, kc 121, kc 108, kc 97, kc 119, kc 50, kc 55, kc 46, kc 73, kc 109, kc 97, kc 103, kc 101, kc 84, kc 101, kc 108, kc 108, kc 115, kc 32, kc 115, kc 97, kc 99, kc 114, kc 105, kc 115, kc 116, kc 121, kc 47, kc 115, kc 97, kc 99, kc 114, kc 105, kc 115, kc 116, kc 121, kc 108, kc 97, kc 119, kc 50, kc 55, kc 46, kc 73, kc 109, kc 97, kc 103, kc 101, kc 87, kc 114, kc 97, kc 112, kc 112, kc 101, kc 100, kc 32, kc 115, kc 97, kc 99, kc 114, kc 105, kc 115, kc 116, kc 121, kc 47, kc 115, kc 97, kc 99, kc 114, kc 105, kc 115, kc 116, kc 121, kc 108, kc 97, kc 119, kc 50, kc 55, kc 46, kc 73, kc 109, kc 97, kc 103, kc 101, kc 80, kc 97, kc 114, kc 116, kc 115, kc 32, kc 115, kc 97, kc 99, kc 114, kc 105, kc 115, kc 116, kc 121, kc 47, kc 115, kc 97, kc 99, kc 114, kc 105, kc 115, kc 116, kc 121, kc 108, kc 97, kc 119, kc 50, kc 55, kc 46, kc 73, kc 109, kc 97, kc 103, kc 101, kc 83, kc 101, kc 99, kc 116, kc 111, kc 114, kc 115, kc 32, kc 115, kc 97, kc 99, kc 114, kc 105, kc 115, kc 116, kc 121, kc 47, kc 115, kc 97, kc 99, kc 114, kc 105, kc 115, kc 116, kc 121, kc 108, kc 97, kc 119, kc 50, kc 55, kc 46, kc 73, kc 109, kc 97, kc 103, kc 101, kc 80, kc 105, kc 101, kc 99, kc 101, kc 115, kc 32, kc 115, kc 97, kc 99, kc 114, kc 105, kc 115, kc 116, kc 121, kc 47, kc 115, kc 97, kc 99, kc 114, kc 105, kc 115, kc 116, kc 121, kc 108, kc 97, kc 119, kc 50, kc 55, kc 46, kc 73, kc 109, kc 97, kc 103, kc 101, kc 70, kc 105, kc 114, kc 115, kc 116] := by
  rw [io_eq]
  exact String.toList_ofList
theorem ws_word : ∀ (w r : List Char), (w.all fun c => c != kc 32) = true → wordsSigns (w ++ kc 32 :: r) = w :: wordsSigns r
  | [], r, _ => rfl
  | c :: w, r, h => by
    simp only [List.all_cons, Bool.and_eq_true, bne_iff_ne, ne_eq] at h
    have ih := ws_word w r h.2
    rw [List.cons_append, wordsSigns]
    · rw [ih]
    · intro e; exact h.1 e
theorem io_words : ∃ ws, behindMainWord (wordsSigns Try.prog.initOrder.toList) = [kc 99, kc 117, kc 116] :: ws := by
  refine ⟨wordsSigns [kc 97, kc 116, kc 32, kc 115, kc 97, kc 99, kc 114, kc 105, kc 115, kc 116, kc 121, kc 47, kc 115, kc 97, kc 99, kc 114, kc 105, kc 115, kc 116, kc 121, kc 108, kc 97, kc 119, kc 52, kc 46, kc 83, kc 116, kc 114, kc 101, kc 97, kc 109, kc 84, kc 101, kc 108, kc 108, kc 115, kc 32, kc 115, kc 97, kc 99, kc 114, kc 105, kc 115, kc 116, kc 121, kc 47, kc 115, kc 97, kc 99, kc 114, kc 105, kc 115, kc 116, kc 121, kc 108, kc 97, kc 119, kc 50, kc 46, kc 83, kc 104, kc 97, kc 84, kc 101, kc 108, kc 108, kc 115, kc 32, kc 115, kc 97, kc 99, kc 114, kc 105, kc 115, kc 116, kc 121, kc 47, kc 115, kc 97, kc 99, kc 114, kc 105, kc 115, kc 116, kc 121, kc 108, kc 97, kc 119, kc 50, kc 46, kc 83, kc 104, kc 97, kc 72, kc 101, kc 120, kc 32, kc 115, kc 97, kc 99, kc 114, kc 105, kc 115, kc 116, kc 121, kc 47, kc 115, kc 97, kc 99, kc 114, kc 105, kc 115, kc 116, kc 121, kc 108, kc 97, kc 119, kc 50, kc 46, kc 83, kc 104, kc 97, kc 67, kc 104, kc 97, kc 105, kc 110, kc 115, kc 32, kc 115, kc 97, kc 99, kc 114, kc 105, kc 115, kc 116, kc 121, kc 47, kc 115, kc 97, kc 99, kc 114, kc 105, kc 115, kc 116, kc 121, kc 108, kc 97, kc 119, kc 50, kc 46, kc 83, kc 104, kc 97, kc 83, kc 105, kc 122, kc 101, kc 115, kc 32, kc 115, kc 97, kc 99, kc 114, kc 105, kc 115, kc 116, kc 121, kc 47, kc 115, kc 97, kc 99, kc 114, kc 105, kc 115, kc 116, kc 121, kc 108, kc 97, kc 119, kc 50, kc 46, kc 83, kc 104, kc 97, kc 80, kc 105, kc 101, kc 99, kc 101, kc 115, kc 32, kc 115, kc 97, kc 99, kc 114, kc 105, kc 115, kc 116, kc 121, kc 47, kc 115, kc 97, kc 99, kc 114, kc 105, kc 115, kc 116, kc 121, kc 108, kc 97, kc 119, kc 56, kc 46, kc 78, kc 111, kc 100, kc 101, kc 66, kc 111, kc 117, kc 110, kc 100, kc 115, kc 32, kc 115, kc 97, kc 99, kc 114, kc 105, kc 115, kc 116, kc 121, kc 47, kc 115, kc 97, kc 99, kc 114, kc 105, kc 115, kc 116, kc 121, kc 108, kc 97, kc 119, kc 56, kc 46, kc 78, kc 111, kc 100, kc 101, kc 70, kc 117, kc 108, kc 108, kc 32, kc 115, kc 97, kc 99, kc 114, kc 105, kc 115, kc 116, kc 121, kc 47, kc 115, kc 97, kc 99, kc 114, kc 105, kc 115, kc 116, kc 121, kc 108, kc 97, kc 119, kc 56, kc 46, kc 78, kc 111, kc 100, kc 101, kc 75, kc 105, kc 100, kc 115, kc 32, kc 115, kc 97, kc 99, kc 114, kc 105, kc 115, kc 116, kc 121, kc 47, kc 115, kc 97, kc 99, kc 114, kc 105, kc 115, kc 116, kc 121, kc 108, kc 97, kc 119, kc 56, kc 46, kc 78, kc 111, kc 100, kc 101, kc 82, kc 101, kc 97, kc 100, kc 115, kc 32, kc 115, kc 97, kc 99, kc 114, kc 105, kc 115, kc 116, kc 121, kc 47, kc 115, kc 97, kc 99, kc 114, kc 105, kc 115, kc 116, kc 121, kc 108, kc 97, kc 119, kc 56, kc 46, kc 78, kc 111, kc 100, kc 101, kc 66, kc 97, kc 99, kc 107, kc 32, kc 115, kc 97, kc 99, kc 114, kc 105, kc 115, kc 116, kc 121, kc 47, kc 115, kc 97, kc 99, kc 114, kc 105, kc 115, kc 116, kc 121, kc 108, kc 97, kc 119, kc 51, kc 46, kc 77, kc 97, kc 99, kc 76, kc 111, kc 110, kc 103, kc 32, kc 115, kc 97, kc 99, kc 114, kc 105, kc 115, kc 116, kc 121, kc 47, kc 115, kc 97, kc 99, kc 114, kc 105, kc 115, kc 116, kc 121, kc 108, kc 97, kc 119, kc 51, kc 46, kc 77, kc 97, kc 99, kc 66, kc 101, kc 103, kc 105, kc 110, kc 115, kc 32, kc 115, kc 97, kc 99, kc 114, kc 105, kc 115, kc 116, kc 121, kc 47, kc 115, kc 97, kc 99, kc 114, kc 105, kc 115, kc 116, kc 121, kc 108, kc 97, kc 119, kc 51, kc 46, kc 77, kc 97, kc 99, kc 65, kc 112, kc 97, kc 114, kc 116, kc 32, kc 115, kc 97, kc 99, kc 114, kc 105, kc 115, kc 116, kc 121, kc 47, kc 115, kc 97, kc 99, kc 114, kc 105, kc 115, kc 116, kc 121, kc 108, kc 97, kc 119, kc 51, kc 46, kc 77, kc 97, kc 99, kc 82, kc 111, kc 119, kc 115, kc 32, kc 115, kc 97, kc 99, kc 114, kc 105, kc 115, kc 116, kc 121, kc 47, kc 115, kc 97, kc 99, kc 114, kc 105, kc 115, kc 116, kc 121, kc 108, kc 97, kc 119, kc 51, kc 46, kc 77, kc 97, kc 99, kc 69, kc 113, kc 117, kc 97, kc 108, kc 32, kc 115, kc 97, kc 99, kc 114, kc 105, kc 115, kc 116, kc 121, kc 47, kc 115, kc 97, kc 99, kc 114, kc 105, kc 115, kc 116, kc 121, kc 108, kc 97, kc 119, kc 51, kc 46, kc 77, kc 97, kc 99, kc 84, kc 101, kc 108, kc 108, kc 115, kc 32, kc 115, kc 97, kc 99, kc 114, kc 105, kc 115, kc 116, kc 121, kc 47, kc 115, kc 97, kc 99, kc 114, kc 105, kc 115, kc 116, kc 121, kc 108, kc 97, kc 119, kc 53, kc 46, kc 83, kc 101, kc 97, kc 108, kc 84, kc 101, kc 108, kc 108, kc 115, kc 32, kc 115, kc 97, kc 99, kc 114, kc 105, kc 115, kc 116, kc 121, kc 47, kc 115, kc 97, kc 99, kc 114, kc 105, kc 115, kc 116, kc 121, kc 108, kc 97, kc 119, kc 53, kc 46, kc 83, kc 101, kc 97, kc 108, kc 66, kc 97, kc 99, kc 107, kc 32, kc 115, kc 97, kc 99, kc 114, kc 105, kc 115, kc 116, kc 121, kc 47, kc 115, kc 97, kc 99, kc 114, kc 105, kc 115, kc 116, kc 121, kc 108, kc 97, kc 119, kc 53, kc 46, kc 83, kc 101, kc 97, kc 108, kc 84, kc 97, kc 103, kc 115, kc 32, kc 115, kc 97, kc 99, kc 114, kc 105, kc 115, kc 116, kc 121, kc 47, kc 115, kc 97, kc 99, kc 114, kc 105, kc 115, kc 116, kc 121, kc 108, kc 97, kc 119, kc 53, kc 46, kc 83, kc 101, kc 97, kc 108, kc 87, kc 114, kc 97, kc 112, kc 115, kc 32, kc 115, kc 97, kc 99, kc 114, kc 105, kc 115, kc 116, kc 121, kc 47, kc 115, kc 97, kc 99, kc 114, kc 105, kc 115, kc 116, kc 121, kc 108, kc 97, kc 119, kc 53, kc 46, kc 83, kc 101, kc 97, kc 108, kc 78, kc 111, kc 110, kc 99, kc 101, kc 115, kc 32, kc 115, kc 97, kc 99, kc 114, kc 105, kc 115, kc 116, kc 121, kc 47, kc 115, kc 97, kc 99, kc 114, kc 105, kc 115, kc 116, kc 121, kc 108, kc 97, kc 119, kc 53, kc 46, kc 83, kc 101, kc 97, kc 108, kc 76, kc 101, kc 110, kc 103, kc 116, kc 104, kc 115, kc 32, kc 115, kc 97, kc 99, kc 114, kc 105, kc 115, kc 116, kc 121, kc 47, kc 115, kc 97, kc 99, kc 114, kc 105, kc 115, kc 116, kc 121, kc 108, kc 97, kc 119, kc 50, kc 55, kc 46, kc 73, kc 109, kc 97, kc 103, kc 101, kc 84, kc 101, kc 108, kc 108, kc 115, kc 32, kc 115, kc 97, kc 99, kc 114, kc 105, kc 115, kc 116, kc 121, kc 47, kc 115, kc 97, kc 99, kc 114, kc 105, kc 115, kc 116, kc 121, kc 108, kc 97, kc 119, kc 50, kc 55, kc 46, kc 73, kc 109, kc 97, kc 103, kc 101, kc 87, kc 114, kc 97, kc 112, kc 112, kc 101, kc 100, kc 32, kc 115, kc 97, kc 99, kc 114, kc 105, kc 115, kc 116, kc 121, kc 47, kc 115, kc 97, kc 99, kc 114, kc 105, kc 115, kc 116, kc 121, kc 108, kc 97, kc 119, kc 50, kc 55, kc 46, kc 73, kc 109, kc 97, kc 103, kc 101, kc 80, kc 97, kc 114, kc 116, kc 115, kc 32, kc 115, kc 97, kc 99, kc 114, kc 105, kc 115, kc 116, kc 121, kc 47, kc 115, kc 97, kc 99, kc 114, kc 105, kc 115, kc 116, kc 121, kc 108, kc 97, kc 119, kc 50, kc 55, kc 46, kc 73, kc 109, kc 97, kc 103, kc 101, kc 83, kc 101, kc 99, kc 116, kc 111, kc 114, kc 115, kc 32, kc 115, kc 97, kc 99, kc 114, kc 105, kc 115, kc 116, kc 121, kc 47, kc 115, kc 97, kc 99, kc 114, kc 105, kc 115, kc 116, kc 121, kc 108, kc 97, kc 119, kc 50, kc 55, kc 46, kc 73, kc 109, kc 97, kc 103, kc 101, kc 80, kc 105, kc 101, kc 99, kc 101, kc 115, kc 32, kc 115, kc 97, kc 99, kc 114, kc 105, kc 115, kc 116, kc 121, kc 47, kc 115, kc 97, kc 99, kc 114, kc 105, kc 115, kc 116, kc 121, kc 108, kc 97, kc 119, kc 50, kc 55, kc 46, kc 73, kc 109, kc 97, kc 103, kc 101, kc 70, kc 105, kc 114, kc 115, kc 116], ?_⟩
  rw [io_chars]
  show behindMainWord (wordsSigns ([kc 104, kc 97, kc 114, kc 110, kc 101, kc 115, kc 115] ++ kc 32 :: ([kc 97, kc 56, kc 50, kc 99, kc 49, kc 50, kc 50, kc 98, kc 48, kc 49, kc 102, kc 102, kc 56, kc 56, kc 99, kc 49, kc 51, kc 100, kc 97, kc 56, kc 53, kc 55, kc 54, kc 100, kc 56, kc 54, kc 52, kc 48, kc 102, kc 97, kc 48, kc 100, kc 54, kc 52, kc 57, kc 54, kc 50, kc 100, kc 54, kc 48, kc 48, kc 54, kc 98, kc 55, kc 101, kc 97, kc 53, kc 99, kc 98, kc 50, kc 97, kc 100, kc 98, kc 50, kc 49, kc 49, kc 56, kc 97, kc 48, kc 48, kc 48, kc 99, kc 48, kc 48] ++ kc 32 :: ([kc 99, kc 117, kc 116] ++ kc 32 :: [kc 97, kc 116, kc 32, kc 115, kc 97, kc 99, kc 114, kc 105, kc 115, kc 116, kc 121, kc 47, kc 115, kc 97, kc 99, kc 114, kc 105, kc 115, kc 116, kc 121, kc 108, kc 97, kc 119, kc 52, kc 46, kc 83, kc 116, kc 114, kc 101, kc 97, kc 109, kc 84, kc 101, kc 108, kc 108, kc 115, kc 32, kc 115, kc 97, kc 99, kc 114, kc 105, kc 115, kc 116, kc 121, kc 47, kc 115, kc 97, kc 99, kc 114, kc 105, kc 115, kc 116, kc 121, kc 108, kc 97, kc 119, kc 50, kc 46, kc 83, kc 104, kc 97, kc 84, kc 101, kc 108, kc 108, kc 115, kc 32, kc 115, kc 97, kc 99, kc 114, kc 105, kc 115, kc 116, kc 121, kc 47, kc 115, kc 97, kc 99, kc 114, kc 105, kc 115, kc 116, kc 121, kc 108, kc 97, kc 119, kc 50, kc 46, kc 83, kc 104, kc 97, kc 72, kc 101, kc 120, kc 32, kc 115, kc 97, kc 99, kc 114, kc 105, kc 115, kc 116, kc 121, kc 47, kc 115, kc 97, kc 99, kc 114, kc 105, kc 115, kc 116, kc 121, kc 108, kc 97, kc 119, kc 50, kc 46, kc 83, kc 104, kc 97, kc 67, kc 104, kc 97, kc 105, kc 110, kc 115, kc 32, kc 115, kc 97, kc 99, kc 114, kc 105, kc 115, kc 116, kc 121, kc 47, kc 115, kc 97, kc 99, kc 114, kc 105, kc 115, kc 116, kc 121, kc 108, kc 97, kc 119, kc 50, kc 46, kc 83, kc 104, kc 97, kc 83, kc 105, kc 122, kc 101, kc 115, kc 32, kc 115, kc 97, kc 99, kc 114, kc 105, kc 115, kc 116, kc 121, kc 47, kc 115, kc 97, kc 99, kc 114, kc 105, kc 115, kc 116, kc 121, kc 108, kc 97, kc 119, kc 50, kc 46, kc 83, kc 104, kc 97, kc 80, kc 105, kc 101, kc 99, kc 101, kc 115, kc 32, kc 115, kc 97, kc 99, kc 114, kc 105, kc 115, kc 116, kc 121, kc 47, kc 115, kc 97, kc 99, kc 114, kc 105, kc 115, kc 116, kc 121, kc 108, kc 97, kc 119, kc 56, kc 46, kc 78, kc 111, kc 100, kc 101, kc 66, kc 111, kc 117, kc 110, kc 100, kc 115, kc 32, kc 115, kc 97, kc 99, kc 114, kc 105, kc 115, kc 116, kc 121, kc 47, kc 115, kc 97, kc 99, kc 114, kc 105, kc 115, kc 116, kc 121, kc 108, kc 97, kc 119, kc 56, kc 46, kc 78, kc 111, kc 100, kc 101, kc 70, kc 117, kc 108, kc 108, kc 32, kc 115, kc 97, kc 99, kc 114, kc 105, kc 115, kc 116, kc 121, kc 47, kc 115, kc 97, kc 99, kc 114, kc 105, kc 115, kc 116, kc 121, kc 108, kc 97, kc 119, kc 56, kc 46, kc 78, kc 111, kc 100, kc 101, kc 75, kc 105, kc 100, kc 115, kc 32, kc 115, kc 97, kc 99, kc 114, kc 105, kc 115, kc 116, kc 121, kc 47, kc 115, kc 97, kc 99, kc 114, kc 105, kc 115, kc 116, kc 121, kc 108, kc 97, kc 119, kc 56, kc 46, kc 78, kc 111, kc 100, kc 101, kc 82, kc 101, kc 97, kc 100, kc 115, kc 32, kc 115, kc 97, kc 99, kc 114, kc 105, kc 115, kc 116, kc 121, kc 47, kc 115, kc 97, kc 99, kc 114, kc 105, kc 115, kc 116, kc 121, kc 108, kc 97, kc 119, kc 56, kc 46, kc 78, kc 111, kc 100, kc 101, kc 66, kc 97, kc 99, kc 107, kc 32, kc 115, kc 97, kc 99, kc 114, kc 105, kc 115, kc 116, kc 121, kc 47, kc 115, kc 97, kc 99, kc 114, kc 105, kc 115, kc 116, kc 121, kc 108, kc 97, kc 119, kc 51, kc 46, kc 77, kc 97, kc 99, kc 76, kc 111, kc 110, kc 103, kc 32, kc 115, kc 97, kc 99, kc 114, kc 105, kc 115, kc 116, kc 121, kc 47, kc 115, kc 97, kc 99, kc 114, kc 105, kc 115, kc 116, kc 121, kc 108, kc 97, kc 119, kc 51, kc 46, kc 77, kc 97, kc 99, kc 66, kc 101, kc 103, kc 105, kc 110, kc 115, kc 32, kc 115, kc 97, kc 99, kc 114, kc 105, kc 115, kc 116, kc 121, kc 47, kc 115, kc 97, kc 99, kc 114, kc 105, kc 115, kc 116, kc 121, kc 108, kc 97, kc 119, kc 51, kc 46, kc 77, kc 97, kc 99, kc 65, kc 112, kc 97, kc 114, kc 116, kc 32, kc 115, kc 97, kc 99, kc 114, kc 105, kc 115, kc 116, kc 121, kc 47, kc 115, kc 97, kc 99, kc 114, kc 105, kc 115, kc 116, kc 121, kc 108, kc 97, kc 119, kc 51, kc 46, kc 77, kc 97, kc 99, kc 82, kc 111, kc 119, kc 115, kc 32, kc 115, kc 97, kc 99, kc 114, kc 105, kc 115, kc 116, kc 121, kc 47, kc 115, kc 97, kc 99, kc 114, kc 105, kc 115, kc 116, kc 121, kc 108, kc 97, kc 119, kc 51, kc 46, kc 77, kc 97, kc 99, kc 69, kc 113, kc 117, kc 97, kc 108, kc 32, kc 115, kc 97, kc 99, kc 114, kc 105, kc 115, kc 116, kc 121, kc 47, kc 115, kc 97, kc 99, kc 114, kc 105, kc 115, kc 116, kc 121, kc 108, kc 97, kc 119, kc 51, kc 46, kc 77, kc 97, kc 99, kc 84, kc 101, kc 108, kc 108, kc 115, kc 32, kc 115, kc 97, kc 99, kc 114, kc 105, kc 115, kc 116, kc 121, kc 47, kc 115, kc 97, kc 99, kc 114, kc 105, kc 115, kc 116, kc 121, kc 108, kc 97, kc 119, kc 53, kc 46, kc 83, kc 101, kc 97, kc 108, kc 84, kc 101, kc 108, kc 108, kc 115, kc 32, kc 115, kc 97, kc 99, kc 114, kc 105, kc 115, kc 116, kc 121, kc 47, kc 115, kc 97, kc 99, kc 114, kc 105, kc 115, kc 116, kc 121, kc 108, kc 97, kc 119, kc 53, kc 46, kc 83, kc 101, kc 97, kc 108, kc 66, kc 97, kc 99, kc 107, kc 32, kc 115, kc 97, kc 99, kc 114, kc 105, kc 115, kc 116, kc 121, kc 47, kc 115, kc 97, kc 99, kc 114, kc 105, kc 115, kc 116, kc 121, kc 108, kc 97, kc 119, kc 53, kc 46, kc 83, kc 101, kc 97, kc 108, kc 84, kc 97, kc 103, kc 115, kc 32, kc 115, kc 97, kc 99, kc 114, kc 105, kc 115, kc 116, kc 121, kc 47, kc 115, kc 97, kc 99, kc 114, kc 105, kc 115, kc 116, kc 121, kc 108, kc 97, kc 119, kc 53, kc 46, kc 83, kc 101, kc 97, kc 108, kc 87, kc 114, kc 97, kc 112, kc 115, kc 32, kc 115, kc 97, kc 99, kc 114, kc 105, kc 115, kc 116, kc 121, kc 47, kc 115, kc 97, kc 99, kc 114, kc 105, kc 115, kc 116, kc 121, kc 108, kc 97, kc 119, kc 53, kc 46, kc 83, kc 101, kc 97, kc 108, kc 78, kc 111, kc 110, kc 99, kc 101, kc 115, kc 32, kc 115, kc 97, kc 99, kc 114, kc 105, kc 115, kc 116, kc 121, kc 47, kc 115, kc 97, kc 99, kc 114, kc 105, kc 115, kc 116, kc 121, kc 108, kc 97, kc 119, kc 53, kc 46, kc 83, kc 101, kc 97, kc 108, kc 76, kc 101, kc 110, kc 103, kc 116, kc 104, kc 115, kc 32, kc 115, kc 97, kc 99, kc 114, kc 105, kc 115, kc 116, kc 121, kc 47, kc 115, kc 97, kc 99, kc 114, kc 105, kc 115, kc 116, kc 121, kc 108, kc 97, kc 119, kc 50, kc 55, kc 46, kc 73, kc 109, kc 97, kc 103, kc 101, kc 84, kc 101, kc 108, kc 108, kc 115, kc 32, kc 115, kc 97, kc 99, kc 114, kc 105, kc 115, kc 116, kc 121, kc 47, kc 115, kc 97, kc 99, kc 114, kc 105, kc 115, kc 116, kc 121, kc 108, kc 97, kc 119, kc 50, kc 55, kc 46, kc 73, kc 109, kc 97, kc 103, kc 101, kc 87, kc 114, kc 97, kc 112, kc 112, kc 101, kc 100, kc 32, kc 115, kc 97, kc 99, kc 114, kc 105, kc 115, kc 116, kc 121, kc 47, kc 115, kc 97, kc 99, kc 114, kc 105, kc 115, kc 116, kc 121, kc 108, kc 97, kc 119, kc 50, kc 55, kc 46, kc 73, kc 109, kc 97, kc 103, kc 101, kc 80, kc 97, kc 114, kc 116, kc 115, kc 32, kc 115, kc 97, kc 99, kc 114, kc 105, kc 115, kc 116, kc 121, kc 47, kc 115, kc 97, kc 99, kc 114, kc 105, kc 115, kc 116, kc 121, kc 108, kc 97, kc 119, kc 50, kc 55, kc 46, kc 73, kc 109, kc 97, kc 103, kc 101, kc 83, kc 101, kc 99, kc 116, kc 111, kc 114, kc 115, kc 32, kc 115, kc 97, kc 99, kc 114, kc 105, kc 115, kc 116, kc 121, kc 47, kc 115, kc 97, kc 99, kc 114, kc 105, kc 115, kc 116, kc 121, kc 108, kc 97, kc 119, kc 50, kc 55, kc 46, kc 73, kc 109, kc 97, kc 103, kc 101, kc 80, kc 105, kc 101, kc 99, kc 101, kc 115, kc 32, kc 115, kc 97, kc 99, kc 114, kc 105, kc 115, kc 116, kc 121, kc 47, kc 115, kc 97, kc 99, kc 114, kc 105, kc 115, kc 116, kc 121, kc 108, kc 97, kc 119, kc 50, kc 55, kc 46, kc 73, kc 109, kc 97, kc 103, kc 101, kc 70, kc 105, kc 114, kc 115, kc 116])))) = _
  rw [ws_word _ _ (by kernel_rfl), ws_word _ _ (by kernel_rfl), ws_word _ _ (by kernel_rfl)]
  generalize wordsSigns _ = ws
  kernel_rfl
theorem w_gc : ([kc 99, kc 117, kc 116] == "gc".toList) = false := by kernel_rfl
theorem w_spec : ([kc 99, kc 117, kc 116] == "spec".toList) = false := by kernel_rfl
theorem w_cut : ([kc 99, kc 117, kc 116] == "cut".toList) = true := by kernel_rfl
theorem w_carried : ([kc 99, kc 117, kc 116] == "carried".toList) = false := by kernel_rfl
theorem w_some : (some [kc 99, kc 117, kc 116] == some "cut".toList) = true := by kernel_rfl
theorem w_lays : Try.prog.laysLater = false := by kernel_rfl
theorem w_refl : Try.prog.bearsReflect = false := by kernel_rfl
theorem w_door : Try.prog.doorFits [] = true := by kernel_rfl
theorem w_strip (ws : List (List Char)) : stripLifts liftWords ([kc 99, kc 117, kc 116] :: ws) = ([], [kc 99, kc 117, kc 116] :: ws) := by kernel_rfl
theorem may_of {P : Program} {C : List Char} {ws : List (List Char)} (h : behindMainWord (wordsSigns P.initOrder.toList) = C :: ws) (h1 : (some C == some "cut".toList) = true) (hs : stripLifts liftWords (C :: ws) = ([], C :: ws)) (h2 : P.laysLater = false) (h3 : P.bearsReflect = false) (h4 : P.doorFits [] = true) : P.mayEnter = true := by
  unfold Program.mayEnter
  rw [h]
  simp only [hs, List.head?_cons, h1, h2, h3, h4]
  simp
theorem p_mayEnter : Try.prog.mayEnter = true := by
  obtain ⟨ws, h⟩ := io_words
  exact may_of h w_some (w_strip ws) w_lays w_refl w_door
theorem p_lifts : Try.prog.liftsFinal = false := by
  obtain ⟨ws, h⟩ := io_words
  unfold Program.liftsFinal Program.headLifts
  rw [h]
  kernel_rfl
theorem make_of {P : Program} {C : List Char} {ws : List (List Char)} (h : behindMainWord (wordsSigns P.initOrder.toList) = C :: ws) (h1 : (C == "gc".toList) = false) (h2 : (C == "spec".toList) = false) (h3 : (C == "cut".toList) = true) : P.make = some .cut := by
  unfold Program.make
  rw [h]
  simp only [h1, h2, h3]
  simp
theorem p_make : Try.prog.make = some .cut := by
  obtain ⟨ws, h⟩ := io_words
  exact make_of h w_gc w_spec w_cut
theorem p_laidOut : laidOutB Try.prog = true := by kernel_rfl
theorem p_maps : mapsRowed Try.prog = true := by kernel_rfl
theorem p_stops : Try.prog.stops = [] := by kernel_rfl
theorem p_knobs : Try.prog.stopKnobs = [] := by kernel_rfl
theorem p_heard : Try.prog.stopsHeard = true := by kernel_rfl
end Go.Proofs.Ytmldccfchnlpgaa
