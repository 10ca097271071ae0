/- A part of the proof of given statements: a verified condition generator for the model, and contracts of the program's functions. No condition. -/
import Derived.Test.YtmldccfchnlpgaaPart5
import Derived.Test.YtmldccfchnlpgaaPart3
import Derived.Shelf.Bytes.SlIndexWhole
import Derived.Ground.NamesProg
set_option linter.unusedVariables false
set_option linter.unusedSimpArgs false
set_option linter.constructorNameAsVariable false
set_option linter.unusedVariables false
set_option linter.unusedSimpArgs false
set_option maxRecDepth 100000
set_option maxHeartbeats 1000000
namespace Go.Proofs.Ytmldccfchnlpgaa
open Go Go.Vc
theorem putBig_get (x : UInt32) (j : Nat) (h : j < 4) : (u_putBig x).getD j 0 = real.ofI8 (real.toI32 (real.shr32 x ((24 - 8 * j : Nat) : Int))) := by
  have h4 : j = 0 ∨ j = 1 ∨ j = 2 ∨ j = 3 := by omega
  have e : real.shr32 x 0 = x := by simp [real]
  rcases h4 with rfl | rfl | rfl | rfl
  · rfl
  · rfl
  · rfl
  · rw [show ((24 - 8 * 3 : Nat) : Int) = 0 from rfl, e]; rfl
theorem outB_get (st : List UInt32) (i : Nat) (h : i < 32) : (u_outB st 8).getD i 0 = real.ofI8 (real.toI32 (real.shr32 (st.getD (i / 4) 0) ((24 - 8 * (i % 4) : Nat) : Int))) := by
  rw [chunk_get (u_outB st) (fun i => u_putBig (st.getD i 0)) 32 8 0 (fun _ => rfl) (fun _ _ => rfl) (fun i hi => outB_len st i hi) (by omega) 8 (by omega) i (by omega), putBig_get _ _ (by omega)]
theorem shamt24 (m : Nat) (h : m < 4) : real.toI64 (real.sub64 (real.ofI64 (real.int 24)) (real.mul64 (real.ofI64 (real.int 8)) (real.ofI64 (m : Int)))) = ((24 - 8 * m : Nat) : Int) := by
  have : ∀ m : Fin 4, real.toI64 (real.sub64 (real.ofI64 (real.int 24)) (real.mul64 (real.ofI64 (real.int 8)) (real.ofI64 (m.val : Int)))) = ((24 - 8 * m.val : Nat) : Int) := by decide
  exact this ⟨m, h⟩
theorem outF_step (st : List UInt32) (j : Nat) (h : j < 32) : (u_outF st j).set (real.nat (real.int j)) (real.ofI8 (real.toI32 (real.shr32 (real.getW st (real.nat (real.quoi (real.int j) (real.int 4)))) (real.toI64 (real.sub64 (real.ofI64 (real.int 24)) (real.mul64 (real.ofI64 (real.int 8)) (real.ofI64 (real.remi (real.int j) (real.int 4))))))))) = u_outF st (j + 1) := by
  rw [quo4 j (by omega), show real.remi (real.int j) (real.int 4) = ((j % 4 : Nat) : Int) from rfl, shamt24 _ (by omega), show real.nat (real.int j) = j from rfl]
  exact fill_step _ 32 j 0 0 _ (outB_len st 8 (by omega)) h (outB_get st j h)
theorem outF_zero (st : List UInt32) : List.replicate 32 0 = u_outF st 0 := (fill_zero _ 32 0).symm
theorem outF_end (st : List UInt32) : u_outF st 32 = u_outB st 8 := fill_full _ 32 0 (outB_len _ 8 (by omega))
theorem outF_len (st : List UInt32) (j : Nat) (h : j ≤ 32) : (u_outF st j).length = 32 := by
  unfold u_outF
  rw [List.length_append, List.length_take, outB_len st 8 (by omega), List.length_replicate]; omega
theorem first_eq : [real.ofI32 (real.int 1779033703), real.ofI32 (real.int 3144134277), real.ofI32 (real.int 1013904242), real.ofI32 (real.int 2773480762), real.ofI32 (real.int 1359893119), real.ofI32 (real.int 2600822924), real.ofI32 (real.int 528734635), real.ofI32 (real.int 1541459225)] = us.first := by decide
theorem sum_end (m : List UInt8) (j : Nat) (h : j = u_nblk (u_pad m m.length)) : u_outF (u_blks u_first (u_pad m m.length) j) 32 = u_sum m := by
  subst h
  exact outF_end _
theorem blk_cut (s : List UInt32) (x : List UInt8) (j : Nat) (h : j < u_nblk x) (hx : x.length ≤ 1000000) : us.next (us.blks s x j) (real.cutB x (real.nat (real.int (real.muln 64 j))) (real.subn (real.nat (real.addi (real.int (real.muln 64 j)) (real.int 64))) (real.nat (real.int (real.muln 64 j))))) = us.blks s x (j + 1) := by
  have hn : 64 * j + 64 ≤ x.length := by unfold u_nblk at h; omega
  show u_next (u_blks s x j) (List.take ((IntKind.i64.wrap (((64 * j : Nat) : Int) + 64)).toNat - (((64 * j : Nat) : Int)).toNat) (List.drop (((64 * j : Nat) : Int)).toNat x)) = _
  rw [wrap_sm (by omega) (by omega), show (((64 * j : Nat) : Int) + 64).toNat - (((64 * j : Nat) : Int)).toNat = 64 by omega]
  exact blks_cut s x j h
theorem cut_end {x : List UInt8} {j : Nat} (h : j < u_nblk x) (hx : x.length ≤ 1000000) : real.nat (real.addi (real.int (real.muln 64 j)) (real.int 64)) = 64 * j + 64 := by
  have hn : 64 * j + 64 ≤ x.length := by unfold u_nblk at h; omega
  show (IntKind.i64.wrap (((64 * j : Nat) : Int) + 64)).toNat = _
  rw [wrap_sm (by omega) (by omega)]; omega
theorem cut_lo {x : List UInt8} {j : Nat} (h : j < u_nblk x) (hx : x.length ≤ 1000000) : real.pLe (real.nat (real.addi (real.int (real.muln 64 j)) (real.int 64))) (real.lenB x) := by
  rw [cut_end h hx]
  show 64 * j + 64 ≤ x.length
  unfold u_nblk at h; omega
theorem cut_in {x : List UInt8} {j : Nat} (h : j < u_nblk x) (hx : x.length ≤ 1000000) : real.pLe (real.addn (real.nat (real.int (real.muln 64 j))) (real.subn (real.nat (real.addi (real.int (real.muln 64 j)) (real.int 64))) (real.nat (real.int (real.muln 64 j))))) (real.lenB x) := by
  rw [cut_end h hx]
  show 64 * j + (64 * j + 64 - 64 * j) ≤ x.length
  unfold u_nblk at h; omega
theorem cut_le {x : List UInt8} {j : Nat} (h : j < u_nblk x) (hx : x.length ≤ 1000000) : real.pLe 64 (real.lenB (real.cutB x (real.nat (real.int (real.muln 64 j))) (real.subn (real.nat (real.addi (real.int (real.muln 64 j)) (real.int 64))) (real.nat (real.int (real.muln 64 j)))))) := by
  rw [cut_end h hx]
  show 64 ≤ (List.take (64 * j + 64 - 64 * j) (List.drop (64 * j) x)).length
  rw [List.length_take, List.length_drop]
  unfold u_nblk at h; omega
theorem gd_lt {j : Nat} {x : List UInt8} (h : ¬ real.pB (real.lti (real.int (real.muln 64 j)) (real.int (real.lenB x))) false) : 64 * j < x.length := lt_g h
theorem gd_ge {j : Nat} {x : List UInt8} (h : ¬ real.pB (real.lti (real.int (real.muln 64 j)) (real.int (real.lenB x))) true) : x.length ≤ 64 * j := ge_g h
theorem nblk_stop {x : List UInt8} {j : Nat} (hj : j ≤ u_nblk x) (h : x.length ≤ 64 * j) : j = u_nblk x := by unfold u_nblk at *; omega
theorem sub_step {j n : Nat} (h : j < n) : n - (j + 1) < n - j := by omega
theorem blk_next {x : List UInt8} {j : Nat} (h : j < u_nblk x) (hx : x.length ≤ 1000000) : real.addi (real.int (real.muln 64 j)) (real.int 64) = real.int (real.muln 64 (j + 1)) := by
  have hn : 64 * j + 64 ≤ x.length := by unfold u_nblk at h; omega
  show IntKind.i64.wrap (((64 * j : Nat) : Int) + 64) = ((64 * (j + 1) : Nat) : Int)
  rw [wrap_sm (by omega) (by omega)]; omega
theorem quo_val (i : Nat) (h : i < 32) : real.quoi (real.int i) (real.int 4) = ((i / 4 : Nat) : Int) := by
  show IntKind.i64.wrap ((i : Int).tdiv 4) = _
  rw [show (i : Int).tdiv 4 = ((i / 4 : Nat) : Int) from rfl, wrap_sm (by omega) (by omega)]
theorem quo_in (i : Nat) (h : i < 32) : real.pIn (real.quoi (real.int i) (real.int 4)) 8 := by
  rw [quo_val i h]; exact ⟨by omega, by omega⟩
theorem quo_lt (i : Nat) (h : i < 32) : real.pLt (real.nat (real.quoi (real.int i) (real.int 4))) 8 := by
  rw [quo_val i h]; show i / 4 < 8; omega
theorem nblk_go {x : List UInt8} {j : Nat} (h : 64 * j < x.length) (hm : x.length % 64 = 0) : j < u_nblk x := by unfold u_nblk; omega
end Go.Proofs.Ytmldccfchnlpgaa
namespace Go.Proofs.Ytmldccfchnlpgaa
open Go Go.Vc
attribute [local irreducible] u_sched u_rnds u_kc u_add u_blks u_first u_next u_padZ u_padP u_pad u_outB u_nblk u_fin u_ws u_wr u_sum u_outF
theorem r_ref2_Sum : Ready Try.prog 41 := by unfold Ready; kernel_rfl
noncomputable def sp_ref2_Sum (F : Fs) (U : Us) : Specs := [(97, s_ref1_Put F U), (98, s_ref2_block F U)]
theorem ok_ref2_Sum : SpecsOK Try.prog (sp_ref2_Sum real us) := sp_cons r_ref1_Put k_ref1_Put (sp_cons r_ref2_block k_ref2_block sp_nil)
noncomputable def an_ref2_Sum (F : Fs) (U : Us) (m : List UInt8) : Anns := [(3, ⟨Nat, fun j => j ≤ U.padZ m, fun j => F.subn (U.padZ m) j, fun j => ⟨[(0, .rb 1 (.bt m)), (2, .p 0 0 0), (3, .p 1 0 0), (4, .rw 2)], [(2, 0, .bk 23 [(32, .bt (F.repB 32))]), (3, 1, .bk 135 [(8, .wd U.first)]), (4, 2, .row 5 1 (.bt (U.padP m j)))]⟩⟩),
  (7, ⟨Nat, fun j => j ≤ U.nblk (U.pad m (F.int (F.lenB m))), fun j => F.subn (U.nblk (U.pad m (F.int (F.lenB m)))) j, fun j => ⟨[(2, .p 0 0 0), (3, .p 1 0 0), (4, .rw 2), (5, .i (F.int (F.muln 64 j)))], [(2, 0, .bk 23 [(32, .bt (F.repB 32))]), (3, 1, .bk 135 [(8, .wd (U.blks U.first (U.pad m (F.int (F.lenB m))) j))]), (4, 2, .row 5 1 (.bt (U.pad m (F.int (F.lenB m)))))]⟩⟩),
  (12, ⟨Nat, fun i => i ≤ 32, fun i => F.subn 32 i, fun i => ⟨[(2, .p 0 0 0), (3, .p 1 0 0), (6, .p 2 0 0), (7, .i (F.int i))], [(2, 0, .bk 23 [(32, .bt (F.repB 32))]), (3, 1, .bk 135 [(8, .wd (U.blks U.first (U.pad m (F.int (F.lenB m))) (U.nblk (U.pad m (F.int (F.lenB m))))))]), (6, 2, .bk 23 [(32, .bt (U.outF (U.blks U.first (U.pad m (F.int (F.lenB m))) (U.nblk (U.pad m (F.int (F.lenB m))))) i))])]⟩⟩)]
noncomputable def g_ref2_Sum (F : Fs) (U : Us) : Law
  | [.rb 1 (.bt m)] => some (F.pLe (F.lenB m) 800000, [.val (.ag 32 (.bt (U.sum m)))])
  | _ => none
noncomputable def s_ref2_Sum (F : Fs) (U : Us) : Vc.Spec := pureSpec F false [.row .kB] (g_ref2_Sum F U)
noncomputable def x_ref2_Sum (F : Fs) (U : Us) : Cx := ⟨Try.f41.ntmps, tt F, sp_ref2_Sum F U, [], [(9, ([(5, [0])], []))], [], []⟩
theorem c_ref2_Sum (m : List UInt8) (hc : real.pLe (real.lenB m) 800000) : vc real (x_ref2_Sum real us) (an_ref2_Sum real us m) [] (Try.f41.body.getD .skip) ⟨zipSl 0 [.rb 1 (.bt m)], [], 64⟩ (retOk real (tt real) false Try.f41.results.toList [.val (.ag 32 (.bt (us.sum m)))]) := by
  generalize hU : us = U
  generalize hF : real = F
  have hm : m.length ≤ 800000 := hc
  have hpm := pad_mod m (m.length : Int)
  have hpl := pad_len m (m.length : Int)
  have hz : u_padZ m < 64 := by unfold u_padZ; omega
  have hnb := nblk_mul hpm
  have hfl := first_len
  have hplen : (u_pad m ↑m.length).length ≤ 1000000 := by omega
  cbv
  repeat' first | apply And.intro | refine Classical.or_iff_not_imp_left.2 (fun _ => ?_) | exact trivial
  all_goals try (subst hF hU; simp only [real, us, Nat.le_eq, Int.cast_ofNat_Int, decide_eq_false_iff_not, decide_eq_true_eq, List.length_take, List.length_drop, List.length_append, List.length_replicate, List.length_set, List.length_cons, List.length_nil, List.length_zipWith] at *; (try simp (disch := omega) only [wrap_sm] at *); omega)
  · refine ⟨(0 : Nat), ?_⟩
    cbv; subst hF hU
    exact ⟨Nat.zero_le _, ⟨first_eq, trivial⟩, padP_zero m, trivial⟩
  · intro (j : Nat) hj
    have hj2 : j ≤ u_padZ m := by subst hF hU; exact hj
    clear hj
    have hlen := padP_len m j
    cbv
    repeat' first | apply And.intro | refine Classical.or_iff_not_imp_left.2 (fun _ => ?_) | exact trivial
    all_goals try (subst hF hU; simp only [real, us, Nat.le_eq, Int.cast_ofNat_Int, decide_eq_false_iff_not, decide_eq_true_eq, List.length_take, List.length_drop, List.length_append, List.length_replicate, List.length_set, List.length_cons, List.length_nil, List.length_zipWith] at *; (try simp (disch := omega) only [wrap_sm] at *); omega)
    · refine ⟨(j + 1 : Nat), ?_⟩
      cbv; subst hF hU
      rename_i hg
      have hlt := pad_go hj2 hg
      exact ⟨hlt, by show u_padZ m - (j + 1) < u_padZ m - j; omega, padP_step m j, trivial⟩
    · refine ⟨(0 : Nat), ?_⟩
      cbv; subst hF hU
      rename_i hg
      have e := pad_stop hj2 hg
      rw [e]
      exact ⟨Nat.zero_le _, ⟨rfl, trivial⟩, ⟨blks_zero _ _, trivial⟩, pad_end m _, trivial⟩
    · intro (j : Nat) hj
      have hj2 : j ≤ u_nblk (u_pad m m.length) := by subst hF hU; exact hj
      clear hj
      have hbl := blks_len u_first (u_pad m m.length) hfl j
      cbv
      repeat' first | apply And.intro | refine Classical.or_iff_not_imp_left.2 (fun _ => ?_) | exact trivial
      all_goals try (subst hF hU; simp only [real, us, Nat.le_eq, Int.cast_ofNat_Int, decide_eq_false_iff_not, decide_eq_true_eq, List.length_take, List.length_drop, List.length_append, List.length_replicate, List.length_set, List.length_cons, List.length_nil, List.length_zipWith] at *; (try simp (disch := omega) only [wrap_sm] at *); omega)
      · subst hF hU; rename_i hg; exact cut_lo (nblk_go (gd_lt hg) hpm) hplen
      · subst hF hU; rename_i hg; exact cut_in (nblk_go (gd_lt hg) hpm) hplen
      · subst hF hU; exact hbl
      · subst hF hU; rename_i hg; exact cut_le (nblk_go (gd_lt hg) hpm) hplen
      · refine ⟨(j + 1 : Nat), ?_⟩
        cbv; subst hF hU
        rename_i hg
        have hlt := nblk_go (gd_lt hg) hpm
        exact ⟨hlt, sub_step hlt, ⟨blk_next hlt hplen, trivial⟩, ⟨blk_cut _ _ j hlt hplen, trivial⟩, trivial⟩
      · have e : j = u_nblk (u_pad m m.length) := by
          rename_i hg
          subst hF hU
          exact nblk_stop hj2 (gd_ge hg)
        refine ⟨(0 : Nat), ?_⟩
        cbv; subst hF hU e
        exact ⟨⟨rfl, trivial⟩, ⟨outF_zero _, trivial⟩, trivial⟩
      · intro (i : Nat) hi
        replace hi : i ≤ 32 := hi
        have hb8 := blks_len u_first (u_pad m m.length) hfl (u_nblk (u_pad m m.length))
        have hol := outF_len (u_blks u_first (u_pad m m.length) (u_nblk (u_pad m m.length))) i hi
        have hi1 : IntKind.i64.wrap ((i : Int) + 1) = (i : Int) + 1 := wrap_sm (by omega) (by omega)
        cbv
        repeat' first | apply And.intro | refine Classical.or_iff_not_imp_left.2 (fun _ => ?_) | exact trivial
        all_goals try (subst hF hU; simp only [real, us, Nat.le_eq, Int.cast_ofNat_Int, decide_eq_false_iff_not, decide_eq_true_eq, List.length_take, List.length_drop, List.length_append, List.length_replicate, List.length_set, List.length_cons, List.length_nil, List.length_zipWith] at *; (try simp (disch := omega) only [wrap_sm] at *); omega)
        · subst hF; rename_i hg; exact quo_in i (lt_g (n := 32) hg)
        · subst hF; rename_i hg; exact quo_lt i (lt_g (n := 32) hg)
        · have h32 := lt_g (j := i) (n := 32) (by subst hF; assumption)
          refine ⟨(i + 1 : Nat), ?_⟩
          cbv; subst hF hU
          exact ⟨by show i + 1 ≤ 32; omega, by show 32 - (i + 1) < 32 - i; omega, ⟨hi1, trivial⟩, ⟨outF_step _ i h32, trivial⟩, trivial⟩
        · have h32 := ge_g (j := i) (n := 32) (by subst hF; assumption)
          have e : i = 32 := by omega
          subst hF hU e
          exact sum_end m _ rfl
theorem k_ref2_Sum : SpecOK Try.prog 41 (s_ref2_Sum real us) := by
  refine pure_sound (x := x_ref2_Sum real us) ⟨tt_ok, ok_ref2_Sum, Go.Vc.ks_nil⟩ mixed Try.func41 rfl rfl (by kernel_rfl) ?_
  intro l c rs hg hc
  unfold g_ref2_Sum at hg
  split at hg
  · cases hg; exact ⟨Nat.le_of_ble_eq_true rfl, an_ref2_Sum real us _, [], c_ref2_Sum _ hc⟩
  · cases hg

end Go.Proofs.Ytmldccfchnlpgaa
set_option linter.unusedVariables false
set_option linter.unusedSimpArgs false
set_option maxRecDepth 100000
set_option maxHeartbeats 1000000
namespace Go.Proofs.Ytmldccfchnlpgaa
open Go Go.Vc
/-! ## What a hash is, in the conditions' words -/
theorem isW_first : us.isW us.first 8 := first_len
theorem isW_ws {s : List UInt32} (r b : List UInt8) (h : us.isW s 8) : us.isW (us.ws s r b) 8 := ws_len s r b h
theorem wr_small (r b : List UInt8) {N : Nat} (h : 64 ≤ N) : real.pLe (real.lenB (us.wr r b)) N := by
  show (u_wr r b).length ≤ N
  rw [wr_len]
  omega
theorem fin2 (m1 m2 : List UInt8) (n : Int) (h : n = (m1 ++ m2).length) : us.fin (us.ws (us.ws us.first [] m1) (us.wr [] m1) m2) (us.wr (us.wr [] m1) m2) n = us.sum (m1 ++ m2) := by
  show u_fin (u_ws (u_ws u_first [] m1) (u_wr [] m1) m2) (u_wr (u_wr [] m1) m2) n = u_sum (m1 ++ m2)
  rw [ws_ws, wr_wr]
  exact sum_ws _ n h
end Go.Proofs.Ytmldccfchnlpgaa
set_option linter.unusedVariables false
set_option linter.unusedSimpArgs false
set_option maxRecDepth 100000
set_option maxHeartbeats 1000000
namespace Go.Proofs.Ytmldccfchnlpgaa
open Go Go.Vc
theorem mpad_len (K : List UInt8) (c : UInt8) : (u_mpad K c).length = 64 := by
  unfold u_mpad
  rw [List.length_map, mfill_len]
theorem cut64 (K : List UInt8) (c : UInt8) : real.cutB (us.mpad K c) 0 64 = u_mpad K c := by
  show ((u_mpad K c).drop 0).take 64 = _
  rw [List.drop_zero, List.take_of_length_le (by rw [mpad_len]; omega)]
theorem cut32s (x : List UInt8) (h : x.length = 32) : real.cutB x 0 32 = x := by
  show (x.drop 0).take 32 = _
  rw [List.drop_zero, List.take_of_length_le (by omega)]
theorem c54 : real.ofI8 (real.int 54) = 54 := by decide
theorem c92 : real.ofI8 (real.int 92) = 92 := by decide
noncomputable abbrev inM (K m : List UInt8) : List UInt8 := us.fin (us.ws (us.ws us.first [] (real.cutB (us.mpad K (real.ofI8 (real.int 54))) 0 64)) (us.wr [] (real.cutB (us.mpad K (real.ofI8 (real.int 54))) 0 64)) m) (us.wr (us.wr [] (real.cutB (us.mpad K (real.ofI8 (real.int 54))) 0 64)) m) (real.addi (real.addi 0 (real.int (real.lenB (real.cutB (us.mpad K (real.ofI8 (real.int 54))) 0 64)))) (real.int (real.lenB m)))
noncomputable abbrev outM (K x : List UInt8) : List UInt8 := us.fin (us.ws (us.ws us.first [] (real.cutB (us.mpad K (real.ofI8 (real.int 92))) 0 64)) (us.wr [] (real.cutB (us.mpad K (real.ofI8 (real.int 92))) 0 64)) (real.cutB x 0 32)) (us.wr (us.wr [] (real.cutB (us.mpad K (real.ofI8 (real.int 92))) 0 64)) (real.cutB x 0 32)) (real.addi (real.addi 0 (real.int (real.lenB (real.cutB (us.mpad K (real.ofI8 (real.int 92))) 0 64)))) (real.int (real.lenB (real.cutB x 0 32))))
theorem two_add {a b : Nat} (h : a + b ≤ 1000000000) : real.addi (real.addi 0 (real.int a)) (real.int b) = ((a + b : Nat) : Int) := by
  have e : real.addi 0 (real.int a) = (a : Int) := by
    show IntKind.i64.wrap (0 + (a : Int)) = _
    rw [wrap_sm (by omega) (by omega)]; omega
  rw [e]
  show IntKind.i64.wrap ((a : Int) + (b : Int)) = _
  rw [wrap_sm (by omega) (by omega)]; omega
theorem inM_eq (K m : List UInt8) (hm : m.length ≤ 800000) : inM K m = u_sum (u_mpad K 54 ++ m) := by
  have hl := mpad_len K 54
  unfold inM
  rw [c54, cut64]
  refine fin2 _ _ _ ?_
  rw [List.length_append]
  exact two_add (a := (u_mpad K 54).length) (b := m.length) (by omega)
theorem outM_eq (K x : List UInt8) (hx : x.length = 32) : outM K x = u_sum (u_mpad K 92 ++ x) := by
  have hl := mpad_len K 92
  unfold outM
  rw [c92, cut64, cut32s x hx]
  refine fin2 _ _ _ ?_
  rw [List.length_append]
  exact two_add (a := (u_mpad K 92).length) (b := x.length) (by omega)
theorem mac_eq (K k m : List UInt8) (hm : m.length ≤ 800000) (h : K = u_mkey k) : outM K (inM K m) = us.mac k m := by
  rw [inM_eq K m hm, outM_eq K _ (sum_len _), h]
  rfl
theorem key_long {k : List UInt8} (h : ¬ real.pB (real.lti (real.int 64) (real.int (real.lenB k))) false) : real.cutB (us.sum k) 0 32 = u_mkey k := by
  have h1 := lt_g (j := 64) (n := k.length) h
  unfold u_mkey
  rw [if_pos h1]
  exact cut32s _ (sum_len k)
theorem key_short {k : List UInt8} (h : ¬ real.pB (real.lti (real.int 64) (real.int (real.lenB k))) true) : k = u_mkey k := by
  have h1 := ge_g (j := 64) (n := k.length) h
  unfold u_mkey
  rw [if_neg (by omega)]
theorem l32 (x : List UInt8) : real.pLe (real.addn 0 32) (real.lenB (us.sum x)) := by
  show 0 + 32 ≤ (u_sum x).length
  rw [sum_len]; omega
theorem l64 (x : List UInt8) (c : UInt8) : real.pLe (real.addn 0 64) (real.lenB (us.mpad x c)) := by
  show 0 + 64 ≤ (u_mpad x c).length
  rw [mpad_len]; omega
theorem lfin (s : List UInt32) (r : List UInt8) (n : Int) : real.pLe (real.addn 0 32) (real.lenB (us.fin s r n)) := by
  have h : (u_fin s r n).length = 32 := outB_len _ 8 (Nat.le_refl _)
  show 0 + 32 ≤ (u_fin s r n).length
  rw [h]; omega
attribute [local irreducible] u_sched u_rnds u_kc u_add u_blks u_first u_next u_padZ u_padP u_pad u_outB u_nblk u_fin u_ws u_wr u_sum u_mpad u_fill
theorem r_mac_Mac : Ready Try.prog 60 := by unfold Ready; kernel_rfl
noncomputable def sp_mac_Mac (F : Fs) (U : Us) : Specs := [(40, s_sha_Sum F U), (43, s_sha_New F U), (44, s_sha_Hash_Write F U), (45, s_sha_Hash_Sum F U), (115, s_mac_pad F U)]
theorem ok_mac_Mac : SpecsOK Try.prog (sp_mac_Mac real us) := sp_cons r_sha_Sum k_sha_Sum (sp_cons r_sha_New k_sha_New (sp_cons r_sha_Hash_Write k_sha_Hash_Write (sp_cons r_sha_Hash_Sum k_sha_Hash_Sum (sp_cons r_mac_pad k_mac_pad sp_nil))))
noncomputable def g_mac_Mac (F : Fs) (U : Us) : Law
  | [.rb 1 (.bt k), .rb 1 (.bt m)] => some (F.pLe (F.lenB k) 800000 ∧ F.pLe (F.lenB m) 800000, [.val (.ag 32 (.bt (U.mac k m)))])
  | _ => none
noncomputable def s_mac_Mac (F : Fs) (U : Us) : Vc.Spec := pureSpec F false [.row .kB, .row .kB] (g_mac_Mac F U)
noncomputable def x_mac_Mac (F : Fs) (U : Us) : Cx := ⟨Try.f60.ntmps, tt F, sp_mac_Mac F U, [], [], [], []⟩
theorem c_mac_Mac (k m : List UInt8) (hc : real.pLe (real.lenB k) 800000 ∧ real.pLe (real.lenB m) 800000) : vc real (x_mac_Mac real us) [] [] (Try.f60.body.getD .skip) ⟨zipSl 0 [.rb 1 (.bt k), .rb 1 (.bt m)], [], 64⟩ (retOk real (tt real) false Try.f60.results.toList [.val (.ag 32 (.bt (us.mac k m)))]) := by
  generalize hU : us = U
  generalize hF : real = F
  have hk : k.length ≤ 800000 := hc.1
  have hm : m.length ≤ 800000 := hc.2
  have f1 : ∀ x, F.pLe (F.addn 0 32) (F.lenB (U.sum x)) := by subst hF hU; exact l32
  have f2 : ∀ x c, F.pLe (F.addn 0 64) (F.lenB (U.mpad x c)) := by subst hF hU; exact l64
  have f3 : ∀ s r n, F.pLe (F.addn 0 32) (F.lenB (U.fin s r n)) := by subst hF hU; exact lfin
  have f4 : U.isW U.first 8 := by subst hU; exact isW_first
  have f5 : ∀ s r b, U.isW s 8 → U.isW (U.ws s r b) 8 := by subst hU; exact fun s r b h => isW_ws r b h
  have f6 : ∀ r b, F.pLe (F.lenB (U.wr r b)) 100000000 := by subst hF hU; exact fun r b => wr_small r b (by omega)
  have f7 : ∀ r b, F.pLe (F.lenB (U.wr r b)) 900000 := by subst hF hU; exact fun r b => wr_small r b (by omega)
  cbv
  repeat' first | apply And.intro | refine Classical.or_iff_not_imp_left.2 (fun _ => ?_) | exact trivial
  all_goals try (subst hF hU; simp only [real, us, Nat.le_eq, Int.cast_ofNat_Int, decide_eq_false_iff_not, decide_eq_true_eq, List.length_take, List.length_drop, List.length_append, List.length_replicate, List.length_set, List.length_cons, List.length_nil, List.length_zipWith] at *; (try simp (disch := omega) only [wrap_sm] at *); omega)
  all_goals first
    | exact f1 _
    | exact f2 _ _
    | exact f3 _ _ _
    | exact f4
    | exact f5 _ _ _ f4
    | exact f5 _ _ _ (f5 _ _ _ f4)
    | exact f6 _ _
    | exact f7 _ _
    | skip
  · rename_i h; subst hF hU; exact mac_eq _ k m hm (key_long h)
  · rename_i h; subst hF hU; exact mac_eq k k m hm (key_short h)
theorem k_mac_Mac : SpecOK Try.prog 60 (s_mac_Mac real us) := by
  refine pure_sound (x := x_mac_Mac real us) ⟨tt_ok, ok_mac_Mac, Go.Vc.ks_nil⟩ mixed Try.func60 rfl rfl (by kernel_rfl) ?_
  intro l c rs hg hc
  unfold g_mac_Mac at hg
  split at hg
  · cases hg; exact ⟨Nat.le_of_ble_eq_true rfl, [], [], c_mac_Mac _ _ hc⟩
  · cases hg

end Go.Proofs.Ytmldccfchnlpgaa
set_option linter.unusedVariables false
set_option linter.unusedSimpArgs false
set_option maxRecDepth 100000
set_option maxHeartbeats 1000000
namespace Go.Proofs.Ytmldccfchnlpgaa
open Go Go.Vc
def nN (n : Int) : Nat := (min (max n 0) 8160).toNat
theorem nn_eq (n : Int) : real.mini (real.maxi n (real.int 0)) (real.int 8160) = (nN n : Int) := by
  show (if (8160 : Int) < (if (0 : Int) > n then 0 else n) then 8160 else (if (0 : Int) > n then 0 else n)) = _
  unfold nN
  by_cases h : (0 : Int) > n
  · rw [if_pos h, if_neg (by omega)]; omega
  · rw [if_neg h]
    by_cases h2 : (8160 : Int) < n
    · rw [if_pos h2]; omega
    · rw [if_neg h2]; omega
theorem nN_le (n : Int) : nN n ≤ 8160 := by unfold nN; omega
noncomputable abbrev cnM (n : Int) : Nat := us.chN (real.repB (real.nat (real.mini (real.maxi n (real.int 0)) (real.int 8160))))
theorem cn_eq (n : Int) : cnM n = (nN n + 31) / 32 := by
  unfold cnM
  rw [nn_eq]
  show ((List.replicate (nN n) (0 : UInt8)).length + 31) / 32 = _
  rw [List.length_replicate]
theorem cn_le (n : Int) : cnM n ≤ 255 := by
  have := nN_le n
  rw [cn_eq]; omega
theorem mac_len (k m : List UInt8) : (u_mac k m).length = 32 := sum_len _
theorem mxL_len (k info : List UInt8) (i : Nat) : (u_mxL k info (i + 1)).length = 32 := mac_len _ _
theorem mxO_len (k info : List UInt8) : ∀ i, (u_mxO k info i).length = 32 * i
  | 0 => rfl
  | i + 1 => by
    rw [u_mxO, List.length_append, mxO_len k info i, mxL_len]; omega
theorem mx_lt {k info : List UInt8} {n : Int} {i : Nat} (h : ¬ real.pB (real.lti (real.int (real.lenB (us.mxO k info i))) (real.mini (real.maxi n (real.int 0)) (real.int 8160))) false) : i < cnM n := by
  rw [nn_eq] at h
  have h1 := lt_g (j := (u_mxO k info i).length) (n := nN n) h
  rw [mxO_len] at h1
  rw [cn_eq]; omega
theorem mx_ge {k info : List UInt8} {n : Int} {i : Nat} (h : ¬ real.pB (real.lti (real.int (real.lenB (us.mxO k info i))) (real.mini (real.maxi n (real.int 0)) (real.int 8160))) true) : cnM n ≤ i := by
  rw [nn_eq] at h
  have h1 := ge_g (j := (u_mxO k info i).length) (n := nN n) h
  rw [mxO_len] at h1
  rw [cn_eq]; omega
theorem cutk {k : List UInt8} (h : k.length = 32) : real.cutB k 0 32 = k := cut32s k h
theorem byte_of (j : Nat) : real.ofI8 (real.int j) = UInt8.ofNat j := by
  show UInt8.ofNat ((j : Int) % 2 ^ 8).toNat = _
  apply UInt8.toNat_inj.1
  rw [UInt8.toNat_ofNat', UInt8.toNat_ofNat']
  omega
theorem mx_first {k info : List UInt8} (hk : k.length = 32) : us.mac (real.cutB k 0 32) (real.appB (real.appB [] info) [real.ofI8 (real.int 1)]) = us.mxL k info 1 := by
  rw [cutk hk]
  have e : real.ofI8 (real.int 1) = UInt8.ofNat 1 := byte_of 1
  rw [e]; rfl
theorem mx_next {k info : List UInt8} (hk : k.length = 32) (j : Nat) : us.mac (real.cutB k 0 32) (real.appB (real.appB (real.cutB (us.mxL k info (j + 1)) 0 32) info) [real.ofI8 (real.int (j + 2))]) = us.mxL k info (j + 2) := by
  rw [cutk hk, cut32s (us.mxL k info (j + 1)) (mxL_len k info j), byte_of]
  rfl
theorem mx_out (k info : List UInt8) (i : Nat) : real.appB (us.mxO k info i) (real.cutB (us.mxL k info (i + 1)) 0 32) = us.mxO k info (i + 1) := by
  rw [cut32s (us.mxL k info (i + 1)) (mxL_len k info i)]
  rfl
theorem mx_out1 {k info : List UInt8} (hk : k.length = 32) : real.appB (us.mxO k info 0) (real.cutB (us.mac (real.cutB k 0 32) (real.appB (real.appB [] info) [real.ofI8 (real.int 1)])) 0 32) = us.mxO k info 1 := by
  rw [mx_first hk]
  exact mx_out k info 0
theorem mx_out2 {k info : List UInt8} (hk : k.length = 32) (j : Nat) : real.appB (us.mxO k info (j + 1)) (real.cutB (us.mac (real.cutB k 0 32) (real.appB (real.appB (real.cutB (us.mxL k info (j + 1)) 0 32) info) [real.ofI8 (real.int (j + 2))])) 0 32) = us.mxO k info (j + 2) := by
  rw [mx_next hk j]
  exact mx_out k info (j + 1)
theorem mxO_zero (k info : List UInt8) : us.mxO k info 0 = [] := rfl
theorem l32m (x y : List UInt8) : real.pLe (real.addn 0 32) (real.lenB (us.mac x y)) := by
  show 0 + 32 ≤ (u_mac x y).length
  rw [mac_len]; omega
theorem l32x (k info : List UInt8) (j : Nat) : real.pLe (real.addn 0 32) (real.lenB (us.mxL k info (j + 1))) := by
  show 0 + 32 ≤ (u_mxL k info (j + 1)).length
  rw [mxL_len]; omega
attribute [local irreducible] u_mac u_mxL u_mxO u_chN nN
noncomputable def sp_mac_Extract (F : Fs) (U : Us) : Specs := [(60, s_mac_Mac F U)]
noncomputable def g_mac_Extract (F : Fs) (U : Us) : Law
  | [.rb 1 (.bt k), .rb 1 (.bt m)] => some (F.pLe (F.lenB k) 800000 ∧ F.pLe (F.lenB m) 800000, [.val (.ag 32 (.bt (U.mac k m)))])
  | _ => none
noncomputable def s_mac_Extract (F : Fs) (U : Us) : Vc.Spec := pureSpec F false [.row .kB, .row .kB] (g_mac_Extract F U)
noncomputable def x_mac_Extract (F : Fs) (U : Us) : Cx := ⟨Try.f64.ntmps, tt F, sp_mac_Extract F U, [], [], [], []⟩
noncomputable def sp_mac_Expand_b (F : Fs) (U : Us) : Specs := [(60, s_mac_Mac F U)]
theorem ok_mac_Expand_b : SpecsOK Try.prog (sp_mac_Expand_b real us) := sp_cons r_mac_Mac k_mac_Mac sp_nil
noncomputable def an_mac_Expand_b (F : Fs) (U : Us) (k info : List UInt8) (n : Int) : Anns := [(4, ⟨Nat, fun i => F.pLe i (U.chN (F.repB (F.nat (F.mini (F.maxi n (F.int 0)) (F.int 8160))))), fun i => F.subn (U.chN (F.repB (F.nat (F.mini (F.maxi n (F.int 0)) (F.int 8160))))) i, fun i => match i with
  | 0 => ⟨[(1, .rb 1 (.bt info)), (2, .i (F.mini (F.maxi n (F.int 0)) (F.int 8160))), (3, .p 0 0 0), (7, .rw 1), (8, .nl), (9, .i (F.int 1))], [(3, 0, .bk 24 [(32, .bt k)]), (7, 1, .row 5 1 (.bt (U.mxO k info 0)))]⟩
  | Nat.succ j => ⟨[(1, .rb 1 (.bt info)), (2, .i (F.mini (F.maxi n (F.int 0)) (F.int 8160))), (3, .p 0 0 0), (7, .rw 1), (8, .sl 2 0 0 1 0 32), (9, .i (F.int (Nat.succ (Nat.succ j))))], [(3, 0, .bk 24 [(32, .bt k)]), (7, 1, .row 5 1 (.bt (U.mxO k info (Nat.succ j)))), (8, 2, .bk 23 [(32, .bt (U.mxL k info (Nat.succ j)))])]⟩⟩)]
noncomputable def g_mac_Expand_b (F : Fs) (U : Us) : GLaw := fun l mm => match l, mm with
  | [.ag 32 (.bt k), .rb 1 (.bt info), .i n], [] => some ⟨F.pLe (F.lenB info) 100000 ∧ U.isL k 32, [.sl 0 0 0 1 0 (F.nat (F.mini (F.maxi n (F.int 0)) (F.int 8160)))], [], [.row 5 1 (.bt (U.mxO k info (U.chN (F.repB (F.nat (F.mini (F.maxi n (F.int 0)) (F.int 8160)))))))]⟩
  | _, _ => none
noncomputable def s_mac_Expand_b (F : Fs) (U : Us) : Vc.Spec := gSpec 0 1 (g_mac_Expand_b F U)
noncomputable def x_mac_Expand_b (F : Fs) (U : Us) : Cx := ⟨Try.f61.ntmps, tt F, sp_mac_Expand_b F U, [], [], [], []⟩
theorem c_mac_Expand_b (k info : List UInt8) (n : Int) (hc : real.pLe (real.lenB info) 100000 ∧ us.isL k 32) : vc real (x_mac_Expand_b real us) (an_mac_Expand_b real us k info n) [] (Try.f61.body.getD .skip) ⟨zipSl 0 [.ag 32 (.bt k), .rb 1 (.bt info), .i n], zipMe 0 [], 64⟩ (retGOk real (tt real) Try.f61.results.toList [.sl 0 0 0 1 0 (real.nat (real.mini (real.maxi n (real.int 0)) (real.int 8160)))] [] [.row 5 1 (.bt (us.mxO k info (us.chN (real.repB (real.nat (real.mini (real.maxi n (real.int 0)) (real.int 8160)))))))]) := by
  generalize hU : us = U
  generalize hF : real = F
  have hi : info.length ≤ 100000 := hc.1
  have hk : k.length = 32 := by subst hU; exact hc.2
  cbv
  repeat' first | apply And.intro | refine Classical.or_iff_not_imp_left.2 (fun _ => ?_) | exact trivial
  all_goals try (subst hF hU; simp only [real, us, Nat.le_eq, Int.cast_ofNat_Int, decide_eq_false_iff_not, decide_eq_true_eq, List.length_take, List.length_drop, List.length_append, List.length_replicate, List.length_set, List.length_cons, List.length_nil, List.length_zipWith] at *; (try simp (disch := omega) only [wrap_sm] at *); omega)
  · refine ⟨(0 : Nat), ?_⟩
    cbv; subst hF hU
    exact ⟨Nat.zero_le _, mxO_zero k info, trivial⟩
  · intro (i : Nat) hi2
    have h1 : i ≤ cnM n := by subst hF hU; exact hi2
    have h2 := cn_le n
    clear hi2
    cases i with
    | zero =>
      cbv
      repeat' first | apply And.intro | refine Classical.or_iff_not_imp_left.2 (fun _ => ?_) | exact trivial
      all_goals try (subst hF hU; simp only [real, us, Nat.le_eq, Int.cast_ofNat_Int, decide_eq_false_iff_not, decide_eq_true_eq, List.length_take, List.length_drop, List.length_append, List.length_replicate, List.length_set, List.length_cons, List.length_nil, List.length_zipWith] at *; (try simp (disch := omega) only [wrap_sm] at *); omega)
      · subst hF hU; exact l32m _ _
      · rename_i g1
        refine ⟨(1 : Nat), ?_⟩
        cbv; subst hF hU
        have hlt := mx_lt g1
        exact ⟨hlt, sub_stepN (n := cnM n) (j := 0) hlt, ⟨addi1 (i := 1) (by omega), trivial⟩, mx_out1 hk, ⟨mx_first hk, trivial⟩, trivial⟩
      · rename_i g1; subst hF hU
        have hge := mx_ge g1
        exact congrArg (us.mxO k info) (Nat.le_antisymm h1 hge)
    | succ j =>
      cbv
      repeat' first | apply And.intro | refine Classical.or_iff_not_imp_left.2 (fun _ => ?_) | exact trivial
      all_goals try (subst hF hU; simp only [real, us, Nat.le_eq, Int.cast_ofNat_Int, decide_eq_false_iff_not, decide_eq_true_eq, List.length_take, List.length_drop, List.length_append, List.length_replicate, List.length_set, List.length_cons, List.length_nil, List.length_zipWith] at *; (try simp (disch := omega) only [wrap_sm] at *); omega)
      · subst hF hU; exact l32x k info j
      · subst hF hU; exact l32m _ _
      · rename_i g1
        refine ⟨(j + 2 : Nat), ?_⟩
        cbv; subst hF hU
        have hlt := mx_lt g1
        exact ⟨hlt, sub_stepN (n := cnM n) (j := j + 1) hlt, ⟨addi1 (i := j + 2) (by omega), trivial⟩, mx_out2 hk j, ⟨mx_next hk j, trivial⟩, trivial⟩
      · rename_i g1; subst hF hU
        have hge := mx_ge g1
        exact congrArg (us.mxO k info) (Nat.le_antisymm h1 hge)
theorem k_mac_Expand_b : SpecOK Try.prog 61 (s_mac_Expand_b real us) := by
  refine g_sound (n := 0) (q := 1) (x := x_mac_Expand_b real us) ⟨tt_ok, ok_mac_Expand_b, Go.Vc.ks_nil⟩ mixed Try.func61 rfl rfl (by kernel_rfl) (by decide) (fun j hj => by omega) ?_
  intro l mm c rs ch news hg hl hc
  unfold g_mac_Expand_b at hg
  split at hg
  · cases hg
    exact ⟨Nat.le_of_ble_eq_true rfl, an_mac_Expand_b real us _ _ _, [], c_mac_Expand_b _ _ _ hc⟩
  · cases hg

noncomputable def s_mac_Expand (F : Fs) (U : Us) : Vc.Spec := rbSpec F [.keep, .row (.kB), .keep] (s_mac_Expand_b F U)
theorem r_mac_Expand : Ready Try.prog 61 := by unfold Ready; kernel_rfl
theorem k_mac_Expand : SpecOK Try.prog 61 (s_mac_Expand real us) := rb_ok k_mac_Expand_b
end Go.Proofs.Ytmldccfchnlpgaa
set_option linter.unusedVariables false
set_option linter.unusedSimpArgs false
set_option maxRecDepth 100000
set_option maxHeartbeats 1000000
namespace Go.Proofs.Ytmldccfchnlpgaa
open Go Go.Vc
theorem mxO_ext (k info : List UInt8) (i : Nat) : ∀ m, ∃ T, u_mxO k info (i + m) = u_mxO k info i ++ T
  | 0 => ⟨[], by simp⟩
  | m + 1 => by
    obtain ⟨T, h⟩ := mxO_ext k info i m
    refine ⟨T ++ u_mxL k info (i + m + 1), ?_⟩
    rw [← Nat.add_assoc, u_mxO, h, List.append_assoc]
theorem mx_cut (k info : List UInt8) (n : Int) : real.cutB (us.mxO k info (cnM n)) 0 (real.nat (real.mini (real.maxi n (real.int 0)) (real.int 8160))) = us.mx k info n := by
  have h1 := cn_le n
  have h2 : nN n ≤ 32 * cnM n := by rw [cn_eq]; omega
  obtain ⟨T, hT⟩ := mxO_ext k info (cnM n) (255 - cnM n)
  rw [show cnM n + (255 - cnM n) = 255 by omega] at hT
  rw [nn_eq]
  show ((u_mxO k info (cnM n)).drop 0).take (nN n) = (u_mxO k info 255).take (nN n)
  rw [List.drop_zero, hT, List.take_append_of_le_length (by rw [mxO_len]; exact h2)]
theorem mx_len (k info : List UInt8) (n : Int) : (us.mx k info n).length = nN n := by
  have h := nN_le n
  show ((u_mxO k info 255).take (nN n)).length = nN n
  rw [List.length_take, mxO_len]; omega
theorem copy32 (x : List UInt8) (h : x.length = 32) : real.splB (real.repB 32) 0 (real.cutB x 0 (real.minn (real.lenB x) 32)) = x := by
  have e : real.cutB x 0 (real.minn (real.lenB x) 32) = x := by
    show (x.drop 0).take (min x.length 32) = x
    rw [List.drop_zero, List.take_of_length_le (by omega)]
  rw [e]
  show (List.replicate 32 (0 : UInt8)).take 0 ++ x ++ (List.replicate 32 (0 : UInt8)).drop (0 + x.length) = x
  rw [h, List.take_zero, List.nil_append, List.drop_of_length_le (by rw [List.length_replicate]; omega), List.append_nil]
theorem put_label (label : List UInt8) (n : UInt32) : real.appB label (us.put (real.ofI64 (real.toI32 n)) (real.int 4)) = label ++ putK (UInt64.ofNat n.toNat) 4 := by
  have hn := n.toNat_lt
  have e : real.ofI64 (real.toI32 n) = UInt64.ofNat n.toNat := by
    show UInt64.ofNat ((n.toNat : Int) % 2 ^ 64).toNat = _
    congr 1
    omega
  rw [e]; rfl
theorem put_fit {label : List UInt8} (h : label.length ≤ 90000) (n : UInt32) : real.pLe (real.lenB (real.appB label (us.put (real.ofI64 (real.toI32 n)) (real.int 4)))) 100000 := by
  rw [put_label]
  show (label ++ putK _ 4).length ≤ 100000
  rw [List.length_append, putK_len]; omega
theorem sl_fit (k info : List UInt8) (n : Int) : real.pLe (real.addn 0 (real.nat (real.mini (real.maxi n (real.int 0)) (real.int 8160)))) (real.lenB (us.mxO k info (cnM n))) := by
  have h2 : nN n ≤ 32 * cnM n := by rw [cn_eq]; omega
  rw [nn_eq]
  show 0 + nN n ≤ (u_mxO k info (cnM n)).length
  rw [mxO_len]; omega
theorem dv_eq (k label : List UInt8) (n : UInt32) : real.splB (real.repB 32) 0 (real.cutB (real.cutB (us.mxO k (real.appB label (us.put (real.ofI64 (real.toI32 n)) (real.int 4))) (cnM (real.int 32))) 0 (real.nat (real.mini (real.maxi (real.int 32) (real.int 0)) (real.int 8160)))) 0 (real.minn (real.lenB (real.cutB (us.mxO k (real.appB label (us.put (real.ofI64 (real.toI32 n)) (real.int 4))) (cnM (real.int 32))) 0 (real.nat (real.mini (real.maxi (real.int 32) (real.int 0)) (real.int 8160))))) 32)) = us.mdv k label n := by
  rw [mx_cut, put_label, copy32 _ (mx_len _ _ _)]
  rfl
attribute [local irreducible] u_mac u_mxL u_mxO u_chN u_mx
theorem r_mac_Derive : Ready Try.prog 62 := by unfold Ready; kernel_rfl
noncomputable def sp_mac_Derive (F : Fs) (U : Us) : Specs := [(106, s_bits_Put F U), (61, s_mac_Expand F U)]
theorem ok_mac_Derive : SpecsOK Try.prog (sp_mac_Derive real us) := sp_cons r_bits_Put k_bits_Put (sp_cons r_mac_Expand k_mac_Expand sp_nil)
noncomputable def g_mac_Derive (F : Fs) (U : Us) : Law
  | [.ag 32 (.bt k), .s label, .w32 n] => some (F.pLe (F.lenB label) 90000 ∧ U.isL k 32, [.val (.ag 32 (.bt (U.mdv k label n)))])
  | _ => none
noncomputable def s_mac_Derive (F : Fs) (U : Us) : Vc.Spec := pureSpec F false [.keep, .keep, .keep] (g_mac_Derive F U)
noncomputable def x_mac_Derive (F : Fs) (U : Us) : Cx := ⟨Try.f62.ntmps, tt F, sp_mac_Derive F U, [], [(2, ([(0, [3]), (1, [0, 3]), (3, [0, 1]), (5, [0, 1, 3]), (6, [0, 1]), (7, [0])], [(6, [3])]))], [], []⟩
theorem c_mac_Derive (k label : List UInt8) (n : UInt32) (hc : real.pLe (real.lenB label) 90000 ∧ us.isL k 32) : vc real (x_mac_Derive real us) [] [] (Try.f62.body.getD .skip) ⟨zipSl 0 [.ag 32 (.bt k), .s label, .w32 n], [], 64⟩ (retOk real (tt real) false Try.f62.results.toList [.val (.ag 32 (.bt (us.mdv k label n)))]) := by
  generalize hU : us = U
  generalize hF : real = F
  have hl : label.length ≤ 90000 := hc.1
  have hk : k.length = 32 := by subst hU; exact hc.2
  cbv
  repeat' first | apply And.intro | refine Classical.or_iff_not_imp_left.2 (fun _ => ?_) | exact trivial
  all_goals try (subst hF hU; simp only [real, us, Nat.le_eq, Int.cast_ofNat_Int, decide_eq_false_iff_not, decide_eq_true_eq, List.length_take, List.length_drop, List.length_append, List.length_replicate, List.length_set, List.length_cons, List.length_nil, List.length_zipWith] at *; (try simp (disch := omega) only [wrap_sm] at *); omega)
  · subst hF hU; exact put_fit hl n
  · subst hU; exact hk
  · subst hF hU; exact sl_fit k (real.appB label (us.put (real.ofI64 (real.toI32 n)) (real.int 4))) (real.int 32)
  · subst hF hU; exact dv_eq k label n
theorem k_mac_Derive : SpecOK Try.prog 62 (s_mac_Derive real us) := by
  refine pure_sound (x := x_mac_Derive real us) ⟨tt_ok, ok_mac_Derive, Go.Vc.ks_nil⟩ mixed Try.func62 rfl rfl (by kernel_rfl) ?_
  intro l c rs hg hc
  unfold g_mac_Derive at hg
  split at hg
  · cases hg; exact ⟨Nat.le_of_ble_eq_true rfl, [], [], c_mac_Derive _ _ _ hc⟩
  · cases hg

end Go.Proofs.Ytmldccfchnlpgaa
set_option linter.unusedVariables false
set_option linter.unusedSimpArgs false
set_option maxRecDepth 100000
set_option maxHeartbeats 1000000
namespace Go.Proofs.Ytmldccfchnlpgaa
open Go Go.Vc
attribute [local irreducible] u_mac u_mxL u_mxO in
theorem mx_32 (k info : List UInt8) : us.mx k info 32 = u_mxL k info 1 := by
  obtain ⟨T, hT⟩ := mxO_ext k info 1 254
  have e9 : (min (max (32 : Int) 0) 8160).toNat = 32 := by decide
  have e0 : us.mx k info 32 = (u_mxO k info (1 + 254)).take (min (max (32 : Int) 0) 8160).toNat := rfl
  have e : u_mxO k info 1 = u_mxL k info 1 := by rw [u_mxO, u_mxO, List.nil_append]
  rw [e0, e9, hT, e, List.take_append_of_le_length (by rw [mxL_len]; omega), List.take_of_length_le (by rw [mxL_len]; omega)]
attribute [local irreducible] u_mac u_mxL u_mxO u_chN u_mx u_mdv u_hex
noncomputable def sp_law3_known (F : Fs) (U : Us) : Specs := [(60, s_mac_Mac F U), (42, s_sha_Hex F U), (61, s_mac_Expand F U), (63, s_mac_Equal F U), (62, s_mac_Derive F U)]
noncomputable def g_law3_known (F : Fs) (U : Us) : Law
  | [] => some (True, [.val (.kb true)])
  | _ => none
noncomputable def s_law3_known (F : Fs) (U : Us) : Vc.Spec := pureSpec F false [] (g_law3_known F U)
noncomputable def x_law3_known (F : Fs) (U : Us) : Cx := ⟨Try.f59.ntmps, tt F, sp_law3_known F U, [], [], [], [2]⟩
end Go.Proofs.Ytmldccfchnlpgaa
set_option linter.unusedVariables false
set_option linter.unusedSimpArgs false
set_option maxRecDepth 100000
set_option maxHeartbeats 1000000
namespace Go.Proofs.Ytmldccfchnlpgaa
open Go Go.Vc
/-! ## Bytes copied one by one into an array of noughts -/
theorem cp_val (n i : Nat) (X : List UInt8) (h : i ≤ X.length) : real.splB (real.repB n) 0 (real.cutB X 0 i) = X.take i ++ List.replicate (n - i) 0 := by
  show (List.replicate n (0 : UInt8)).take 0 ++ (X.drop 0).take i ++ (List.replicate n (0 : UInt8)).drop (0 + ((X.drop 0).take i).length) = _
  rw [List.drop_zero, List.take_zero, List.nil_append, List.drop_replicate, List.length_take, Nat.zero_add, Nat.min_eq_left h]
theorem cp_zero (n : Nat) (X : List UInt8) : real.repB n = real.splB (real.repB n) 0 (real.cutB X 0 0) := by
  rw [cp_val n 0 X (Nat.zero_le _)]
  rfl
theorem cp_step (n i : Nat) (X : List UInt8) (h : i < X.length) (hn : i < n) : real.setB (real.splB (real.repB n) 0 (real.cutB X 0 i)) i (real.getB X i) = real.splB (real.repB n) 0 (real.cutB X 0 (i + 1)) := by
  rw [cp_val n i X (by omega), cp_val n (i + 1) X h]
  show (X.take i ++ List.replicate (n - i) 0).set i (X.getD i 0) = _
  rw [List.set_append_right _ _ (by rw [List.length_take]; omega), List.length_take, Nat.min_eq_left (by omega), Nat.sub_self, show n - i = (n - (i + 1)) + 1 by omega, List.replicate_succ, List.set_cons_zero, List.take_succ_eq_append_getElem h, List.append_assoc]
  rw [List.getD_eq_getElem?_getD, List.getElem?_eq_getElem h]
  rfl
theorem cp_end (n : Nat) (X : List UInt8) (h : n ≤ X.length) : real.splB (real.repB n) 0 (real.cutB X 0 n) = X.take n := by
  rw [cp_val n n X h, Nat.sub_self, List.replicate_zero, List.append_nil]
theorem cp_full (n : Nat) (X : List UInt8) (h : X.length = n) : real.splB (real.repB n) 0 (real.cutB X 0 n) = X := by
  rw [cp_end n X (by omega), List.take_of_length_le (by omega)]
/-- one 'copy' of as much as there is -/
theorem copyN (n : Nat) (X : List UInt8) (h : X.length = n) : real.splB (real.repB n) 0 (real.cutB X 0 (real.minn (real.lenB X) n)) = X := by
  have e : real.minn (real.lenB X) n = n := by show min X.length n = n; omega
  rw [e, cp_full n X h]
theorem copyG (n : Nat) (X : List UInt8) (h : n ≤ X.length) : real.splB (real.repB n) 0 (real.cutB X 0 (real.minn (real.lenB X) n)) = X.take n := by
  have e : real.minn (real.lenB X) n = n := by show min X.length n = n; omega
  rw [e, cp_end n X h]
theorem cutAll (X : List UInt8) (n : Nat) (h : X.length = n) : real.cutB X 0 n = X := by
  show (X.drop 0).take n = X
  rw [List.drop_zero, List.take_of_length_le (by omega)]
end Go.Proofs.Ytmldccfchnlpgaa
set_option linter.unusedVariables false
set_option linter.unusedSimpArgs false
set_option maxRecDepth 100000
set_option maxHeartbeats 1000000
namespace Go.Proofs.Ytmldccfchnlpgaa
open Go Go.Vc
/-! ## Sealed bytes, in plain words -/
theorem sx_tw (k n : List UInt8) (c : UInt32) (m : List UInt8) : u_sx k n c (u_sx k n c m) = m := by
  have h := sx_len k n c m
  have e : u_sx k n c (u_sx k n c m) = List.zipWith (· ^^^ ·) (u_sx k n c m) (u_ks k n c m.length) := by
    show List.zipWith _ _ (u_ks k n c (u_sx k n c m).length) = _
    rw [h]
  rw [e]
  show List.zipWith (· ^^^ ·) (List.zipWith (· ^^^ ·) m (u_ks k n c m.length)) (u_ks k n c m.length) = m
  rw [xor_twice, ks_len]
  simp
theorem mdvLen (k info : List UInt8) (x : UInt32) : (us.mdv k info x).length = 32 := by
  have e : us.mdv k info x = us.mx k (info ++ putK (UInt64.ofNat x.toNat) 4) 32 := rfl
  rw [e, mx_len]
  decide
theorem nonce_len (p : UInt32) (g : UInt64) : (u_nonce p g).length = 12 := by
  unfold u_nonce
  rw [List.length_append, putK_len, putK_len]
theorem tag_len (k n aad c : List UInt8) : (u_tag k n aad c).length = 16 := by
  unfold u_tag
  rw [List.length_take, mac_len]; omega
theorem enc_len (k n p : List UInt8) : (u_enc k n p).length = p.length := sx_len _ _ _ _
theorem enc_enc (k n p : List UInt8) : u_enc k n (u_enc k n p) = p := sx_tw _ _ _ _
theorem seal_len (k n aad p : List UInt8) : (u_seal k n aad p).length = p.length + 16 := by
  unfold u_seal
  rw [List.length_append, enc_len, tag_len]
attribute [local irreducible] u_enc u_tag
theorem opE_split (k n aad x y : List UInt8) (h : y.length = 16) : u_opE k n aad (x ++ y) = if y = u_tag k n aad x then 0 else 50 := by
  unfold u_opE
  have hl : (x ++ y).length - 16 = x.length := by rw [List.length_append]; omega
  rw [if_neg (by rw [List.length_append]; omega), hl, List.drop_left, List.take_left]
theorem opB_split (k n aad x y : List UInt8) (h : y.length = 16) : u_opB k n aad (x ++ y) = if y = u_tag k n aad x then u_enc k n x else [] := by
  unfold u_opB
  have hl : (x ++ y).length - 16 = x.length := by rw [List.length_append]; omega
  rw [opE_split k n aad x y h, hl, List.take_left]
  by_cases e : y = u_tag k n aad x
  · rw [if_pos e, if_pos e, if_pos rfl]
  · rw [if_neg e, if_neg e, if_neg (by decide)]
theorem opE_seal (k n aad p : List UInt8) : u_opE k n aad (u_seal k n aad p) = 0 := by
  unfold u_seal
  rw [opE_split _ _ _ _ _ (tag_len _ _ _ _), if_pos rfl]
theorem opB_seal (k n aad p : List UInt8) : u_opB k n aad (u_seal k n aad p) = p := by
  unfold u_seal
  rw [opB_split _ _ _ _ _ (tag_len _ _ _ _), if_pos rfl, enc_enc]
theorem opE_short (k n aad b : List UInt8) : u_opE k n aad b = 10 ↔ b.length < 16 := by
  unfold u_opE
  constructor
  · intro h
    split at h
    · assumption
    · split at h <;> simp at h
  · intro h
    rw [if_pos h]
theorem opB_ok {k n aad b : List UInt8} (h : u_opE k n aad b = 0) : u_opB k n aad b = u_enc k n (b.take (b.length - 16)) := by
  unfold u_opB
  rw [if_pos h]
theorem wrp_len (k : List UInt8) (s : UInt32) (g : UInt64) (key : List UInt8) (h : key.length = 32) : (u_wrp k s g key).length = 48 := by
  unfold u_wrp
  rw [seal_len, h]
theorem uwK_len (k : List UInt8) (s : UInt32) (g : UInt64) (w : List UInt8) (h : w.length = 48) : (u_uwK k s g w).length = 32 := by
  unfold u_uwK u_uwE
  split
  · rename_i e
    rw [opB_ok e, enc_len, List.length_take]; omega
  · exact List.length_replicate ..
theorem uw_wrp (k : List UInt8) (s : UInt32) (g : UInt64) (key : List UInt8) : u_uwE k s g (u_wrp k s g key) = 0 ∧ u_uwK k s g (u_wrp k s g key) = key := by
  have h : u_uwE k s g (u_wrp k s g key) = 0 := opE_seal _ _ _ _
  refine ⟨h, ?_⟩
  unfold u_uwK
  rw [if_pos h]
  exact opB_seal _ _ _ _
/-- a tag's byte turned -/
theorem turn_eq (t : List UInt8) (i : Nat) (by_ : UInt8) (h : i < t.length) : t.set i (t.getD i 0 ^^^ by_) = t ↔ by_ = 0 := by
  have hg : t.getD i 0 = t[i] := by rw [List.getD_eq_getElem?_getD, List.getElem?_eq_getElem h]; rfl
  constructor
  · intro e
    have e2 : (t.set i (t.getD i 0 ^^^ by_))[i]? = t[i]? := by rw [e]
    rw [List.getElem?_set_self h, List.getElem?_eq_getElem h, hg] at e2
    have e3 : t[i] ^^^ by_ = t[i] := Option.some.inj e2
    have e4 : t[i] ^^^ (t[i] ^^^ by_) = t[i] ^^^ t[i] := by rw [e3]
    rw [← UInt8.xor_assoc, UInt8.xor_self, UInt8.zero_xor] at e4
    exact e4
  · intro e
    subst e
    rw [UInt8.xor_zero, hg, List.set_getElem_self]
end Go.Proofs.Ytmldccfchnlpgaa
set_option linter.unusedVariables false
set_option linter.unusedSimpArgs false
set_option maxRecDepth 100000
set_option maxHeartbeats 1000000
namespace Go.Proofs.Ytmldccfchnlpgaa
open Go Go.Vc
theorem u32_64 (p : UInt32) : real.ofI64 (real.toI32 p) = UInt64.ofNat p.toNat := by
  have hn := p.toNat_lt
  show UInt64.ofNat ((p.toNat : Int) % 2 ^ 64).toNat = _
  congr 1
  omega
theorem nonce_eq (p : UInt32) (g : UInt64) : real.splB (real.repB 12) 0 (real.cutB (real.appB (us.put (real.ofI64 (real.toI32 p)) (real.int 4)) (us.put g (real.int 8))) 0 (real.minn (real.lenB (real.appB (us.put (real.ofI64 (real.toI32 p)) (real.int 4)) (us.put g (real.int 8)))) 12)) = us.nonce p g := by
  have e : real.appB (us.put (real.ofI64 (real.toI32 p)) (real.int 4)) (us.put g (real.int 8)) = u_nonce p g := by
    rw [u32_64]; rfl
  rw [e, copyN 12 _ (nonce_len p g)]
  rfl
theorem r_seal_NonceOf : Ready Try.prog 69 := by unfold Ready; kernel_rfl
noncomputable def sp_seal_NonceOf (F : Fs) (U : Us) : Specs := [(106, s_bits_Put F U)]
theorem ok_seal_NonceOf : SpecsOK Try.prog (sp_seal_NonceOf real us) := sp_cons r_bits_Put k_bits_Put sp_nil
noncomputable def g_seal_NonceOf (F : Fs) (U : Us) : Law
  | [.w32 p, .w64 g] => some (True, [.val (.ag 12 (.bt (U.nonce p g)))])
  | _ => none
noncomputable def s_seal_NonceOf (F : Fs) (U : Us) : Vc.Spec := pureSpec F false [.keep, .keep] (g_seal_NonceOf F U)
noncomputable def x_seal_NonceOf (F : Fs) (U : Us) : Cx := ⟨Try.f69.ntmps, tt F, sp_seal_NonceOf F U, [], [(2, ([(0, [2, 3]), (2, [0]), (3, [0]), (5, [0])], [(3, [2]), (5, [3])]))], [], []⟩
theorem c_seal_NonceOf (p : UInt32) (g : UInt64) : vc real (x_seal_NonceOf real us) [] [] (Try.f69.body.getD .skip) ⟨zipSl 0 [.w32 p, .w64 g], [], 64⟩ (retOk real (tt real) false Try.f69.results.toList [.val (.ag 12 (.bt (us.nonce p g)))]) := by
  generalize hU : us = U
  generalize hF : real = F
  cbv
  repeat' first | apply And.intro | refine Classical.or_iff_not_imp_left.2 (fun _ => ?_) | exact trivial
  all_goals try (subst hF hU; simp only [real, us, Nat.le_eq, Int.cast_ofNat_Int, decide_eq_false_iff_not, decide_eq_true_eq, List.length_take, List.length_drop, List.length_append, List.length_replicate, List.length_set, List.length_cons, List.length_nil, List.length_zipWith] at *; (try simp (disch := omega) only [wrap_sm] at *); omega)
  · subst hF hU
    show (putK _ _).length ≤ 1000000
    rw [putK_len]; omega
  · subst hF hU; exact nonce_eq p g
theorem k_seal_NonceOf : SpecOK Try.prog 69 (s_seal_NonceOf real us) := by
  refine pure_sound (x := x_seal_NonceOf real us) ⟨tt_ok, ok_seal_NonceOf, Go.Vc.ks_nil⟩ mixed Try.func69 rfl rfl (by kernel_rfl) ?_
  intro l c rs hg hc
  unfold g_seal_NonceOf at hg
  split at hg
  · cases hg; exact ⟨Nat.le_of_ble_eq_true rfl, [], [], c_seal_NonceOf _ _⟩
  · cases hg

theorem mac32 (k m : List UInt8) : (us.mac k m).length = 32 := mac_len k m
attribute [local irreducible] u_mac u_mdv u_sx
theorem len64 {n : Nat} (h : n ≤ 100000) : real.ofI64 (real.int n) = UInt64.ofNat n := by
  show UInt64.ofNat ((n : Int) % 2 ^ 64).toNat = _
  congr 1
  omega
noncomputable abbrev tgK (k : List UInt8) : List UInt8 := real.cutB (us.mdv k (real.ofS ⟨⟨[109, 97, 99]⟩⟩) (real.ofI32 (real.int 0))) 0 32
noncomputable abbrev tg0 (aad : List UInt8) : List UInt8 := us.put (real.ofI64 (real.int (real.lenB aad))) (real.int 8)
noncomputable abbrev tgX (n aad c : List UInt8) : List UInt8 := real.appB (real.appB (real.appB (tg0 aad) aad) (real.cutB n 0 12)) c
theorem tgK_eq (k : List UInt8) : tgK k = u_mdv k [109, 97, 99] 0 := by
  unfold tgK
  exact cutAll _ 32 (mdvLen _ _ _)
theorem tg0_eq {aad : List UInt8} (h : aad.length ≤ 100000) : tg0 aad = putK (UInt64.ofNat aad.length) 8 := by
  unfold tg0
  have e : real.ofI64 (real.int (real.lenB aad)) = UInt64.ofNat aad.length := len64 h
  rw [e]; rfl
theorem tgX_eq {n aad : List UInt8} (c : List UInt8) (h : aad.length ≤ 100000) (hn : n.length = 12) : tgX n aad c = u_tagM n aad c := by
  unfold tgX
  rw [tg0_eq h, cutAll n 12 hn]
  rfl
theorem tag_eq (k : List UInt8) {n aad : List UInt8} (c : List UInt8) (h : aad.length ≤ 100000) (hn : n.length = 12) : real.splB (real.repB 16) 0 (real.cutB (real.cutB (us.mac (tgK k) (tgX n aad c)) 0 32) 0 (real.minn (real.lenB (real.cutB (us.mac (tgK k) (tgX n aad c)) 0 32)) 16)) = us.tag k n aad c := by
  have hl : (us.mac (tgK k) (tgX n aad c)).length = 32 := mac32 _ _
  rw [cutAll _ 32 hl, copyG 16 _ (by omega), tgK_eq, tgX_eq c h hn]
  rfl
theorem tg0_len (aad : List UInt8) : (tg0 aad).length = 8 := putK_len _ _
theorem tg1 {aad : List UInt8} (h : aad.length ≤ 100000) : real.pCap (real.addn (real.lenB (tg0 aad)) (real.lenB aad)) 1 := by
  have h0 := tg0_len aad
  show ((tg0 aad).length + aad.length) * 1 ≤ 140737488355328 ∧ (tg0 aad).length + aad.length ≤ 4611686018427387904
  omega
theorem tg2 {aad n : List UInt8} (h : aad.length ≤ 100000) : real.pCap (real.addn (real.lenB (real.appB (tg0 aad) aad)) (real.lenB (real.cutB n 0 12))) 1 := by
  have h0 := tg0_len aad
  show ((tg0 aad ++ aad).length + (List.take 12 (List.drop 0 n)).length) * 1 ≤ 140737488355328 ∧ (tg0 aad ++ aad).length + (List.take 12 (List.drop 0 n)).length ≤ 4611686018427387904
  rw [List.length_append, List.length_take]
  omega
theorem tg3 {aad n c : List UInt8} (h : aad.length ≤ 100000) (hc : c.length ≤ 100000) : real.pCap (real.addn (real.lenB (real.appB (real.appB (tg0 aad) aad) (real.cutB n 0 12))) (real.lenB c)) 1 := by
  have h0 := tg0_len aad
  show ((tg0 aad ++ aad ++ List.take 12 (List.drop 0 n)).length + c.length) * 1 ≤ 140737488355328 ∧ (tg0 aad ++ aad ++ List.take 12 (List.drop 0 n)).length + c.length ≤ 4611686018427387904
  rw [List.length_append, List.length_append, List.length_take]
  omega
theorem tg4 {aad n c : List UInt8} (h : aad.length ≤ 100000) (hc : c.length ≤ 100000) : real.pLe (real.lenB (tgX n aad c)) 800000 := by
  have h0 := tg0_len aad
  show (tg0 aad ++ aad ++ List.take 12 (List.drop 0 n) ++ c).length ≤ 800000
  rw [List.length_append, List.length_append, List.length_append, List.length_take]
  omega
theorem l32d (k l : List UInt8) (x : UInt32) : real.pLe (real.addn 0 32) (real.lenB (us.mdv k l x)) := by
  have e : real.lenB (us.mdv k l x) = 32 := mdvLen k l x
  rw [e]
  exact Nat.le_refl 32
theorem r_seal_TagOf : Ready Try.prog 75 := by unfold Ready; kernel_rfl
noncomputable def sp_seal_TagOf (F : Fs) (U : Us) : Specs := [(106, s_bits_Put F U), (62, s_mac_Derive F U), (60, s_mac_Mac F U)]
theorem ok_seal_TagOf : SpecsOK Try.prog (sp_seal_TagOf real us) := sp_cons r_bits_Put k_bits_Put (sp_cons r_mac_Derive k_mac_Derive (sp_cons r_mac_Mac k_mac_Mac sp_nil))
noncomputable def g_seal_TagOf (F : Fs) (U : Us) : Law
  | [.ag 32 (.bt k), .ag 12 (.bt n), .rb 1 (.bt aad), .rb 1 (.bt c)] => some ((U.isL k 32 ∧ U.isL n 12) ∧ F.pLe (F.lenB aad) 100000 ∧ F.pLe (F.lenB c) 100000, [.val (.ag 16 (.bt (U.tag k n aad c)))])
  | _ => none
noncomputable def s_seal_TagOf (F : Fs) (U : Us) : Vc.Spec := pureSpec F false [.keep, .keep, .row .kB, .row .kB] (g_seal_TagOf F U)
noncomputable def x_seal_TagOf (F : Fs) (U : Us) : Cx := ⟨Try.f75.ntmps, tt F, sp_seal_TagOf F U, [], [(6, ([(1, [0])], []))], [], []⟩
theorem c_seal_TagOf (k n aad c : List UInt8) (hc : (us.isL k 32 ∧ us.isL n 12) ∧ real.pLe (real.lenB aad) 100000 ∧ real.pLe (real.lenB c) 100000) : vc real (x_seal_TagOf real us) [] [] (Try.f75.body.getD .skip) ⟨zipSl 0 [.ag 32 (.bt k), .ag 12 (.bt n), .rb 1 (.bt aad), .rb 1 (.bt c)], [], 64⟩ (retOk real (tt real) false Try.f75.results.toList [.val (.ag 16 (.bt (us.tag k n aad c)))]) := by
  generalize hU : us = U
  generalize hF : real = F
  have hk : k.length = 32 := by subst hU; exact hc.1.1
  have hn : n.length = 12 := by subst hU; exact hc.1.2
  have ha : aad.length ≤ 100000 := hc.2.1
  have hcl : c.length ≤ 100000 := hc.2.2
  clear hc
  cbv
  repeat' first | apply And.intro | refine Classical.or_iff_not_imp_left.2 (fun _ => ?_) | exact trivial
  all_goals try (subst hF hU; simp only [real, us, Nat.le_eq, Int.cast_ofNat_Int, decide_eq_false_iff_not, decide_eq_true_eq, List.length_take, List.length_drop, List.length_append, List.length_replicate, List.length_set, List.length_cons, List.length_nil, List.length_zipWith] at *; (try simp (disch := omega) only [wrap_sm] at *); omega)
  · subst hU; exact hk
  · subst hF hU; exact tg1 ha
  · subst hF hU; exact tg2 ha
  · subst hF hU; exact tg3 ha hcl
  · subst hF hU; exact l32d _ _ _
  · subst hF hU; exact tg4 ha hcl
  · subst hF hU; exact l32m _ _
  · subst hF hU; exact tag_eq k c ha hn
theorem k_seal_TagOf : SpecOK Try.prog 75 (s_seal_TagOf real us) := by
  refine pure_sound (x := x_seal_TagOf real us) ⟨tt_ok, ok_seal_TagOf, Go.Vc.ks_nil⟩ mixed Try.func75 rfl rfl (by kernel_rfl) ?_
  intro l c rs hg hc
  unfold g_seal_TagOf at hg
  split at hg
  · cases hg; exact ⟨Nat.le_of_ble_eq_true rfl, [], [], c_seal_TagOf _ _ _ _ hc⟩
  · cases hg

theorem enc_eq (k n p : List UInt8) : us.sx (us.mdv k (real.ofS ⟨⟨[101, 110, 99]⟩⟩) (real.ofI32 (real.int 0))) n (real.ofI32 (real.int 1)) p = us.enc k n p := rfl
theorem r_seal_cross : Ready Try.prog 117 := by unfold Ready; kernel_rfl
noncomputable def sp_seal_cross (F : Fs) (U : Us) : Specs := [(62, s_mac_Derive F U), (37, s_stream_Xor F U)]
theorem ok_seal_cross : SpecsOK Try.prog (sp_seal_cross real us) := sp_cons r_mac_Derive k_mac_Derive (sp_cons r_stream_Xor k_stream_Xor sp_nil)
noncomputable def g_seal_cross (F : Fs) (U : Us) : Law
  | [.ag 32 (.bt k), .ag 12 (.bt n), .rb 1 (.bt p)] => some ((U.isL k 32 ∧ U.isL n 12) ∧ F.pLe (F.lenB p) 100000, [.row 5 1 (.bt (U.enc k n p))])
  | _ => none
noncomputable def s_seal_cross (F : Fs) (U : Us) : Vc.Spec := pureSpec F false [.keep, .keep, .row .kB] (g_seal_cross F U)
noncomputable def x_seal_cross (F : Fs) (U : Us) : Cx := ⟨Try.f117.ntmps, tt F, sp_seal_cross F U, [], [(1, ([(2, [0, 1])], []))], [], []⟩
theorem c_seal_cross (k n p : List UInt8) (hc : (us.isL k 32 ∧ us.isL n 12) ∧ real.pLe (real.lenB p) 100000) : vc real (x_seal_cross real us) [] [] (Try.f117.body.getD .skip) ⟨zipSl 0 [.ag 32 (.bt k), .ag 12 (.bt n), .rb 1 (.bt p)], [], 64⟩ (retOk real (tt real) false Try.f117.results.toList [.row 5 1 (.bt (us.enc k n p))]) := by
  generalize hU : us = U
  generalize hF : real = F
  have hk : k.length = 32 := by subst hU; exact hc.1.1
  have hn : n.length = 12 := by subst hU; exact hc.1.2
  have hp : p.length ≤ 100000 := hc.2
  clear hc
  have hd : ∀ l x, U.isL (U.mdv k l x) 32 := by subst hU; exact fun l x => mdvLen k l x
  cbv
  repeat' first | apply And.intro | refine Classical.or_iff_not_imp_left.2 (fun _ => ?_) | exact trivial
  all_goals try (subst hF hU; simp only [real, us, Nat.le_eq, Int.cast_ofNat_Int, decide_eq_false_iff_not, decide_eq_true_eq, List.length_take, List.length_drop, List.length_append, List.length_replicate, List.length_set, List.length_cons, List.length_nil, List.length_zipWith] at *; (try simp (disch := omega) only [wrap_sm] at *); omega)
  · subst hU; exact hk
  · exact hd _ _
  · subst hU; exact hn
  · subst hF hU; exact enc_eq k n p
theorem k_seal_cross : SpecOK Try.prog 117 (s_seal_cross real us) := by
  refine pure_sound (x := x_seal_cross real us) ⟨tt_ok, ok_seal_cross, Go.Vc.ks_nil⟩ mixed Try.func117 rfl rfl (by kernel_rfl) ?_
  intro l c rs hg hc
  unfold g_seal_cross at hg
  split at hg
  · cases hg; exact ⟨Nat.le_of_ble_eq_true rfl, [], [], c_seal_cross _ _ _ hc⟩
  · cases hg

attribute [local irreducible] u_enc u_tag
theorem seal_eq (k n aad p : List UInt8) : real.appB (us.enc k n p) (real.cutB (us.tag k n aad (us.enc k n p)) 0 16) = us.sel k n aad p := by
  have hl : (us.tag k n aad (us.enc k n p)).length = 16 := tag_len _ _ _ _
  rw [cutAll _ 16 hl]
  rfl
noncomputable def sp_seal_Seal (F : Fs) (U : Us) : Specs := [(117, s_seal_cross F U), (75, s_seal_TagOf F U)]
noncomputable def g_seal_Seal (F : Fs) (U : Us) : Law
  | [.ag 32 (.bt k), .ag 12 (.bt n), .rb 1 (.bt aad), .rb 1 (.bt p)] => some ((U.isL k 32 ∧ U.isL n 12) ∧ F.pLe (F.lenB aad) 100000 ∧ F.pLe (F.lenB p) 90000, [.row 5 1 (.bt (U.sel k n aad p))])
  | _ => none
noncomputable def s_seal_Seal (F : Fs) (U : Us) : Vc.Spec := pureSpec F false [.keep, .keep, .row .kB, .row .kB] (g_seal_Seal F U)
noncomputable def x_seal_Seal (F : Fs) (U : Us) : Cx := ⟨Try.f77.ntmps, tt F, sp_seal_Seal F U, [], [], [], []⟩
end Go.Proofs.Ytmldccfchnlpgaa
set_option linter.unusedVariables false
set_option linter.unusedSimpArgs false
set_option maxRecDepth 100000
set_option maxHeartbeats 1000000
namespace Go.Proofs.Ytmldccfchnlpgaa
open Go Go.Vc
noncomputable abbrev opN (b : List UInt8) : Int := real.subi (real.int (real.lenB b)) (real.int 16)
theorem op_n {b : List UInt8} (h : b.length ≤ 90000) : opN b = (b.length : Int) - 16 := by
  show IntKind.i64.wrap ((b.length : Int) - 16) = _
  rw [wrap_sm (by omega) (by omega)]
theorem op_lt {b : List UInt8} (h : b.length ≤ 90000) (hg : ¬ real.pB (real.lti (opN b) (real.int 0)) false) : b.length < 16 := by
  rw [op_n h] at hg
  have h1 : ¬ (decide ((b.length : Int) - 16 < 0) = false) := hg
  simp at h1
  omega
theorem op_ge {b : List UInt8} (h : b.length ≤ 90000) (hg : ¬ real.pB (real.lti (opN b) (real.int 0)) true) : 16 ≤ b.length := by
  rw [op_n h] at hg
  have h1 : ¬ (decide ((b.length : Int) - 16 < 0) = true) := hg
  simp at h1
  omega
theorem op_nat {b : List UInt8} (h : b.length ≤ 90000) : real.nat (opN b) = b.length - 16 := by
  rw [op_n h]
  show ((b.length : Int) - 16).toNat = _
  omega
noncomputable abbrev opX (b : List UInt8) : List UInt8 := real.cutB b (real.nat (opN b)) (real.subn (real.lenB b) (real.nat (opN b)))
theorem op_x {b : List UInt8} (h : b.length ≤ 90000) : opX b = b.drop (b.length - 16) := by
  unfold opX
  rw [op_nat h]
  show (b.drop (b.length - 16)).take (b.length - (b.length - 16)) = _
  rw [List.take_of_length_le (by rw [List.length_drop]; omega)]
theorem op_t {b : List UInt8} (h : b.length ≤ 90000) (h16 : 16 ≤ b.length) : real.splB (real.repB 16) 0 (real.cutB (opX b) 0 (real.minn (real.lenB (opX b)) 16)) = b.drop (b.length - 16) := by
  rw [op_x h]
  exact copyN 16 _ (by rw [List.length_drop]; omega)
theorem op_y {b : List UInt8} (h : b.length ≤ 90000) : real.cutB b 0 (real.nat (opN b)) = b.take (b.length - 16) := by
  rw [op_nat h]
  show (b.drop 0).take _ = _
  rw [List.drop_zero]
theorem opB_sh (k n aad : List UInt8) {b : List UInt8} (h : b.length < 16) : [] = us.opB k n aad b ∧ real.int 10 = us.opE k n aad b := by
  have e : u_opE k n aad b = 10 := (opE_short k n aad b).2 h
  refine ⟨?_, e.symm⟩
  show [] = u_opB k n aad b
  unfold u_opB
  rw [if_neg (by rw [e]; decide)]
theorem opB_no {k n aad b : List UInt8} (h : b.length ≤ 90000) (h16 : 16 ≤ b.length) (hg : ¬ real.pB (real.notb (real.eqB (real.splB (real.repB 16) 0 (real.cutB (opX b) 0 (real.minn (real.lenB (opX b)) 16))) (us.tag k n aad (real.cutB b 0 (real.nat (opN b)))))) false) : [] = us.opB k n aad b ∧ real.int 50 = us.opE k n aad b := by
  rw [op_t h h16, op_y h] at hg
  have h1 : ¬ ((!(b.drop (b.length - 16) == u_tag k n aad (b.take (b.length - 16)))) = false) := hg
  have h2 : b.drop (b.length - 16) ≠ u_tag k n aad (b.take (b.length - 16)) := by simpa using h1
  have e : u_opE k n aad b = 50 := by
    unfold u_opE
    rw [if_neg (by omega), if_neg h2]
  refine ⟨?_, e.symm⟩
  show [] = u_opB k n aad b
  unfold u_opB
  rw [if_neg (by rw [e]; decide)]
theorem opB_yes {k n aad b : List UInt8} (h : b.length ≤ 90000) (h16 : 16 ≤ b.length) (hg : ¬ real.pB (real.notb (real.eqB (real.splB (real.repB 16) 0 (real.cutB (opX b) 0 (real.minn (real.lenB (opX b)) 16))) (us.tag k n aad (real.cutB b 0 (real.nat (opN b)))))) true) : us.enc k n (real.cutB b 0 (real.nat (opN b))) = us.opB k n aad b ∧ real.int 0 = us.opE k n aad b := by
  rw [op_t h h16, op_y h] at hg
  have h1 : ¬ ((!(b.drop (b.length - 16) == u_tag k n aad (b.take (b.length - 16)))) = true) := hg
  have h2 : b.drop (b.length - 16) = u_tag k n aad (b.take (b.length - 16)) := by simpa using h1
  have e : u_opE k n aad b = 0 := by
    unfold u_opE
    rw [if_neg (by omega), if_pos h2]
  refine ⟨?_, e.symm⟩
  rw [op_y h]
  exact (opB_ok e).symm
attribute [local irreducible] u_enc u_tag u_opB u_opE
theorem r_seal_Open : Ready Try.prog 70 := by unfold Ready; kernel_rfl
noncomputable def sp_seal_Open (F : Fs) (U : Us) : Specs := [(75, s_seal_TagOf F U), (117, s_seal_cross F U)]
theorem ok_seal_Open : SpecsOK Try.prog (sp_seal_Open real us) := sp_cons r_seal_TagOf k_seal_TagOf (sp_cons r_seal_cross k_seal_cross sp_nil)
noncomputable def g_seal_Open (F : Fs) (U : Us) : Law
  | [.ag 32 (.bt k), .ag 12 (.bt n), .rb 1 (.bt aad), .rb 1 (.bt b)] => some ((U.isL k 32 ∧ U.isL n 12) ∧ F.pLe (F.lenB aad) 100000 ∧ F.pLe (F.lenB b) 90000, [.row 5 1 (.bt (U.opB k n aad b)), .val (.i (U.opE k n aad b))])
  | _ => none
noncomputable def s_seal_Open (F : Fs) (U : Us) : Vc.Spec := pureSpec F false [.keep, .keep, .row .kB, .row .kB] (g_seal_Open F U)
noncomputable def x_seal_Open (F : Fs) (U : Us) : Cx := ⟨Try.f70.ntmps, tt F, sp_seal_Open F U, [], [(5, ([(3, [0])], [])), (6, ([(1, [0]), (2, [0, 1]), (6, [0, 1, 2]), (7, [0])], [])), (8, ([(1, [0]), (4, [0, 1])], []))], [], []⟩
theorem c_seal_Open (k n aad b : List UInt8) (hc : (us.isL k 32 ∧ us.isL n 12) ∧ real.pLe (real.lenB aad) 100000 ∧ real.pLe (real.lenB b) 90000) : vc real (x_seal_Open real us) [] [] (Try.f70.body.getD .skip) ⟨zipSl 0 [.ag 32 (.bt k), .ag 12 (.bt n), .rb 1 (.bt aad), .rb 1 (.bt b)], [], 64⟩ (retOk real (tt real) false Try.f70.results.toList [.row 5 1 (.bt (us.opB k n aad b)), .val (.i (us.opE k n aad b))]) := by
  generalize hU : us = U
  generalize hF : real = F
  have hk : k.length = 32 := by subst hU; exact hc.1.1
  have hn : n.length = 12 := by subst hU; exact hc.1.2
  have ha : aad.length ≤ 100000 := hc.2.1
  have hb : b.length ≤ 90000 := hc.2.2
  clear hc
  cbv
  repeat' first | apply And.intro | refine Classical.or_iff_not_imp_left.2 (fun _ => ?_) | exact trivial
  all_goals try (subst hF hU; simp only [real, us, Nat.le_eq, Int.cast_ofNat_Int, decide_eq_false_iff_not, decide_eq_true_eq, List.length_take, List.length_drop, List.length_append, List.length_replicate, List.length_set, List.length_cons, List.length_nil, List.length_zipWith] at *; (try simp (disch := omega) only [wrap_sm] at *); omega)
  · rename_i g; subst hF hU; exact (opB_sh k n aad (op_lt hb g)).1.symm
  · rename_i g; subst hF hU; exact (opB_sh k n aad (op_lt hb g)).2
  · subst hU; exact hk
  · subst hU; exact hn
  · rename_i g1 g2; subst hF hU; exact (opB_no hb (op_ge hb g1) g2).1.symm
  · rename_i g1 g2; subst hF hU; exact (opB_no hb (op_ge hb g1) g2).2
  · subst hU; exact hk
  · subst hU; exact hn
  · rename_i g1 g2; subst hF hU; exact (opB_yes hb (op_ge hb g1) g2).1
  · rename_i g1 g2; subst hF hU; exact (opB_yes hb (op_ge hb g1) g2).2
theorem k_seal_Open : SpecOK Try.prog 70 (s_seal_Open real us) := by
  refine pure_sound (x := x_seal_Open real us) ⟨tt_ok, ok_seal_Open, Go.Vc.ks_nil⟩ mixed Try.func70 rfl rfl (by kernel_rfl) ?_
  intro l c rs hg hc
  unfold g_seal_Open at hg
  split at hg
  · cases hg; exact ⟨Nat.le_of_ble_eq_true rfl, [], [], c_seal_Open _ _ _ _ hc⟩
  · cases hg

theorem wt_eq : [real.ofI8 (real.int 119), real.ofI8 (real.int 114), real.ofI8 (real.int 97), real.ofI8 (real.int 112)] = u_wt := by decide
theorem nonceLen (p : UInt32) (g : UInt64) : us.isL (us.nonce p g) 12 := nonce_len p g
theorem selLen (k n aad p : List UInt8) : (us.sel k n aad p).length = p.length + 16 := seal_len k n aad p
attribute [local irreducible] u_seal u_nonce
noncomputable def sp_seal_Wrap (F : Fs) (U : Us) : Specs := [(69, s_seal_NonceOf F U), (77, s_seal_Seal F U)]
noncomputable def g_seal_Wrap (F : Fs) (U : Us) : Law
  | [.ag 32 (.bt k), .w32 s, .w64 g, .ag 32 (.bt key)] => some (U.isL k 32 ∧ U.isL key 32, [.val (.ag 48 (.bt (U.wrp k s g key)))])
  | _ => none
noncomputable def s_seal_Wrap (F : Fs) (U : Us) : Vc.Spec := pureSpec F false [.keep, .keep, .keep, .keep] (g_seal_Wrap F U)
noncomputable def x_seal_Wrap (F : Fs) (U : Us) : Cx := ⟨Try.f79.ntmps, tt F, sp_seal_Wrap F U, [], [(2, ([(0, [5]), (1, [0, 5]), (4, [0, 1, 5]), (5, [0, 1, 4]), (6, [0, 1, 4]), (7, [0, 1, 4, 5, 6]), (8, [0])], [(6, [5])]))], [], []⟩
theorem uwE_eq (k : List UInt8) (s : UInt32) (g : UInt64) (w : List UInt8) (h : w.length = 48) : us.opE k (us.nonce s g) [real.ofI8 (real.int 119), real.ofI8 (real.int 114), real.ofI8 (real.int 97), real.ofI8 (real.int 112)] (real.cutB w 0 48) = us.uwE k s g w := by
  rw [wt_eq, cutAll w 48 h]
  rfl
noncomputable abbrev uwV : List UInt8 := [real.ofI8 (real.int 119), real.ofI8 (real.int 114), real.ofI8 (real.int 97), real.ofI8 (real.int 112)]
theorem uw_no {k : List UInt8} {s : UInt32} {g : UInt64} {w : List UInt8} (h : w.length = 48) (hg : ¬ real.pB (real.notb (real.eqi (us.opE k (us.nonce s g) uwV (real.cutB w 0 48)) (real.int 0))) false) : real.repB 32 = us.uwK k s g w := by
  rw [uwE_eq k s g w h] at hg
  have h1 : ¬ ((!(u_uwE k s g w == 0)) = false) := hg
  have h2 : u_uwE k s g w ≠ 0 := by simpa using h1
  show List.replicate 32 0 = u_uwK k s g w
  unfold u_uwK
  rw [if_neg h2]
theorem uw_yes {k : List UInt8} {s : UInt32} {g : UInt64} {w : List UInt8} (h : w.length = 48) (hg : ¬ real.pB (real.notb (real.eqi (us.opE k (us.nonce s g) uwV (real.cutB w 0 48)) (real.int 0))) true) : real.splB (real.repB 32) 0 (real.cutB (us.opB k (us.nonce s g) uwV (real.cutB w 0 48)) 0 (real.minn (real.lenB (us.opB k (us.nonce s g) uwV (real.cutB w 0 48))) 32)) = us.uwK k s g w ∧ real.int 0 = us.uwE k s g w := by
  rw [uwE_eq k s g w h] at hg
  have h1 : ¬ ((!(u_uwE k s g w == 0)) = true) := hg
  have h2 : u_uwE k s g w = 0 := by simpa using h1
  refine ⟨?_, h2.symm⟩
  have e0 : us.uwK k s g w = us.opB k (us.nonce s g) u_wt w := by
    show u_uwK k s g w = u_opB k (u_nonce s g) u_wt w
    unfold u_uwK
    rw [if_pos h2]
  have hl : (us.uwK k s g w).length = 32 := uwK_len k s g w h
  have e : us.opB k (us.nonce s g) uwV (real.cutB w 0 48) = us.uwK k s g w := by
    unfold uwV
    rw [wt_eq, cutAll w 48 h, e0]
  rw [e, copyN 32 _ hl]
theorem r_seal_Unwrap : Ready Try.prog 72 := by unfold Ready; kernel_rfl
noncomputable def sp_seal_Unwrap (F : Fs) (U : Us) : Specs := [(69, s_seal_NonceOf F U), (70, s_seal_Open F U)]
theorem ok_seal_Unwrap : SpecsOK Try.prog (sp_seal_Unwrap real us) := sp_cons r_seal_NonceOf k_seal_NonceOf (sp_cons r_seal_Open k_seal_Open sp_nil)
noncomputable def g_seal_Unwrap (F : Fs) (U : Us) : Law
  | [.ag 32 (.bt k), .w32 s, .w64 g, .ag 48 (.bt w)] => some (U.isL k 32 ∧ U.isL w 48, [.val (.ag 32 (.bt (U.uwK k s g w))), .val (.i (U.uwE k s g w))])
  | _ => none
noncomputable def s_seal_Unwrap (F : Fs) (U : Us) : Vc.Spec := pureSpec F false [.keep, .keep, .keep, .keep] (g_seal_Unwrap F U)
noncomputable def x_seal_Unwrap (F : Fs) (U : Us) : Cx := ⟨Try.f72.ntmps, tt F, sp_seal_Unwrap F U, [], [(1, ([(0, [4]), (3, [0, 4]), (4, [0, 3]), (5, [0, 3]), (6, [0, 3, 4, 5])], [(5, [4])]))], [], []⟩
theorem c_seal_Unwrap (k : List UInt8) (s : UInt32) (g : UInt64) (w : List UInt8) (hc : us.isL k 32 ∧ us.isL w 48) : vc real (x_seal_Unwrap real us) [] [] (Try.f72.body.getD .skip) ⟨zipSl 0 [.ag 32 (.bt k), .w32 s, .w64 g, .ag 48 (.bt w)], [], 64⟩ (retOk real (tt real) false Try.f72.results.toList [.val (.ag 32 (.bt (us.uwK k s g w))), .val (.i (us.uwE k s g w))]) := by
  generalize hU : us = U
  generalize hF : real = F
  have hk : k.length = 32 := by subst hU; exact hc.1
  have hy : w.length = 48 := by subst hU; exact hc.2
  clear hc
  have hn : ∀ p g, U.isL (U.nonce p g) 12 := by subst hU; exact nonceLen
  cbv
  repeat' first | apply And.intro | refine Classical.or_iff_not_imp_left.2 (fun _ => ?_) | exact trivial
  all_goals try (subst hF hU; simp only [real, us, Nat.le_eq, Int.cast_ofNat_Int, decide_eq_false_iff_not, decide_eq_true_eq, List.length_take, List.length_drop, List.length_append, List.length_replicate, List.length_set, List.length_cons, List.length_nil, List.length_zipWith] at *; (try simp (disch := omega) only [wrap_sm] at *); omega)
  · subst hU; exact hk
  · exact hn _ _
  · rename_i g1; subst hF hU; exact uw_no hy g1
  · subst hF hU; exact uwE_eq k s g w hy
  · rename_i g1; subst hF hU; exact (uw_yes hy g1).1
  · rename_i g1; subst hF hU; exact (uw_yes hy g1).2
theorem k_seal_Unwrap : SpecOK Try.prog 72 (s_seal_Unwrap real us) := by
  refine pure_sound (x := x_seal_Unwrap real us) ⟨tt_ok, ok_seal_Unwrap, Go.Vc.ks_nil⟩ mixed Try.func72 rfl rfl (by kernel_rfl) ?_
  intro l c rs hg hc
  unfold g_seal_Unwrap at hg
  split at hg
  · cases hg; exact ⟨Nat.le_of_ble_eq_true rfl, [], [], c_seal_Unwrap _ _ _ _ hc⟩
  · cases hg

end Go.Proofs.Ytmldccfchnlpgaa
set_option linter.unusedVariables false
set_option linter.unusedSimpArgs false
namespace Go.Proofs
open Go.Shelf Go.RowKit Go.Lib
variable {P : Program} {ρ : Go.Shelf.Ren}
set_option maxHeartbeats 2000000 in
set_option maxRecDepth 1000000 in
/-- no byte and no address: not found -/
theorem vx_byte_none (L : Lays.n187 P ρ) (c : Nat) (cv : Int) (w : World) :
    Calls P (ρ.f 187) #[.slice none 0 c, .int .u8 cv] w fun e w' => e = .returned (.int .i64 (-1)) ∧ w' = w := by
  have t3 := L.t3; have t5 := L.t5; have t37 := L.t37
  have a3 := L.a3; have a5 := L.a5; have a37 := L.a37
  have mixed := L.mixed; have z3 := L.z3; have v3 := L.v3; have z5 := L.z5; have v5 := L.v5; have z37 := L.z37; have v37 := L.v37
  go_enter L.f187, Body.n187_ntmps ρ
  go_wp2
  rw [run_callFunc_extern L.f255 (by kernel_rfl) (by kernel_rfl) (by kernel_rfl) (e := Extern.BytealgIndexByte.indexByte) (by kernel_rfl), Lib.run_indexByteNil w 0 c cv]
  simp only [Result.andThen]
  rw [Oper.upon_value]
  go_wp2
  go_ret
  exact ⟨rfl, rfl⟩
set_option maxHeartbeats 2000000 in
set_option maxRecDepth 1000000 in
theorem vx_one_none (L : Lays.n185 P ρ) (c b2 o2 d : Nat) (cv : Int) (w : World) (hc2 : w.cell? ⟨b2, o2, none⟩ = some (.int .u8 cv)) :
    Calls P (ρ.f 185) #[.slice none 0 c, .slice (some ⟨b2, o2, none⟩) 1 d] w fun e w' => e = .returned (.int .i64 (-1)) ∧ w' = w := by
  have mixed := L.mixed; have t0 := L.t0; have a0 := L.a0; have z0 := L.z0; have v0 := L.v0; have t3 := L.t3; have a3 := L.a3; have z3 := L.z3; have v3 := L.v3; have t4 := L.t4; have a4 := L.a4; have z4 := L.z4; have v4 := L.v4; have t5 := L.t5; have a5 := L.a5; have z5 := L.z5; have v5 := L.v5; have t9 := L.t9; have a9 := L.a9; have z9 := L.z9; have v9 := L.v9; have t37 := L.t37; have a37 := L.a37; have z37 := L.z37; have v37 := L.v37; have t46 := L.t46; have a46 := L.a46; have z46 := L.z46; have v46 := L.v46; have t51 := L.t51; have a51 := L.a51; have z51 := L.z51; have v51 := L.v51; have t146 := L.t146; have a146 := L.a146; have z146 := L.z146; have v146 := L.v146; have g1 := L.g1
  have e187 : ∀ args w, (callFunc (ρ.f 187) args).run P w = .ok (.enter (ρ.f 187) args) w := enters_of L.f187 (by kernel_rfl) rfl
  go_enter L.f185, Body.n185_ntmps ρ
  go_wp2_with (go_at_fn (ρ.f 187); refine (vx_byte_none (P := P) (ρ := ρ) { L with } c cv _).mono ?_; rintro e w' ⟨rfl, rfl⟩)
  go_ret
  exact ⟨rfl, rfl⟩
end Go.Proofs
namespace Go.Vc
open Go Go.RowKit Go.Proofs
section
variable {P : Program} {ρ : Go.Shelf.Ren} {m : Hd} {w : World} {me : Mem} {kb : Nat}
theorem Base.drew {av : AV} {v : Value} (hb : Base m w me kb) (hv : RV m w av v) (q : Nat) : OkE m w me kb av [] v m (w.drewN q) := by
  have hp : Pres m w m (w.drewN q) := ⟨fun _ _ h => h, fun b h => ⟨rfl, h⟩⟩
  exact ⟨⟨fun _ _ h => h, rfl, fun _ h => h, fun _ h => .inl h, Nat.le_refl _, fun _ _ _ => rfl, fun k v b h1 h2 => .inl ⟨k, v, h1, h2⟩, rfl, rfl, rfl⟩, RV_mono hp _ _ hv, ⟨fun k ab hk => ABR_keep (hb.mem.at_ k ab hk) (fun _ h => h) (fun _ _ _ _ => rfl) hp, hb.mem.apart, hb.mem.pubs, hb.mem.live, hb.mem.okl, hb.mem.okn⟩, fun _ hk => .inl hk, hb.bd⟩
abbrev xsOf (a : List UInt8) : List Int := a.map fun c => (c.toNat : Int)
theorem xsOf_bytes (a : List UInt8) : Lib.bytesOf (xsOf a) = a := by
  unfold Lib.bytesOf xsOf
  rw [List.map_map]
  have : (fun n : Int => UInt8.ofNat n.toNat) ∘ (fun c : UInt8 => (c.toNat : Int)) = id := by
    funext c
    simp
  rw [this, List.map_id]
theorem xsOf_range (a : List UInt8) : ∀ x ∈ xsOf a, 0 ≤ x ∧ x < 256 := by
  intro x hx
  obtain ⟨c, _, rfl⟩ := List.mem_map.1 hx
  have := c.toNat_lt
  omega
theorem xsOf_get (a : List UInt8) (i : Nat) (h : i < a.length) : (xsOf a).getD i 0 = ((a[i].toNat : Nat) : Int) := by
  rw [List.getD_eq_getElem?_getD, List.getElem?_map, List.getElem?_eq_getElem h]
  rfl
/-- bytes.Index at two slices of bytes that stay -/
theorem index_calls (L : LaysM.n185 P ρ) (hg : ρ.g 1 < P.globals.size) (hgi : GInv P m w) {m1 : Hd} {a b : List UInt8} {v1 v2 : Value} (h1 : RV m1 w (.rb 1 (.bt a)) v1) (h2 : RV m1 w (.rb 1 (.bt b)) v2) (ha : a.length ≤ 4000000000) (hb : b.length ≤ 4000000000) :
    Calls P (ρ.f 185) #[v1, v2] w fun e w' => e = .returned (.int .i64 (Lib.index a b)) ∧ ∃ q, w' = w.drewN q := by
  obtain ⟨w0, hs, hgl⟩ := hgi
  obtain ⟨x, hx⟩ := L.s1_3 w0 hs
  have hcell : w.cell? ⟨ρ.g 1, 0, none⟩ = some (.int .i64 x) := by
    rw [← hx]
    refine World.cell?_of_block ?_
    cases ho : w0.heap[ρ.g 1]? with
    | none => exfalso; unfold World.cell? at hx; simp [ho] at hx
    | some o => exact (hgl _ o hg ho).2
  simp only [RV, CR, List.cons.injEq, and_true] at h1 h2
  obtain ⟨ad1, n1, c1, ds1, rfl, g1, g2, g3, g4⟩ := h1
  obtain ⟨ad2, n2, c2, ds2, rfl, k1, k2, k3, k4⟩ := h2
  simp only [RC] at g1 k1
  have hn1 : a.length = n1 := by rw [g1] at g2; simpa using g2
  have hn2 : b.length = n2 := by rw [k1] at k2; simpa using k2
  have same : ∀ {v : Value}, (Calls P (ρ.f 185) #[.slice ad1 n1 c1, .slice ad2 n2 c2] w fun e w' => e = .returned v ∧ w' = w) → Calls P (ρ.f 185) #[.slice ad1 n1 c1, .slice ad2 n2 c2] w fun e w' => e = .returned v ∧ ∃ q, w' = w.drewN q :=
    fun h => h.mono fun e w' ⟨he, hw⟩ => ⟨he, 0, hw⟩
  have cells : ∀ {ad : Addr} {c : List UInt8} (h : StableAt m1 w ad (c.map E8)) (i : Nat), i < c.length → w.cell? (ad.add i) = some (.int .u8 ((xsOf c).getD i 0)) := by
    intro ad c h i hi
    rw [xsOf_get c i hi]
    exact h.2 i _ (by rw [List.getElem?_map, List.getElem?_eq_getElem hi]; rfl)
  by_cases z2 : n2 = 0
  · subst z2
    have e : b = [] := List.length_eq_zero_iff.1 hn2
    subst e
    rw [Lib.index_empty]
    exact same (Any.bytes_Index_none { L with } ad1 ad2 n1 c1 c2 w)
  · obtain ⟨p2, rfl, s2⟩ := k4 (by omega)
    have hc2 := fun i hi => cells (k1 ▸ s2) i hi
    cases ad1 with
    | none =>
      have z1 : n1 = 0 := by
        cases n1 with
        | zero => rfl
        | succ n => obtain ⟨p, hp, _⟩ := g4 (Nat.succ_pos _); cases hp
      subst z1
      have e : a = [] := List.length_eq_zero_iff.1 hn1
      subst e
      have ei : Lib.index [] b = -1 := by
        unfold Lib.index
        rw [if_neg]
        intro hh
        have : b = [] := by simpa using hh
        rw [this] at hn2
        exact z2 hn2.symm
      rw [ei]
      by_cases o2 : n2 = 1
      · subst o2
        have hh := hc2 0 (by omega)
        have e2 : p2 = ⟨p2.block, p2.off, none⟩ := Lib.plain_of_cell (v := .int .u8 ((xsOf b).getD 0 0)) (by rw [← hh, Addr.add_zero'])
        obtain ⟨bb, oo, rfl⟩ : ∃ bb oo, p2 = ⟨bb, oo, none⟩ := ⟨_, _, e2⟩
        rw [Addr.add_zero'] at hh
        exact same (vx_one_none { L with } c1 bb oo c2 _ w hh)
      · exact same (Any.bytes_Index_longer { L with } none (some p2) 0 c1 n2 c2 w (by omega) (by omega) (by omega))
    | some p1 =>
      have hc1 : ∀ i, i < n1 → w.cell? (p1.add i) = some (.int .u8 ((xsOf a).getD i 0)) := by
        intro i hi
        obtain ⟨p, hp, s1⟩ := g4 (by omega)
        cases hp
        exact cells (g1 ▸ s1) i (by omega)
      have := Any.bytes_Index_at { L with } p1 p2 n1 c1 n2 c2 (xsOf a) (xsOf b) x w (by rw [List.length_map]; exact hn1) (by rw [List.length_map]; exact hn2) (xsOf_range a) (xsOf_range b) hc1 (fun i hi => hc2 i (by omega)) g3 (by omega) (by omega) hcell
      rw [xsOf_bytes, xsOf_bytes] at this
      exact this
noncomputable def indexLaw (fi : List UInt8 → List UInt8 → Int) (F : Fs) : Law
  | [.rb 1 (.bt a), .rb 1 (.bt b)] => some (F.pLe (F.lenB a) 4000000000 ∧ F.pLe (F.lenB b) 4000000000, [.val (.i (fi a b))])
  | _ => none
theorem index_ok (L : LaysM.n185 P ρ) (hg : ρ.g 1 < P.globals.size) {fi : List UInt8 → List UInt8 → Int} (hfi : ∀ a b, fi a b = Lib.index a b) : SpecOK P (ρ.f 185) (pureSpec real false [.row .kB, .row .kB] (indexLaw fi real)) := by
  intro m w me kb args vals e hgi hb hv he hc
  obtain ⟨l, e0, h1, h2, h3, h4, h5⟩ := resolve_sound hb _ args vals _ e hv he hc
  split at h1
  · rename_i c rs hq
    split at h1
    · simp only [Look.run, Option.some.injEq] at h1
      unfold indexLaw at hq
      split at hq
      · rename_i a b
        cases hq
        subst h1
        simp only [RVs] at h5
        obtain ⟨v1, r1, rfl, q1, v2, r2, rfl, q2, rfl⟩ := h5
        refine (index_calls L hg hgi q1 q2 h2.1 h2.2).mono ?_
        rintro en w' ⟨rfl, q, rfl⟩
        refine ⟨_, rfl, m, ?_⟩
        rw [← h3, ← h4]
        exact hb.drew (by simp only [outs, tupAV, RV, CR]; rw [hfi]) q
      · cases hq
    · exact (Look.run_no h1).elim
  · exact (Look.run_no h1).elim
end
end Go.Vc
set_option linter.unusedVariables false
set_option linter.unusedSimpArgs false
set_option maxRecDepth 100000
set_option maxHeartbeats 1000000
namespace Go.Proofs
open Go.Shelf
def Try.laysM185_ren : Go.Shelf.Ren := ⟨fun | 185 => 119 | 187 => 135 | 115 => 136 | 253 => 137 | 224 => 138 | 254 => 139 | 255 => 142 | 291 => 143 | n => n, fun | 37 => 27 | 3 => 3 | 4 => 4 | 0 => 0 | 5 => 5 | 46 => 39 | 9 => 9 | 146 => 183 | 51 => 22 | n => n, fun | 1 => 0 | n => n⟩
theorem Try.laysM185 : Go.Proofs.LaysM.n185 Try.prog Try.laysM185_ren := {
  mixed := by kernel_rfl
  f115 := Try.func136.trans (congrArg some (by kernel_rfl))
  f185 := Try.func119.trans (congrArg some (by kernel_rfl))
  f187 := Try.func135.trans (congrArg some (by kernel_rfl))
  f224 := Try.func138.trans (congrArg some (by kernel_rfl))
  f253 := Try.func137.trans (congrArg some (by kernel_rfl))
  f254 := Try.func139.trans (congrArg some (by kernel_rfl))
  f255 := Try.func142.trans (congrArg some (by kernel_rfl))
  f291 := Try.func143.trans (congrArg some (by kernel_rfl))
  t0 := Try.underlying0
  a0 := Try.isAgg0
  z0 := Try.sizeOf0
  v0 := Try.zeroValue0
  t3 := Try.underlying3
  a3 := Try.isAgg3
  z3 := Try.sizeOf3
  v3 := Try.zeroValue3
  t4 := Try.underlying4
  a4 := Try.isAgg4
  z4 := Try.sizeOf4
  v4 := Try.zeroValue4
  t5 := Try.underlying5
  a5 := Try.isAgg5
  z5 := Try.sizeOf5
  v5 := Try.zeroValue5
  t9 := Try.underlying9
  a9 := Try.isAgg9
  z9 := Try.sizeOf9
  v9 := Try.zeroValue9
  t37 := Try.underlying27
  a37 := Try.isAgg27
  z37 := Try.sizeOf27
  v37 := Try.zeroValue27
  t46 := Try.underlying39
  a46 := Try.isAgg39
  z46 := Try.sizeOf39
  v46 := Try.zeroValue39
  t51 := Try.underlying22
  a51 := Try.isAgg22
  z51 := Try.sizeOf22
  v51 := Try.zeroValue22
  t146 := Try.underlying183
  a146 := Try.isAgg183
  z146 := Try.sizeOf183
  v146 := Try.zeroValue183
  g1 := by kernel_rfl
  i0 := by kernel_rfl
  i3 := by kernel_rfl
  i4 := by kernel_rfl
  i5 := by kernel_rfl
  i9 := by kernel_rfl
  i37 := by kernel_rfl
  i46 := by kernel_rfl
  i51 := by kernel_rfl
  i146 := by kernel_rfl
  m1 := by kernel_rfl
  s1_3 := fun w h => Go.Proofs.cell_of_shapedOpen_int (zero := #[.int .i64 0]) (t := 3) h (of_decide_eq_true (by kernel_rfl)) (by kernel_rfl) rfl (by kernel_rfl) (by kernel_rfl) Try.underlying3 }
end Go.Proofs
namespace Go.Proofs.Ytmldccfchnlpgaa
open Go Go.Vc
/-! ## Where bytes stand, in plain words -/
theorem hits_occ (a b : List UInt8) (i : Nat) (h : i ≤ a.length) : u_hits a b i = Lib.occAt a b i := by
  unfold u_hits Lib.occAt
  by_cases hp : b <+: a.drop i
  · have hl := hp.length_le
    rw [List.length_drop] at hl
    rw [List.isPrefixOf_iff_prefix.2 hp, decide_eq_true (by omega), decide_eq_true (List.prefix_iff_eq_take.1 hp).symm]
    rfl
  · have h1 : b.isPrefixOf (a.drop i) = false := by
      cases hq : b.isPrefixOf (a.drop i) with
      | false => rfl
      | true => exact absurd (List.isPrefixOf_iff_prefix.1 hq) hp
    rw [h1]
    have h2 : ¬ (a.drop i).take b.length = b := fun e => hp (e ▸ List.take_prefix _ _)
    rw [decide_eq_false h2, Bool.and_false]
theorem findF_index (a b : List UInt8) : ∀ n i, n + i = a.length + 1 → (∀ j, j < i → Lib.occAt a b j = false) → u_findF a b n i = Lib.index a b
  | 0, i, h, hn => (Lib.index_none fun j hj => hn j (by omega)).symm
  | n + 1, i, h, hn => by
    rw [u_findF]
    have ho := hits_occ a b i (by omega)
    cases hq : u_hits a b i with
    | true =>
      rw [if_pos rfl]
      rw [hq] at ho
      exact (Lib.index_first (by omega) ho.symm hn).symm
    | false =>
      rw [if_neg (by decide)]
      rw [hq] at ho
      exact findF_index a b n (i + 1) (by omega) fun j hj => by
        by_cases e : j < i
        · exact hn j e
        · have : j = i := by omega
          subst this; exact ho.symm
theorem find_index (a b : List UInt8) : us.find a b = Lib.index a b := findF_index a b _ 0 rfl fun j hj => absurd hj (Nat.not_lt_zero j)
theorem noh_all (a b : List UInt8) : ∀ i, u_noh a b i = true → ∀ j, j < i → u_hits a b j = false
  | 0, _, j, hj => absurd hj (Nat.not_lt_zero j)
  | i + 1, h, j, hj => by
    have h : (u_noh a b i && !(u_hits a b i)) = true := h
    rw [Bool.and_eq_true, Bool.not_eq_true'] at h
    by_cases e : j < i
    · exact noh_all a b i h.1 j e
    · have : j = i := by omega
      subst this; exact h.2
theorem noh_of (a b : List UInt8) : ∀ i, (∀ j, j < i → u_hits a b j = false) → u_noh a b i = true
  | 0, _ => rfl
  | i + 1, h => by
    show (u_noh a b i && !(u_hits a b i)) = true
    rw [noh_of a b i (fun j hj => h j (by omega)), h i (by omega)]
    rfl
theorem findF_spec (a b : List UInt8) : ∀ n i, u_noh a b i = true → n + i = a.length + 1 → (u_findF a b n i = -1 ∧ u_noh a b (a.length + 1) = true) ∨ ∃ j : Nat, u_findF a b n i = (j : Int) ∧ u_hits a b j = true ∧ u_noh a b j = true
  | 0, i, hn, h => .inl ⟨rfl, by rw [← h, Nat.zero_add]; exact hn⟩
  | n + 1, i, hn, h => by
    rw [u_findF]
    cases hq : u_hits a b i with
    | true => exact .inr ⟨i, by rw [if_pos rfl], hq, hn⟩
    | false =>
      rw [if_neg (by decide)]
      refine findF_spec a b n (i + 1) ?_ (by omega)
      show (u_noh a b i && !(u_hits a b i)) = true
      rw [hn, hq]; rfl
theorem find_spec (a b : List UInt8) : (u_find a b = -1 ∧ u_noh a b (a.length + 1) = true) ∨ ∃ j : Nat, u_find a b = (j : Int) ∧ u_hits a b j = true ∧ u_noh a b j = true := findF_spec a b _ 0 rfl rfl
theorem find_hit {a b : List UInt8} {i : Nat} (hn : u_noh a b i = true) (h : u_hits a b i = true) : u_find a b = (i : Int) := by
  rcases find_spec a b with ⟨_, h2⟩ | ⟨j, h1, h2, h3⟩
  · have hl : i + b.length ≤ a.length := by
      unfold u_hits at h
      rw [Bool.and_eq_true, decide_eq_true_eq] at h
      exact h.1
    rw [noh_all a b _ h2 i (by omega)] at h
    cases h
  · rw [h1]
    by_cases c : j < i
    · rw [noh_all a b i hn j c] at h2; cases h2
    · by_cases c2 : i < j
      · rw [noh_all a b j h3 i c2] at h; cases h
      · have : i = j := by omega
        rw [this]
theorem find_of_hit {a b : List UInt8} {i : Nat} (h : u_hits a b i = true) : 0 ≤ u_find a b ∧ u_find a b ≤ (i : Int) := by
  rcases find_spec a b with ⟨_, h2⟩ | ⟨j, h1, h2, h3⟩
  · have hl : i + b.length ≤ a.length := by
      unfold u_hits at h
      rw [Bool.and_eq_true, decide_eq_true_eq] at h
      exact h.1
    rw [noh_all a b _ h2 i (by omega)] at h
    cases h
  · rw [h1]
    refine ⟨by omega, ?_⟩
    by_cases c2 : i < j
    · rw [noh_all a b j h3 i c2] at h; cases h
    · omega
noncomputable def s_bytes_Index (F : Fs) (U : Us) : Vc.Spec := pureSpec F false [.row .kB, .row .kB] (indexLaw U.find F)
theorem r_bytes_Index : Ready Try.prog 119 := by unfold Ready; kernel_rfl
theorem k_bytes_Index : SpecOK Try.prog 119 (s_bytes_Index real us) := index_ok Try.laysM185 (Nat.le_of_ble_eq_true (by kernel_rfl)) find_index
end Go.Proofs.Ytmldccfchnlpgaa
set_option linter.unusedVariables false
set_option linter.unusedSimpArgs false
set_option maxRecDepth 100000
set_option maxHeartbeats 1000000
namespace Go.Proofs.Ytmldccfchnlpgaa
open Go Go.Vc
attribute [local irreducible] u_uwE u_uwK u_cut48
/-! ## Which wrapped key stands first -/
theorem fs_none {α : Type} (f : Nat → Option α) (n : Nat) (h : ∀ j, j < n → f j = none) : (List.range n).findSome? f = none := by
  rw [List.findSome?_eq_none_iff]
  intro x hx
  exact h x (List.mem_range.1 hx)
theorem fs_hit {α : Type} (f : Nat → Option α) (x : α) (i : Nat) (hf : ∀ j, j < i → f j = none) (hx : f i = some x) : ∀ n, i < n → (List.range n).findSome? f = some x
  | 0, h => absurd h (Nat.not_lt_zero i)
  | n + 1, h => by
    rw [List.range_succ, List.findSome?_append]
    by_cases e : i < n
    · rw [fs_hit f x i hf hx n e]; rfl
    · have e2 : i = n := by omega
      subst e2
      rw [fs_none f i hf]
      simp [hx]
theorem wrI_all (im k : List UInt8) (s : UInt32) (i : Nat) : ∀ g, u_wrI im k s i g = true → ∀ j, j < g → u_uwE k s (UInt64.ofNat j) (u_cut48 im i) ≠ 0
  | 0, _, j, hj => absurd hj (Nat.not_lt_zero j)
  | g + 1, h, j, hj => by
    have h : (u_wrI im k s i g && !decide (u_uwE k s (UInt64.ofNat g) (u_cut48 im i) = 0)) = true := h
    rw [Bool.and_eq_true, Bool.not_eq_true', decide_eq_false_iff_not] at h
    by_cases e : j < g
    · exact wrI_all im k s i g h.1 j e
    · have : j = g := by omega
      subst this; exact h.2
theorem wrO_all (im k : List UInt8) (s : UInt32) (m : Nat) : ∀ i, u_wrO im k s m i = true → ∀ j, j < i → u_wrI im k s j (m + 1) = true
  | 0, _, j, hj => absurd hj (Nat.not_lt_zero j)
  | i + 1, h, j, hj => by
    have h : (u_wrO im k s m i && u_wrI im k s i (m + 1)) = true := h
    rw [Bool.and_eq_true] at h
    by_cases e : j < i
    · exact wrO_all im k s m i h.1 j e
    · have : j = i := by omega
      subst this; exact h.2
theorem wrI_none (im k : List UInt8) (s : UInt32) (i m : Nat) (h : u_wrI im k s i (m + 1) = true) : ((List.range (m + 1)).findSome? fun g => if u_uwE k s (UInt64.ofNat g) (u_cut48 im i) = 0 then some (u_uwK k s (UInt64.ofNat g) (u_cut48 im i)) else none) = none :=
  fs_none _ _ fun j hj => if_neg (wrI_all im k s i _ h j hj)
theorem wrF_none (im k : List UInt8) (s : UInt32) (m i : Nat) (hi : im.length + 1 - 48 ≤ i) (h : u_wrO im k s m i = true) : u_wrF im k s m = none :=
  fs_none _ _ fun j hj => wrI_none im k s j m (wrO_all im k s m i h j (by omega))
theorem wrF_hit (im k : List UInt8) (s : UInt32) (m i g : Nat) (hi : i < im.length + 1 - 48) (hO : u_wrO im k s m i = true) (hI : u_wrI im k s i g = true) (hg : g < m + 1) (hE : u_uwE k s (UInt64.ofNat g) (u_cut48 im i) = 0) : u_wrF im k s m = some (u_uwK k s (UInt64.ofNat g) (u_cut48 im i)) := by
  refine fs_hit _ _ i (fun j hj => wrI_none im k s j m (wrO_all im k s m i hO j hj)) ?_ _ hi
  exact fs_hit (fun g => if u_uwE k s (UInt64.ofNat g) (u_cut48 im i) = 0 then some (u_uwK k s (UInt64.ofNat g) (u_cut48 im i)) else none) (u_uwK k s (UInt64.ofNat g) (u_cut48 im i)) g (fun j hj => if_neg (wrI_all im k s i g hI j hj)) (if_pos hE) _ hg
theorem wrI_s {im k : List UInt8} {s : UInt32} {i g : Nat} (h : u_wrI im k s i g = true) (hE : u_uwE k s (UInt64.ofNat g) (u_cut48 im i) ≠ 0) : u_wrI im k s i (g + 1) = true := by
  show (u_wrI im k s i g && !decide (u_uwE k s (UInt64.ofNat g) (u_cut48 im i) = 0)) = true
  rw [h, decide_eq_false hE]; rfl
theorem wrO_s {im k : List UInt8} {s : UInt32} {m i : Nat} (h : u_wrO im k s m i = true) (hI : u_wrI im k s i (m + 1) = true) : u_wrO im k s m (i + 1) = true := by
  show (u_wrO im k s m i && u_wrI im k s i (m + 1)) = true
  rw [h, hI]; rfl
theorem cut48_len {im : List UInt8} {i : Nat} (h : i + 48 ≤ im.length) : (u_cut48 im i).length = 48 := by
  unfold u_cut48
  rw [List.length_take, List.length_drop]; omega
/-! ## Pieces -/
theorem plN_all (a b : List UInt8) (n : Nat) : ∀ i, u_plN a b n i = true → ∀ j, j < i → u_find a ((b.drop j).take n) < 0
  | 0, _, j, hj => absurd hj (Nat.not_lt_zero j)
  | i + 1, h, j, hj => by
    have h : (u_plN a b n i && decide (u_find a ((b.drop i).take n) < 0)) = true := h
    rw [Bool.and_eq_true, decide_eq_true_eq] at h
    by_cases e : j < i
    · exact plN_all a b n i h.1 j e
    · have : j = i := by omega
      subst this; exact h.2
theorem plN_of (a b : List UInt8) (n : Nat) : ∀ i, (∀ j, j < i → u_find a ((b.drop j).take n) < 0) → u_plN a b n i = true
  | 0, _ => rfl
  | i + 1, h => by
    show (u_plN a b n i && decide (u_find a ((b.drop i).take n) < 0)) = true
    rw [plN_of a b n i (fun j hj => h j (by omega)), decide_eq_true (h i (by omega))]
    rfl
theorem plN_no {a b : List UInt8} {n i N : Nat} (hi : i < N) (h : 0 ≤ u_find a ((b.drop i).take n)) : u_plN a b n N = false := by
  cases hq : u_plN a b n N with
  | false => rfl
  | true =>
    have := plN_all a b n N hq i hi
    omega
theorem plK_le (b : List UInt8) (least : Int) (h : 0 < b.length) : 1 ≤ u_plK b least ∧ u_plK b least ≤ b.length := by
  unfold u_plK
  omega
end Go.Proofs.Ytmldccfchnlpgaa
set_option linter.unusedVariables false
set_option linter.unusedSimpArgs false
set_option maxRecDepth 100000
set_option maxHeartbeats 1000000
namespace Go.Proofs.Ytmldccfchnlpgaa
open Go Go.Vc
attribute [local irreducible] u_find u_noh
noncomputable def sp_law27_find (F : Fs) (U : Us) : Specs := []
noncomputable def an_law27_find (F : Fs) (U : Us) (a b : List UInt8) : Anns := [(2, ⟨Nat, fun i => F.pB (U.noh a b i) true ∧ F.pLe i (F.addn (F.lenB a) 1), fun i => F.subn (F.addn (F.lenB a) 1) i, fun i => ⟨[(0, .rb 1 (.bt a)), (1, .rb 1 (.bt b)), (5, .i (F.int i))], []⟩⟩)]
noncomputable def g_law27_find (F : Fs) (U : Us) : Law
  | [.rb 1 (.bt a), .rb 1 (.bt b)] => some (F.pLe (F.lenB a) 100000 ∧ F.pLe (F.lenB b) 100000, [.val (.i (U.find a b))])
  | _ => none
noncomputable def s_law27_find (F : Fs) (U : Us) : Vc.Spec := pureSpec F false [.row .kB, .row .kB] (g_law27_find F U)
noncomputable def x_law27_find (F : Fs) (U : Us) : Cx := ⟨Try.f82.ntmps, tt F, sp_law27_find F U, [], [(4, ([(9, [4, 6, 7])], []))], [], []⟩
theorem r_image_Find : Ready Try.prog 84 := by unfold Ready; kernel_rfl
noncomputable def sp_image_Find (F : Fs) (U : Us) : Specs := [(119, s_bytes_Index F U)]
theorem ok_image_Find : SpecsOK Try.prog (sp_image_Find real us) := sp_cons r_bytes_Index k_bytes_Index sp_nil
noncomputable def g_image_Find (F : Fs) (U : Us) : Law
  | [.rb 1 (.bt a), .rb 1 (.bt b)] => some (F.pLe (F.lenB a) 100000 ∧ F.pLe (F.lenB b) 100000, [.val (.i (U.find a b))])
  | _ => none
noncomputable def s_image_Find (F : Fs) (U : Us) : Vc.Spec := pureSpec F false [.row .kB, .row .kB] (g_image_Find F U)
noncomputable def x_image_Find (F : Fs) (U : Us) : Cx := ⟨Try.f84.ntmps, tt F, sp_image_Find F U, [], [], [], []⟩
theorem c_image_Find (a b : List UInt8) (hc : real.pLe (real.lenB a) 100000 ∧ real.pLe (real.lenB b) 100000) : vc real (x_image_Find real us) [] [] (Try.f84.body.getD .skip) ⟨zipSl 0 [.rb 1 (.bt a), .rb 1 (.bt b)], [], 64⟩ (retOk real (tt real) false Try.f84.results.toList [.val (.i (us.find a b))]) := by
  generalize hU : us = U
  generalize hF : real = F
  have ha : a.length ≤ 100000 := hc.1
  have hb : b.length ≤ 100000 := hc.2
  clear hc
  cbv
  repeat' first | apply And.intro | refine Classical.or_iff_not_imp_left.2 (fun _ => ?_) | exact trivial
  all_goals try (subst hF hU; simp only [real, us, Nat.le_eq, Int.cast_ofNat_Int, decide_eq_false_iff_not, decide_eq_true_eq, List.length_take, List.length_drop, List.length_append, List.length_replicate, List.length_set, List.length_cons, List.length_nil, List.length_zipWith] at *; (try simp (disch := omega) only [wrap_sm] at *); omega)
theorem k_image_Find : SpecOK Try.prog 84 (s_image_Find real us) := by
  refine pure_sound (x := x_image_Find real us) ⟨tt_ok, ok_image_Find, Go.Vc.ks_nil⟩ mixed Try.func84 rfl rfl (by kernel_rfl) ?_
  intro l c rs hg hc
  unfold g_image_Find at hg
  split at hg
  · cases hg; exact ⟨Nat.le_of_ble_eq_true rfl, [], [], c_image_Find _ _ hc⟩
  · cases hg

end Go.Proofs.Ytmldccfchnlpgaa
set_option linter.unusedVariables false
set_option linter.unusedSimpArgs false
set_option maxRecDepth 100000
set_option maxHeartbeats 1000000
namespace Go.Proofs.Ytmldccfchnlpgaa
open Go Go.Vc
theorem pl_n {b : List UInt8} (hb : b.length ≤ 100000) (least : Int) : real.mini (real.maxi least (real.int 1)) (real.int (real.lenB b)) = real.int (u_plK b least) := by
  show (if (b.length : Int) < (if (1 : Int) > least then 1 else least) then (b.length : Int) else (if (1 : Int) > least then 1 else least)) = ((u_plK b least : Nat) : Int)
  unfold u_plK
  by_cases h : (1 : Int) > least
  · rw [if_pos h]
    by_cases h2 : (b.length : Int) < 1
    · rw [if_pos h2]; omega
    · rw [if_neg h2]; omega
  · rw [if_neg h]
    by_cases h2 : (b.length : Int) < least
    · rw [if_pos h2]; omega
    · rw [if_neg h2]; omega
theorem pl_m {b : List UInt8} (hb : b.length ≤ 100000) {k : Nat} (hk : k ≤ b.length) : real.addi (real.subi (real.int (real.lenB b)) (real.int k)) (real.int 1) = real.int (b.length - k + 1) := by
  have e : real.subi (real.int (real.lenB b)) (real.int k) = real.int (b.length - k) := subiN (i := b.length) (k := k) hk (by omega)
  rw [e]
  exact addiN (i := b.length - k) (k := 1) (by omega) (by omega)
theorem pl_e {b : List UInt8} (h : ¬ real.pB (real.eqi (real.int (real.lenB b)) (real.int 0)) true) : 0 < b.length := by
  have h1 : ¬ (((b.length : Int) == 0) = true) := h
  have h2 : (b.length : Int) ≠ 0 := by simpa using h1
  omega
theorem pl_z {b : List UInt8} (h : ¬ real.pB (real.eqi (real.int (real.lenB b)) (real.int 0)) false) : b.length = 0 := by
  have h1 : ¬ (((b.length : Int) == 0) = false) := h
  have h2 : (b.length : Int) = 0 := by simpa using h1
  omega
theorem pl_cut {b : List UInt8} {i k : Nat} (hi : i ≤ 100001) (hk : k ≤ 100000) : real.cutB b (real.nat (real.int i)) (real.subn (real.nat (real.addi (real.int i) (real.int k))) (real.nat (real.int i))) = (b.drop i).take k := by
  have e : real.addi (real.int i) (real.int k) = real.int (i + k) := addiN (by omega) (by omega)
  rw [e]
  show (b.drop i).take (i + k - i) = _
  rw [Nat.add_sub_cancel_left]
theorem pl_empty (a b : List UInt8) (least : Int) (h : b.length = 0) : false = us.plain a b least := by
  show false = (!decide (b.length = 0) && !(u_plN a b (u_plK b least) (b.length - u_plK b least + 1)))
  rw [decide_eq_true h]
  rfl
theorem pl_hit {a b : List UInt8} {least : Int} {i : Nat} (hb0 : 0 < b.length) (hi : i < b.length - u_plK b least + 1) (h : 0 ≤ u_find a ((b.drop i).take (u_plK b least))) : true = us.plain a b least := by
  show true = (!decide (b.length = 0) && !(u_plN a b (u_plK b least) (b.length - u_plK b least + 1)))
  rw [decide_eq_false (by omega), plN_no hi h]
  rfl
theorem pl_miss {a b : List UInt8} {least : Int} {i : Nat} (hi : b.length - u_plK b least + 1 ≤ i) (h : u_plN a b (u_plK b least) i = true) : false = us.plain a b least := by
  have h2 := plN_of a b (u_plK b least) (b.length - u_plK b least + 1) fun j hj => plN_all a b _ i h j (by omega)
  show false = (!decide (b.length = 0) && !(u_plN a b (u_plK b least) (b.length - u_plK b least + 1)))
  rw [h2, Bool.not_true, Bool.and_false]
theorem pl_s {a b : List UInt8} {n i : Nat} (h : u_plN a b n i = true) (h2 : u_find a ((b.drop i).take n) < 0) : real.pB (us.plN a b n (i + 1)) true := by
  show (u_plN a b n i && decide (u_find a ((b.drop i).take n) < 0)) = true
  rw [h, decide_eq_true h2]; rfl
attribute [local irreducible] u_find u_plN
theorem r_image_Plain : Ready Try.prog 85 := by unfold Ready; kernel_rfl
noncomputable def sp_image_Plain (F : Fs) (U : Us) : Specs := [(84, s_image_Find F U)]
theorem ok_image_Plain : SpecsOK Try.prog (sp_image_Plain real us) := sp_cons r_image_Find k_image_Find sp_nil
noncomputable def an_image_Plain (F : Fs) (U : Us) (a b : List UInt8) (least : Int) : Anns := [(5, ⟨Nat, fun i => F.pB (U.plN a b (U.plK b least) i) true ∧ F.pLe i (F.lenB b), fun i => F.subn (F.lenB b) i, fun i => ⟨[(0, .rb 1 (.bt a)), (1, .rb 1 (.bt b)), (7, .i (F.mini (F.maxi least (F.int 1)) (F.int (F.lenB b)))), (21, .i (F.addi (F.subi (F.int (F.lenB b)) (F.mini (F.maxi least (F.int 1)) (F.int (F.lenB b)))) (F.int 1))), (22, .i (F.int i))], []⟩⟩)]
noncomputable def g_image_Plain (F : Fs) (U : Us) : Law
  | [.rb 1 (.bt a), .rb 1 (.bt b), .i least] => some (F.pLe (F.lenB a) 100000 ∧ F.pLe (F.lenB b) 100000, [.val (.b (U.plain a b least))])
  | _ => none
noncomputable def s_image_Plain (F : Fs) (U : Us) : Vc.Spec := pureSpec F false [.row .kB, .row .kB, .keep] (g_image_Plain F U)
noncomputable def x_image_Plain (F : Fs) (U : Us) : Cx := ⟨Try.f85.ntmps, tt F, sp_image_Plain F U, [], [], [], []⟩
theorem c_image_Plain (a b : List UInt8) (least : Int) (hc : real.pLe (real.lenB a) 100000 ∧ real.pLe (real.lenB b) 100000) : vc real (x_image_Plain real us) (an_image_Plain real us a b least) [] (Try.f85.body.getD .skip) ⟨zipSl 0 [.rb 1 (.bt a), .rb 1 (.bt b), .i least], [], 64⟩ (retOk real (tt real) false Try.f85.results.toList [.val (.b (us.plain a b least))]) := by
  generalize hU : us = U
  generalize hF : real = F
  have ha : a.length ≤ 100000 := hc.1
  have hb : b.length ≤ 100000 := hc.2
  clear hc
  obtain ⟨kk, hkk⟩ : ∃ kk, u_plK b least = kk := ⟨_, rfl⟩
  have e1 : F.mini (F.maxi least (F.int 1)) (F.int (F.lenB b)) = F.int kk := by subst hF; rw [← hkk]; exact pl_n hb least
  cbv
  repeat' first | apply And.intro | refine Classical.or_iff_not_imp_left.2 (fun _ => ?_) | exact trivial
  all_goals (try simp only [e1] at *)
  all_goals try (subst hF hU; simp only [real, us, Nat.le_eq, Int.cast_ofNat_Int, decide_eq_false_iff_not, decide_eq_true_eq, List.length_take, List.length_drop, List.length_append, List.length_replicate, List.length_set, List.length_cons, List.length_nil, List.length_zipWith] at *; (try simp (disch := omega) only [wrap_sm] at *); omega)
  · rename_i g; subst hF hU; exact pl_empty a b least (pl_z g)
  · rename_i g
    refine ⟨(0 : Nat), ?_⟩
    cbv; subst hF hU
    refine ⟨⟨?_, Nat.zero_le _⟩, trivial⟩
    show u_plN a b (u_plK b least) 0 = true
    unfold u_plN
    rfl
  · rename_i g
    have hb0 : 0 < b.length := by subst hF; exact pl_e g
    clear g
    have hk := plK_le b least hb0
    rw [hkk] at hk
    intro (i : Nat) hi
    have h1 : u_plN a b kk i = true := by rw [← hkk]; subst hF hU; exact hi.1
    have h2 : i ≤ b.length := by subst hF; exact hi.2
    clear hi
    have e2 : F.addi (F.subi (F.int (F.lenB b)) (F.int kk)) (F.int 1) = F.int (b.length - kk + 1) := by subst hF; exact pl_m hb hk.2
    obtain ⟨nn, hnn⟩ : ∃ nn, b.length - kk + 1 = nn := ⟨_, rfl⟩
    rw [hnn] at e2
    have e3 : F.cutB b (F.nat (F.int i)) (F.subn (F.nat (F.addi (F.int i) (F.int kk))) (F.nat (F.int i))) = F.cutB b i kk := by subst hF; exact pl_cut (by omega) (by omega)
    cbv
    repeat' first | apply And.intro | refine Classical.or_iff_not_imp_left.2 (fun _ => ?_) | exact trivial
    all_goals (try simp only [e1, e2, e3] at *)
    all_goals try (subst hF hU; simp only [real, us, Nat.le_eq, Int.cast_ofNat_Int, decide_eq_false_iff_not, decide_eq_true_eq, List.length_take, List.length_drop, List.length_append, List.length_replicate, List.length_set, List.length_cons, List.length_nil, List.length_zipWith] at *; (try simp (disch := omega) only [wrap_sm] at *); omega)
    · rename_i g1 g2
      subst hF hU hnn hkk
      have g3 : ¬ (decide ((0 : Int) ≤ u_find a ((b.drop i).take (u_plK b least))) = false) := g2
      simp only [decide_eq_false_iff_not, Classical.not_not] at g3
      exact pl_hit hb0 (lt_g g1) g3
    · rename_i g1 g2
      refine ⟨(i + 1 : Nat), ?_⟩
      cbv; subst hF hU hnn hkk
      have hlt := lt_g g1
      have g3 : ¬ (decide ((0 : Int) ≤ u_find a ((b.drop i).take (u_plK b least))) = true) := g2
      simp only [decide_eq_true_eq, Int.not_le] at g3
      have hq : i + 1 ≤ b.length := by omega
      exact ⟨⟨pl_s h1 g3, hq⟩, sub_stepN (n := b.length) hq, ⟨addi1 (by omega), trivial⟩, trivial⟩
    · rename_i g1
      subst hF hU hnn hkk
      exact pl_miss (ge_g g1) h1
theorem k_image_Plain : SpecOK Try.prog 85 (s_image_Plain real us) := by
  refine pure_sound (x := x_image_Plain real us) ⟨tt_ok, ok_image_Plain, Go.Vc.ks_nil⟩ mixed Try.func85 rfl rfl (by kernel_rfl) ?_
  intro l c rs hg hc
  unfold g_image_Plain at hg
  split at hg
  · cases hg; exact ⟨Nat.le_of_ble_eq_true rfl, an_image_Plain real us _ _ _, [], c_image_Plain _ _ _ hc⟩
  · cases hg

theorem sc_mul {i : Nat} (h : i ≤ 1000000) : real.muli (real.int i) (real.int 64) = real.int (64 * i) := by
  show IntKind.i64.wrap ((i : Int) * 64) = ((64 * i : Nat) : Int)
  rw [wrap_sm (by omega) (by omega)]; omega
theorem sc_min {i : Nat} (h : i ≤ 1000000) (a : List UInt8) : real.mini (real.muli (real.int i) (real.int 64)) (real.int (real.lenB a)) = real.int (min (64 * i) a.length) := by
  rw [sc_mul h]
  show (if (a.length : Int) < ((64 * i : Nat) : Int) then (a.length : Int) else ((64 * i : Nat) : Int)) = _
  split
  · show (a.length : Int) = ((min (64 * i) a.length : Nat) : Int)
    omega
  · show ((64 * i : Nat) : Int) = ((min (64 * i) a.length : Nat) : Int)
    omega
theorem sc_cut {i : Nat} (a : List UInt8) : real.cutB a (real.nat (real.int (min (64 * i) a.length))) (real.subn (real.lenB a) (real.nat (real.int (min (64 * i) a.length)))) = a.drop (64 * i) := by
  show (a.drop (min (64 * i) a.length)).take (a.length - min (64 * i) a.length) = _
  rw [List.take_of_length_le (by rw [List.length_drop]; omega)]
  by_cases h : 64 * i ≤ a.length
  · rw [Nat.min_eq_left h]
  · rw [Nat.min_eq_right (by omega), List.drop_of_length_le (by omega), List.drop_of_length_le (by omega)]
theorem sc_eq {i : Nat} (a : List UInt8) : real.splB (real.repB 64) 0 (real.cutB (a.drop (64 * i)) 0 (real.minn (real.lenB (a.drop (64 * i))) 64)) = us.sec a i := by
  have hl : (a.drop (64 * i)).length = a.length - 64 * i := List.length_drop ..
  have e : real.minn (real.lenB (a.drop (64 * i))) 64 = min (a.length - 64 * i) 64 := by show min (a.drop (64 * i)).length 64 = _; rw [hl]
  rw [e, cp_val 64 _ _ (by rw [hl]; omega)]
  show _ = u_sec a i
  unfold u_sec
  by_cases h : a.length - 64 * i ≤ 64
  · rw [Nat.min_eq_left h, List.take_of_length_le (by omega), List.take_of_length_le (by omega)]
  · rw [Nat.min_eq_right (by omega)]
    congr 2
    omega
theorem sc_n {i : Nat} (a : List UInt8) : real.int (real.minn (real.lenB (a.drop (64 * i))) 64) = us.scn a i := by
  have hl : (a.drop (64 * i)).length = a.length - 64 * i := List.length_drop ..
  show ((min (a.drop (64 * i)).length 64 : Nat) : Int) = ((min 64 (a.length - 64 * i) : Nat) : Int)
  rw [hl, Nat.min_comm]
theorem sc_A {i : Nat} (h : i ≤ 1000000) (a : List UInt8) : real.p0 (real.mini (real.muli (real.int i) (real.int 64)) (real.int (real.lenB a))) := by
  rw [sc_min h]; exact Int.natCast_nonneg _
theorem sc_B {i : Nat} (h : i ≤ 1000000) (a : List UInt8) : real.splB (real.repB 64) 0 (real.cutB (real.cutB a (real.nat (real.mini (real.muli (real.int i) (real.int 64)) (real.int (real.lenB a)))) (real.subn (real.lenB a) (real.nat (real.mini (real.muli (real.int i) (real.int 64)) (real.int (real.lenB a)))))) 0 (real.minn (real.lenB (real.cutB a (real.nat (real.mini (real.muli (real.int i) (real.int 64)) (real.int (real.lenB a)))) (real.subn (real.lenB a) (real.nat (real.mini (real.muli (real.int i) (real.int 64)) (real.int (real.lenB a))))))) 64)) = us.sec a (real.nat (real.int i)) := by
  rw [sc_min h, sc_cut]
  exact sc_eq a
theorem sc_C {i : Nat} (h : i ≤ 1000000) (a : List UInt8) : real.int (real.minn (real.lenB (real.cutB a (real.nat (real.mini (real.muli (real.int i) (real.int 64)) (real.int (real.lenB a)))) (real.subn (real.lenB a) (real.nat (real.mini (real.muli (real.int i) (real.int 64)) (real.int (real.lenB a))))))) 64) = us.scn a (real.nat (real.int i)) := by
  rw [sc_min h, sc_cut]
  exact sc_n a
theorem r_image_sectorOf : Ready Try.prog 118 := by unfold Ready; kernel_rfl
noncomputable def sp_image_sectorOf (F : Fs) (U : Us) : Specs := []
theorem ok_image_sectorOf : SpecsOK Try.prog (sp_image_sectorOf real us) := sp_nil
noncomputable def g_image_sectorOf (F : Fs) (U : Us) : Law
  | [.rb 1 (.bt a), .i x] => some (F.pLe (F.lenB a) 100000 ∧ (F.p0 x ∧ F.pLe (F.nat x) 1000000), [.val (.ag 64 (.bt (U.sec a (F.nat x)))), .val (.i (U.scn a (F.nat x)))])
  | _ => none
noncomputable def s_image_sectorOf (F : Fs) (U : Us) : Vc.Spec := pureSpec F false [.row .kB, .keep] (g_image_sectorOf F U)
noncomputable def x_image_sectorOf (F : Fs) (U : Us) : Cx := ⟨Try.f118.ntmps, tt F, sp_image_sectorOf F U, [], [(2, ([(5, [0]), (6, [0]), (7, [0])], []))], [], []⟩
theorem c_image_sectorOf (a : List UInt8) (x : Int) (hc : real.pLe (real.lenB a) 100000 ∧ (real.p0 x ∧ real.pLe (real.nat x) 1000000)) : vc real (x_image_sectorOf real us) [] [] (Try.f118.body.getD .skip) ⟨zipSl 0 [.rb 1 (.bt a), .i x], [], 64⟩ (retOk real (tt real) false Try.f118.results.toList [.val (.ag 64 (.bt (us.sec a (real.nat x)))), .val (.i (us.scn a (real.nat x)))]) := by
  generalize hU : us = U
  generalize hF : real = F
  have ha : a.length ≤ 100000 := hc.1
  obtain ⟨i, rfl⟩ : ∃ i : Nat, x = (i : Int) := ⟨x.toNat, by have h : (0 : Int) ≤ x := hc.2.1; omega⟩
  have hi : i ≤ 1000000 := by have h : (i : Int).toNat ≤ 1000000 := hc.2.2; omega
  clear hc
  cbv
  repeat' first | apply And.intro | refine Classical.or_iff_not_imp_left.2 (fun _ => ?_) | exact trivial
  all_goals try (subst hF hU; simp only [real, us, Nat.le_eq, Int.cast_ofNat_Int, decide_eq_false_iff_not, decide_eq_true_eq, List.length_take, List.length_drop, List.length_append, List.length_replicate, List.length_set, List.length_cons, List.length_nil, List.length_zipWith] at *; (try simp (disch := omega) only [wrap_sm] at *); omega)
  · subst hF; exact sc_A hi a
  · subst hF hU; exact sc_B hi a
  · subst hF hU; exact sc_C hi a
theorem k_image_sectorOf : SpecOK Try.prog 118 (s_image_sectorOf real us) := by
  refine pure_sound (x := x_image_sectorOf real us) ⟨tt_ok, ok_image_sectorOf, Go.Vc.ks_nil⟩ mixed Try.func118 rfl rfl (by kernel_rfl) ?_
  intro l c rs hg hc
  unfold g_image_sectorOf at hg
  split at hg
  · cases hg; exact ⟨Nat.le_of_ble_eq_true rfl, [], [], c_image_sectorOf _ _ hc⟩
  · cases hg

end Go.Proofs.Ytmldccfchnlpgaa
set_option linter.unusedVariables false
set_option linter.unusedSimpArgs false
set_option maxRecDepth 100000
set_option maxHeartbeats 1000000
namespace Go.Proofs.Ytmldccfchnlpgaa
open Go Go.Vc
theorem sm_n {a b : List UInt8} {i : Nat} (hi : i ≤ 1000000) : real.lti (real.muli (real.int i) (real.int 64)) (real.maxi (real.int (real.lenB a)) (real.int (real.lenB b))) = decide (i < u_smN a b) := by
  rw [sc_mul hi]
  have e : real.maxi (real.int (real.lenB a)) (real.int (real.lenB b)) = ((max a.length b.length : Nat) : Int) := by
    show (if (b.length : Int) > (a.length : Int) then (b.length : Int) else (a.length : Int)) = _
    split <;> omega
  rw [e]
  show decide (((64 * i : Nat) : Int) < ((max a.length b.length : Nat) : Int)) = decide (i < u_smN a b)
  unfold u_smN
  congr 1
  apply propext
  constructor <;> intro h <;> omega
theorem sm_lt {a b : List UInt8} {i : Nat} (hi : i ≤ 1000000) (h : ¬ real.pB (real.lti (real.muli (real.int i) (real.int 64)) (real.maxi (real.int (real.lenB a)) (real.int (real.lenB b)))) false) : i < u_smN a b := by
  rw [sm_n hi] at h
  have h2 : ¬ (decide (i < u_smN a b) = false) := h
  simpa using h2
theorem sm_ge {a b : List UInt8} {i : Nat} (hi : i ≤ 1000000) (h : ¬ real.pB (real.lti (real.muli (real.int i) (real.int 64)) (real.maxi (real.int (real.lenB a)) (real.int (real.lenB b)))) true) : u_smN a b ≤ i := by
  rw [sm_n hi] at h
  have h2 : ¬ (decide (i < u_smN a b) = true) := h
  simpa using h2
theorem sm_len (a b : List UInt8) : ∀ i, (u_smL a b i).length ≤ i
  | 0 => Nat.le_refl _
  | i + 1 => by
    rw [u_smL]
    have := sm_len a b i
    split
    · omega
    · rw [List.length_append]
      show (u_smL a b i).length + 1 ≤ i + 1
      omega
theorem sm_ne1 {a b : List UInt8} {i : Nat} (h : ¬ real.pB (real.notb (real.eqB (us.sec a (real.nat (real.int i))) (us.sec b (real.nat (real.int i))))) false) : us.smL a b (i + 1) = real.appI (us.smL a b i) [real.int i] := by
  have h1 : ¬ ((!(u_sec a i == u_sec b i)) = false) := h
  have h2 : u_sec a i ≠ u_sec b i := by simpa using h1
  show (if u_sec a i = u_sec b i ∧ u_scn a i = u_scn b i then u_smL a b i else u_smL a b i ++ [(i : Int)]) = u_smL a b i ++ [(i : Int)]
  rw [if_neg (fun e => h2 e.1)]
theorem sm_ne2 {a b : List UInt8} {i : Nat} (h : ¬ real.pB (real.notb (real.eqi (us.scn a (real.nat (real.int i))) (us.scn b (real.nat (real.int i))))) false) : us.smL a b (i + 1) = real.appI (us.smL a b i) [real.int i] := by
  have h1 : ¬ ((!(u_scn a i == u_scn b i)) = false) := h
  have h2 : u_scn a i ≠ u_scn b i := by simpa using h1
  show (if u_sec a i = u_sec b i ∧ u_scn a i = u_scn b i then u_smL a b i else u_smL a b i ++ [(i : Int)]) = u_smL a b i ++ [(i : Int)]
  rw [if_neg (fun e => h2 e.2)]
theorem sm_eq {a b : List UInt8} {i : Nat} (h : ¬ real.pB (real.notb (real.eqB (us.sec a (real.nat (real.int i))) (us.sec b (real.nat (real.int i))))) true) (h' : ¬ real.pB (real.notb (real.eqi (us.scn a (real.nat (real.int i))) (us.scn b (real.nat (real.int i))))) true) : us.smL a b (i + 1) = us.smL a b i := by
  have h1 : ¬ ((!(u_sec a i == u_sec b i)) = true) := h
  have h2 : u_sec a i = u_sec b i := by simpa using h1
  have h3 : ¬ ((!(u_scn a i == u_scn b i)) = true) := h'
  have h4 : u_scn a i = u_scn b i := by simpa using h3
  show (if u_sec a i = u_sec b i ∧ u_scn a i = u_scn b i then u_smL a b i else u_smL a b i ++ [(i : Int)]) = u_smL a b i
  rw [if_pos ⟨h2, h4⟩]
theorem sm_0 (a b : List UInt8) : us.smL a b 0 = [] := rfl
attribute [local irreducible] u_sec u_scn u_smL u_smN
theorem r_image_Same : Ready Try.prog 83 := by unfold Ready; kernel_rfl
noncomputable def sp_image_Same (F : Fs) (U : Us) : Specs := [(118, s_image_sectorOf F U)]
theorem ok_image_Same : SpecsOK Try.prog (sp_image_Same real us) := sp_cons r_image_sectorOf k_image_sectorOf sp_nil
noncomputable def an_image_Same (F : Fs) (U : Us) (a b : List UInt8) : Anns := [(4, ⟨Nat, fun i => F.pLe i (U.smN a b), fun i => F.subn (U.smN a b) i, fun i => ⟨[(0, .rb 1 (.bt a)), (1, .rb 1 (.bt b)), (5, .rw 0), (6, .i (F.int 64)), (7, .i (F.int i))], [(5, 0, .row 3 1 (.is (U.smL a b i)))]⟩⟩)]
noncomputable def g_image_Same (F : Fs) (U : Us) : Law
  | [.rb 1 (.bt a), .rb 1 (.bt b)] => some (F.pLe (F.lenB a) 100000 ∧ F.pLe (F.lenB b) 100000, [.row 3 1 (.is (U.smL a b (U.smN a b)))])
  | _ => none
noncomputable def s_image_Same (F : Fs) (U : Us) : Vc.Spec := pureSpec F false [.row .kB, .row .kB] (g_image_Same F U)
noncomputable def x_image_Same (F : Fs) (U : Us) : Cx := ⟨Try.f83.ntmps, tt F, sp_image_Same F U, [], [], [], []⟩
theorem c_image_Same (a b : List UInt8) (hc : real.pLe (real.lenB a) 100000 ∧ real.pLe (real.lenB b) 100000) : vc real (x_image_Same real us) (an_image_Same real us a b) [] (Try.f83.body.getD .skip) ⟨zipSl 0 [.rb 1 (.bt a), .rb 1 (.bt b)], [], 64⟩ (retOk real (tt real) false Try.f83.results.toList [.row 3 1 (.is (us.smL a b (us.smN a b)))]) := by
  generalize hU : us = U
  generalize hF : real = F
  have ha : a.length ≤ 100000 := hc.1
  have hb : b.length ≤ 100000 := hc.2
  clear hc
  have hN : u_smN a b ≤ 2000 := by unfold u_smN; omega
  cbv
  repeat' first | apply And.intro | refine Classical.or_iff_not_imp_left.2 (fun _ => ?_) | exact trivial
  all_goals try (subst hF hU; simp only [real, us, Nat.le_eq, Int.cast_ofNat_Int, decide_eq_false_iff_not, decide_eq_true_eq, List.length_take, List.length_drop, List.length_append, List.length_replicate, List.length_set, List.length_cons, List.length_nil, List.length_zipWith] at *; (try simp (disch := omega) only [wrap_sm] at *); omega)
  · refine ⟨(0 : Nat), ?_⟩
    cbv; subst hF hU
    exact ⟨Nat.zero_le _, sm_0 a b, trivial⟩
  · intro (i : Nat) hi
    have h1 : i ≤ u_smN a b := by subst hF hU; exact hi
    clear hi
    have hL := sm_len a b i
    cbv
    repeat' first | apply And.intro | refine Classical.or_iff_not_imp_left.2 (fun _ => ?_) | exact trivial
    all_goals try (subst hF hU; simp only [real, us, Nat.le_eq, Int.cast_ofNat_Int, decide_eq_false_iff_not, decide_eq_true_eq, List.length_take, List.length_drop, List.length_append, List.length_replicate, List.length_set, List.length_cons, List.length_nil, List.length_zipWith] at *; (try simp (disch := omega) only [wrap_sm] at *); omega)
    · rename_i g1 g2 g3
      refine ⟨(i + 1 : Nat), ?_⟩
      cbv; subst hF hU
      have hlt := sm_lt (by omega) g1
      exact ⟨hlt, sub_stepN hlt, ⟨addi1 (by omega), trivial⟩, (sm_ne2 g3).symm, trivial⟩
    · rename_i g1 g2 g3
      refine ⟨(i + 1 : Nat), ?_⟩
      cbv; subst hF hU
      have hlt := sm_lt (by omega) g1
      exact ⟨hlt, sub_stepN hlt, ⟨addi1 (by omega), trivial⟩, (sm_eq g2 g3).symm, trivial⟩
    · rename_i g1 g2
      refine ⟨(i + 1 : Nat), ?_⟩
      cbv; subst hF hU
      have hlt := sm_lt (by omega) g1
      exact ⟨hlt, sub_stepN hlt, ⟨addi1 (by omega), trivial⟩, (sm_ne1 g2).symm, trivial⟩
    · rename_i g1
      subst hF hU
      have e : i = u_smN a b := Nat.le_antisymm h1 (sm_ge (by omega) g1)
      exact congrArg (us.smL a b) e
theorem k_image_Same : SpecOK Try.prog 83 (s_image_Same real us) := by
  refine pure_sound (x := x_image_Same real us) ⟨tt_ok, ok_image_Same, Go.Vc.ks_nil⟩ mixed Try.func83 rfl rfl (by kernel_rfl) ?_
  intro l c rs hg hc
  unfold g_image_Same at hg
  split at hg
  · cases hg; exact ⟨Nat.le_of_ble_eq_true rfl, an_image_Same real us _ _, [], c_image_Same _ _ hc⟩
  · cases hg

end Go.Proofs.Ytmldccfchnlpgaa
set_option linter.unusedVariables false
set_option linter.unusedSimpArgs false
set_option maxRecDepth 100000
set_option maxHeartbeats 1000000
namespace Go.Proofs.Ytmldccfchnlpgaa
open Go Go.Vc
theorem wr_n {im : List UInt8} (h : im.length ≤ 100000) : real.maxi (real.addi (real.subi (real.int (real.lenB im)) (real.int 48)) (real.int 1)) (real.int 0) = real.int (im.length + 1 - 48) := by
  have e1 : real.subi (real.int (real.lenB im)) (real.int 48) = (im.length : Int) - 48 := by
    show IntKind.i64.wrap ((im.length : Int) - 48) = _
    rw [wrap_sm (by omega) (by omega)]
  rw [e1]
  have e2 : real.addi ((im.length : Int) - 48) (real.int 1) = (im.length : Int) - 48 + 1 := by
    show IntKind.i64.wrap ((im.length : Int) - 48 + 1) = _
    rw [wrap_sm (by omega) (by omega)]
  rw [e2]
  show (if (0 : Int) > (im.length : Int) - 48 + 1 then 0 else (im.length : Int) - 48 + 1) = ((im.length + 1 - 48 : Nat) : Int)
  split <;> omega
theorem u64g {g : Nat} (h : g ≤ 1000) : real.ofI64 (real.int g) = UInt64.ofNat g := by
  show UInt64.ofNat ((g : Int) % 2 ^ 64).toNat = _
  congr 1
  omega
theorem wr_b (most : UInt64) : real.add64 (real.min64 most (real.ofI64 (real.int 20))) (real.ofI64 (real.int 1)) = UInt64.ofNat (u_wm most + 1) := by
  have hm := most.toNat_lt
  rw [u64g (by omega), u64g (by omega)]
  show (if (UInt64.ofNat 20).toNat < most.toNat then UInt64.ofNat 20 else most) + UInt64.ofNat 1 = _
  have e : (UInt64.ofNat 20).toNat = 20 := rfl
  rw [e]
  apply UInt64.toNat_inj.1
  unfold u_wm
  by_cases h : 20 < most.toNat
  · rw [if_pos h, Nat.min_eq_right (by omega)]
    rfl
  · rw [if_neg h, Nat.min_eq_left (by omega), UInt64.toNat_add, UInt64.toNat_ofNat', UInt64.toNat_ofNat']
theorem wr_lt {g n : Nat} (hg : g ≤ 1000) (hn : n ≤ 1000) : real.lt64 (UInt64.ofNat g) (UInt64.ofNat n) = decide (g < n) := by
  show decide ((UInt64.ofNat g).toNat < (UInt64.ofNat n).toNat) = _
  rw [UInt64.toNat_ofNat', UInt64.toNat_ofNat', Nat.mod_eq_of_lt (by omega), Nat.mod_eq_of_lt (by omega)]
theorem wr_s {g : Nat} (hg : g ≤ 1000) : real.add64 (UInt64.ofNat g) (real.ofI64 (real.int 1)) = UInt64.ofNat (g + 1) := by
  rw [u64g (by omega)]
  apply UInt64.toNat_inj.1
  show (UInt64.ofNat g + UInt64.ofNat 1).toNat = _
  rw [UInt64.toNat_add, UInt64.toNat_ofNat', UInt64.toNat_ofNat', UInt64.toNat_ofNat']
  omega
theorem wr_cut {im c : List UInt8} {i : Nat} (hc : c.length = 48) (h : i + 48 ≤ im.length) : real.splB c 0 (real.cutB (real.cutB im (real.nat (real.int i)) (real.subn (real.lenB im) (real.nat (real.int i)))) 0 (real.minn (real.lenB (real.cutB im (real.nat (real.int i)) (real.subn (real.lenB im) (real.nat (real.int i))))) 48)) = us.cut48 im i := by
  have e : real.cutB im (real.nat (real.int i)) (real.subn (real.lenB im) (real.nat (real.int i))) = im.drop i := by
    show (im.drop i).take (im.length - i) = _
    rw [List.take_of_length_le (by rw [List.length_drop]; omega)]
  rw [e]
  have hl : (im.drop i).length = im.length - i := List.length_drop ..
  have e2 : real.minn (real.lenB (im.drop i)) 48 = 48 := by show min (im.drop i).length 48 = _; omega
  rw [e2]
  show c.take 0 ++ ((im.drop i).drop 0).take 48 ++ c.drop (0 + (((im.drop i).drop 0).take 48).length) = u_cut48 im i
  have e3 : c.drop (0 + (((im.drop i).drop 0).take 48).length) = [] := List.drop_of_length_le (by rw [List.length_take, List.drop_zero, hl]; omega)
  rw [e3, List.drop_zero, List.take_zero, List.nil_append, List.append_nil]
  rfl
theorem isL48 {im : List UInt8} {i : Nat} (h : i + 48 ≤ im.length) : us.isL (us.cut48 im i) 48 := cut48_len h
theorem isL0 : us.isL (real.repB 48) 48 := List.length_replicate ..
attribute [local irreducible] u_uwE u_uwK u_cut48 u_wrI u_wrO u_wrF u_wm
theorem wr_hitE {im k : List UInt8} {s : UInt32} {m i g : Nat} (h : u_wrF im k s m = some (u_uwK k s (UInt64.ofNat g) (u_cut48 im i))) : true = us.wrE im k s m ∧ us.uwK k s (UInt64.ofNat g) (us.cut48 im i) = us.wrK im k s m := by
  constructor
  · show true = (u_wrF im k s m).isSome
    rw [h]; rfl
  · show u_uwK k s (UInt64.ofNat g) (u_cut48 im i) = (u_wrF im k s m).getD _
    rw [h]; rfl
theorem wr_missE {im k : List UInt8} {s : UInt32} {m : Nat} (h : u_wrF im k s m = none) : false = us.wrE im k s m ∧ real.repB 32 = us.wrK im k s m := by
  constructor
  · show false = (u_wrF im k s m).isSome
    rw [h]; rfl
  · show List.replicate 32 0 = (u_wrF im k s m).getD _
    rw [h]; rfl
theorem eq0_t {a : Int} (h : ¬ real.pB (real.eqi a (real.int 0)) false) : a = 0 := by
  by_cases e : a = 0
  · exact e
  · exact absurd (show (a == 0) = false from beq_eq_false_iff_ne.2 e) h
theorem eq0_f {a : Int} (h : ¬ real.pB (real.eqi a (real.int 0)) true) : a ≠ 0 := by
  intro e
  subst e
  exact h rfl
theorem wr_lt1 {g n : Nat} (hg : g ≤ 1000) (hn : n ≤ 1000) (h : ¬ real.pB (real.lt64 (UInt64.ofNat g) (UInt64.ofNat n)) false) : g < n := by
  rw [wr_lt hg hn] at h
  by_cases e : g < n
  · exact e
  · exact absurd (decide_eq_false e) h
theorem wr_ge1 {g n : Nat} (hg : g ≤ 1000) (hn : n ≤ 1000) (h : ¬ real.pB (real.lt64 (UInt64.ofNat g) (UInt64.ofNat n)) true) : n ≤ g := by
  rw [wr_lt hg hn] at h
  by_cases e : g < n
  · exact absurd (decide_eq_true e) h
  · omega
theorem r_image_Wrapped : Ready Try.prog 86 := by unfold Ready; kernel_rfl
noncomputable def sp_image_Wrapped (F : Fs) (U : Us) : Specs := [(72, s_seal_Unwrap F U)]
theorem ok_image_Wrapped : SpecsOK Try.prog (sp_image_Wrapped real us) := sp_cons r_seal_Unwrap k_seal_Unwrap sp_nil
noncomputable def an_image_Wrapped (F : Fs) (U : Us) (im k : List UInt8) (s : UInt32) (most : UInt64) : Anns := [(3, ⟨Nat × List UInt8, fun t => F.pB (U.wrO im k s (U.wm most) t.1) true ∧ (F.pLe t.1 (F.lenB im) ∧ U.isL t.2 48), fun t => F.muln (F.addn (F.subn (F.lenB im) t.1) 1) 30, fun t => ⟨[(0, .rb 1 (.bt im)), (2, .w32 s), (3, .w64 most), (5, .p 0 0 0), (8, .p 1 0 0), (10, .p 2 0 0), (19, .i (F.maxi (F.addi (F.subi (F.int (F.lenB im)) (F.int 48)) (F.int 1)) (F.int 0))), (20, .i (F.int t.1))], [(5, 0, .bk 24 [(32, .bt k)]), (8, 1, .bk 24 [(32, .bt (F.repB 32))]), (10, 2, .bk 169 [(48, .bt t.2)])]⟩⟩),
  (7, ⟨Nat × Nat, fun t => (F.pB (U.wrO im k s (U.wm most) t.1) true ∧ F.pB (U.wrI im k s t.1 t.2) true) ∧ (F.pLe (F.addn t.1 48) (F.lenB im) ∧ F.pLe t.2 (F.addn (U.wm most) 1)), fun t => F.addn (F.muln (F.subn (F.lenB im) t.1) 30) (F.addn (F.subn (F.addn (U.wm most) 1) t.2) 1), fun t => ⟨[(0, .rb 1 (.bt im)), (2, .w32 s), (3, .w64 most), (5, .p 0 0 0), (8, .p 1 0 0), (10, .p 2 0 0), (19, .i (F.maxi (F.addi (F.subi (F.int (F.lenB im)) (F.int 48)) (F.int 1)) (F.int 0))), (20, .i (F.int t.1)), (30, .w64 (F.add64 (F.min64 most (F.ofI64 (F.int 20))) (F.ofI64 (F.int 1)))), (31, .w64 (F.ofI64 (F.int t.2)))], [(5, 0, .bk 24 [(32, .bt k)]), (8, 1, .bk 24 [(32, .bt (F.repB 32))]), (10, 2, .bk 169 [(48, .bt (U.cut48 im t.1))])]⟩⟩)]
noncomputable def g_image_Wrapped (F : Fs) (U : Us) : Law
  | [.rb 1 (.bt im), .ag 32 (.bt k), .w32 s, .w64 most] => some (F.pLe (F.lenB im) 100000 ∧ U.isL k 32, [.val (.ag 32 (.bt (U.wrK im k s (U.wm most)))), .val (.b (U.wrE im k s (U.wm most)))])
  | _ => none
noncomputable def s_image_Wrapped (F : Fs) (U : Us) : Vc.Spec := pureSpec F false [.row .kB, .keep, .keep, .keep] (g_image_Wrapped F U)
noncomputable def x_image_Wrapped (F : Fs) (U : Us) : Cx := ⟨Try.f86.ntmps, tt F, sp_image_Wrapped F U, [], [(5, ([(3, [0])], []))], [], []⟩
theorem c_image_Wrapped (im k : List UInt8) (s : UInt32) (most : UInt64) (hc : real.pLe (real.lenB im) 100000 ∧ us.isL k 32) : vc real (x_image_Wrapped real us) (an_image_Wrapped real us im k s most) [] (Try.f86.body.getD .skip) ⟨zipSl 0 [.rb 1 (.bt im), .ag 32 (.bt k), .w32 s, .w64 most], [], 64⟩ (retOk real (tt real) false Try.f86.results.toList [.val (.ag 32 (.bt (us.wrK im k s (us.wm most)))), .val (.b (us.wrE im k s (us.wm most)))]) := by
  generalize hU : us = U
  generalize hF : real = F
  have hm : im.length ≤ 100000 := hc.1
  have hk : k.length = 32 := by subst hU; exact hc.2
  clear hc
  have hwm : u_wm most ≤ 20 := by unfold u_wm; omega
  obtain ⟨M, hM⟩ : ∃ M, u_wm most = M := ⟨_, rfl⟩
  obtain ⟨N, hN⟩ : ∃ N, im.length + 1 - 48 = N := ⟨_, rfl⟩
  have e1 : F.maxi (F.addi (F.subi (F.int (F.lenB im)) (F.int 48)) (F.int 1)) (F.int 0) = F.int N := by subst hF; rw [← hN]; exact wr_n hm
  have e2 : U.wm most = M := by subst hU; exact hM
  cbv
  repeat' first | apply And.intro | refine Classical.or_iff_not_imp_left.2 (fun _ => ?_) | exact trivial
  all_goals (try simp only [e1, e2] at *)
  all_goals try (subst hF hU; simp only [real, us, Nat.le_eq, Int.cast_ofNat_Int, decide_eq_false_iff_not, decide_eq_true_eq, List.length_take, List.length_drop, List.length_append, List.length_replicate, List.length_set, List.length_cons, List.length_nil, List.length_zipWith] at *; (try simp (disch := omega) only [wrap_sm] at *); omega)
  · refine ⟨((0, F.repB 48) : Nat × List UInt8), ?_⟩
    cbv; subst hF hU
    refine ⟨⟨?_, Nat.zero_le _, isL0⟩, trivial⟩
    show u_wrO im k s M 0 = true
    unfold u_wrO
    rfl
  · intro (t : Nat × List UInt8) ht
    obtain ⟨i0, c⟩ := t
    have h1 : u_wrO im k s M i0 = true := by subst hF hU; exact ht.1
    have h2 : i0 ≤ im.length := by subst hF; exact ht.2.1
    have h3 : c.length = 48 := by subst hU; exact ht.2.2
    clear ht
    cbv
    repeat' first | apply And.intro | refine Classical.or_iff_not_imp_left.2 (fun _ => ?_) | exact trivial
    all_goals (try simp only [e1, e2] at *)
    all_goals try (subst hF hU; simp only [real, us, Nat.le_eq, Int.cast_ofNat_Int, decide_eq_false_iff_not, decide_eq_true_eq, List.length_take, List.length_drop, List.length_append, List.length_replicate, List.length_set, List.length_cons, List.length_nil, List.length_zipWith] at *; (try simp (disch := omega) only [wrap_sm] at *); omega)
    · rename_i g1
      have hlt : i0 < N := by subst hF; exact lt_g g1
      have h4 : i0 + 48 ≤ im.length := by omega
      refine ⟨((i0, 0) : Nat × Nat), ?_⟩
      clear g1
      cbv; subst hF hU
      refine ⟨⟨⟨⟨h1, ?_⟩, h4, Nat.zero_le _⟩, ?_⟩, ⟨wr_cut h3 h4, trivial⟩, trivial⟩
      · show u_wrI im k s i0 0 = true
        unfold u_wrI
        rfl
      · show (im.length - i0) * 30 + ((M + 1 - 0) + 1) ≤ (im.length - i0 + 1) * 30
        omega
    · intro (t : Nat × Nat) ht
      obtain ⟨i, g⟩ := t
      have q1 : u_wrO im k s M i = true := by subst hF hU; exact ht.1.1.1
      have q2 : u_wrI im k s i g = true := by subst hF hU; exact ht.1.1.2
      have q3 : i + 48 ≤ im.length := by subst hF; exact ht.1.2.1
      have q4 : g ≤ M + 1 := by subst hF; exact ht.1.2.2
      have q5 : (im.length - i) * 30 + ((M + 1 - g) + 1) ≤ (im.length - i0 + 1) * 30 := by subst hF; exact ht.2
      clear ht
      have e4 : F.add64 (F.min64 most (F.ofI64 (F.int 20))) (F.ofI64 (F.int 1)) = UInt64.ofNat (M + 1) := by subst hF; rw [← hM]; exact wr_b most
      have e5 : F.ofI64 (F.int g) = UInt64.ofNat g := by subst hF; exact u64g (by omega)
      have hL : U.isL (U.cut48 im i) 48 := by subst hU; exact isL48 q3
      have hK : U.isL k 32 := by subst hU; exact hk
      cbv
      repeat' first | apply And.intro | refine Classical.or_iff_not_imp_left.2 (fun _ => ?_) | exact trivial
      all_goals (try simp only [e1, e2, e4, e5] at *)
      all_goals try (subst hF hU; simp only [real, us, Nat.le_eq, Int.cast_ofNat_Int, decide_eq_false_iff_not, decide_eq_true_eq, List.length_take, List.length_drop, List.length_append, List.length_replicate, List.length_set, List.length_cons, List.length_nil, List.length_zipWith] at *; (try simp (disch := omega) only [wrap_sm] at *); omega)
      · rename_i g1 g2 g3
        subst hF hU
        have hg := wr_lt1 (by omega) (by omega) g2
        exact (wr_hitE (wrF_hit im k s M i g (by omega) q1 q2 hg (eq0_t g3))).2
      · rename_i g1 g2 g3
        subst hF hU
        have hg := wr_lt1 (by omega) (by omega) g2
        exact (wr_hitE (wrF_hit im k s M i g (by omega) q1 q2 hg (eq0_t g3))).1
      · rename_i g1 g2 g3
        have hg : g < M + 1 := by subst hF; exact wr_lt1 (by omega) (by omega) g2
        have hE : u_uwE k s (UInt64.ofNat g) (u_cut48 im i) ≠ 0 := by subst hF hU; exact eq0_f g3
        clear g1 g2 g3
        refine ⟨((i, g + 1) : Nat × Nat), ?_⟩
        cbv; subst hF hU
        trace_state
        refine ⟨⟨⟨⟨q1, wrI_s q2 hE⟩, q3, ?_⟩, ?_⟩, ?_, ⟨?_, trivial⟩, trivial⟩
        · show g + 1 ≤ M + 1
          omega
        · show (im.length - i) * 30 + ((M + 1 - (g + 1)) + 1) ≤ (im.length - i0 + 1) * 30
          omega
        · show (im.length - i) * 30 + ((M + 1 - (g + 1)) + 1) < (im.length - i) * 30 + ((M + 1 - g) + 1)
          omega
        · exact (wr_s (by omega)).trans (u64g (by omega)).symm
      · rename_i g1 g2
        have hg : M + 1 ≤ g := by subst hF; exact wr_ge1 (by omega) (by omega) g2
        have hg2 : g = M + 1 := by omega
        subst hg2
        clear g1 g2
        refine ⟨((i + 1, U.cut48 im i) : Nat × List UInt8), ?_⟩
        cbv; subst hF hU
        trace_state
        refine ⟨⟨wrO_s q1 q2, ?_, isL48 q3⟩, ?_, ⟨addi1 (by omega), trivial⟩, trivial⟩
        · show i + 1 ≤ im.length
          omega
        · show (im.length - (i + 1) + 1) * 30 < (im.length - i0 + 1) * 30
          omega
    · rename_i g1
      subst hF hU
      exact (wr_missE (wrF_none im k s M i0 (by have := ge_g g1; omega) h1)).2
    · rename_i g1
      subst hF hU
      exact (wr_missE (wrF_none im k s M i0 (by have := ge_g g1; omega) h1)).1
theorem k_image_Wrapped : SpecOK Try.prog 86 (s_image_Wrapped real us) := by
  refine pure_sound (x := x_image_Wrapped real us) ⟨tt_ok, ok_image_Wrapped, Go.Vc.ks_nil⟩ mixed Try.func86 rfl rfl (by kernel_rfl) ?_
  intro l c rs hg hc
  unfold g_image_Wrapped at hg
  split at hg
  · cases hg; exact ⟨Nat.le_of_ble_eq_true rfl, an_image_Wrapped real us _ _ _ _, [], c_image_Wrapped _ _ _ _ hc⟩
  · cases hg

end Go.Proofs.Ytmldccfchnlpgaa
set_option linter.unusedVariables false
set_option linter.unusedSimpArgs false
set_option maxRecDepth 100000
set_option maxHeartbeats 1000000
namespace Go.Proofs.Ytmldccfchnlpgaa
open Go Go.Vc
noncomputable abbrev kS : List UInt8 := [real.ofI8 (real.int 115), real.ofI8 (real.int 101), real.ofI8 (real.int 99), real.ofI8 (real.int 114), real.ofI8 (real.int 101), real.ofI8 (real.int 116)]
noncomputable abbrev kK : List UInt8 := real.setB (real.repB 32) 1 (real.ofI8 (real.int 2))
noncomputable abbrev kN : List UInt8 := us.nonce (real.ofI32 (real.int 1)) (real.ofI64 (real.int 2))
noncomputable abbrev kY : List UInt8 := real.setB (real.repB 32) 5 (real.ofI8 (real.int 6))
def xK : List UInt8 := [0, 2, 0, 0, 0, 0, 0, 0, 0, 0, 0, 0, 0, 0, 0, 0, 0, 0, 0, 0, 0, 0, 0, 0, 0, 0, 0, 0, 0, 0, 0, 0]
def xN : List UInt8 := [0, 0, 0, 1, 0, 0, 0, 0, 0, 0, 0, 2]
def xS : List UInt8 := [115, 101, 99, 114, 101, 116]
attribute [local irreducible] u_seal u_nonce u_enc u_tag u_opB u_opE u_wrp u_uwE u_uwK
noncomputable def sp_law5_known (F : Fs) (U : Us) : Specs := [(69, s_seal_NonceOf F U), (77, s_seal_Seal F U), (70, s_seal_Open F U), (72, s_seal_Unwrap F U), (79, s_seal_Wrap F U)]
noncomputable def g_law5_known (F : Fs) (U : Us) : Law
  | [] => some (True, [.val (.kb true)])
  | _ => none
noncomputable def s_law5_known (F : Fs) (U : Us) : Vc.Spec := pureSpec F false [] (g_law5_known F U)
noncomputable def x_law5_known (F : Fs) (U : Us) : Cx := ⟨Try.f68.ntmps, tt F, sp_law5_known F U, [], [(7, ([(1, [0]), (3, [0]), (8, [0, 1, 3, 4])], []))], [], [8]⟩
end Go.Proofs.Ytmldccfchnlpgaa
set_option linter.unusedVariables false
set_option linter.unusedSimpArgs false
set_option maxRecDepth 100000
set_option maxHeartbeats 1000000
namespace Go.Proofs.Ytmldccfchnlpgaa
open Go Go.Vc
attribute [local irreducible] u_mac u_sum u_mdv u_seal u_nonce u_enc u_tag u_opB u_opE u_wrp u_uwE u_uwK
theorem eqI {x y : Int} (h : x = y) : real.eqi x y = true := by
  subst h
  show (x == x) = true
  simp
theorem l16t (k n aad c : List UInt8) : real.pLe (real.addn 0 16) (real.lenB (us.tag k n aad c)) := by
  have h : real.lenB (us.tag k n aad c) = 16 := tag_len k n aad c
  rw [h]
  exact Nat.le_refl 16
theorem cutTag (k n aad c : List UInt8) : real.cutB (us.tag k n aad c) 0 16 = us.tag k n aad c := cutAll _ 16 (tag_len k n aad c)
theorem eqi_iff (x y : Int) : real.eqi x y = true ↔ x = y := by
  show (x == y) = true ↔ _
  simp
end Go.Proofs.Ytmldccfchnlpgaa
set_option linter.unusedVariables false
set_option linter.unusedSimpArgs false
set_option maxRecDepth 100000
set_option maxHeartbeats 1000000
namespace Go.Proofs.Ytmldccfchnlpgaa
open Go Go.Vc
/-! ## The document's codes -/
theorem mpad_get (K : List UInt8) (c : UInt8) (i : Nat) (h : i < 64) : (u_mpad K c).getD i 0 = K.getD i 0 ^^^ c := by
  have hl := mpad_len K c
  have hf := mfill_len K
  have e : (u_fill K)[i]? = some (K.getD i 0) := by
    unfold u_fill
    by_cases hk : i < K.length
    · rw [List.getElem?_append_left (by rw [List.length_take]; omega), List.getElem?_take, if_pos h, List.getD_eq_getElem?_getD, List.getElem?_eq_getElem hk]; rfl
    · rw [List.getElem?_append_right (by rw [List.length_take]; omega), List.length_take, List.getElem?_replicate, if_pos (by omega), List.getD_eq_getElem?_getD, List.getElem?_eq_none (by omega)]; rfl
  unfold u_mpad
  rw [List.getD_eq_getElem?_getD, List.getElem?_map, e]
  rfl
theorem pst (K : List UInt8) (c : UInt8) (i : Nat) (x : UInt8) (h : i < 64) (hx : x = K.getD i 0) : real.appB (real.cutB (us.mpad K c) 0 i) [real.xor8 x c] = real.cutB (us.mpad K c) 0 (i + 1) := by
  have hl := mpad_len K c
  have hg := mpad_get K c i h
  show ((u_mpad K c).drop 0).take i ++ [x ^^^ c] = ((u_mpad K c).drop 0).take (i + 1)
  rw [List.drop_zero, List.take_succ_eq_append_getElem (by omega), hx, ← hg, List.getD_eq_getElem?_getD, List.getElem?_eq_getElem (by omega)]
  rfl
theorem pget0 {K : List UInt8} {i : Nat} (h : ¬ real.pB (real.lti (real.int i) (real.int (real.lenB K))) true) : real.ofI8 (real.int 0) = K.getD i 0 := by
  have h1 := ge_g (j := i) (n := K.length) h
  rw [List.getD_eq_getElem?_getD, List.getElem?_eq_none (by omega)]
  rfl
theorem pget0L {K : List UInt8} {i : Nat} (hl : K.length = 32) (h : ¬ real.pB (real.lti (real.int i) (real.int 32)) true) : real.ofI8 (real.int 0) = K.getD i 0 := by
  have h1 := ge_g (j := i) (n := 32) h
  rw [List.getD_eq_getElem?_getD, List.getElem?_eq_none (by omega)]
  rfl
theorem mac2_end (K k m : List UInt8) (h : K = u_mkey k) : us.sum (real.appB (real.cutB (us.mpad K (real.ofI8 (real.int 92))) 0 64) (real.cutB (us.sum (real.appB (real.cutB (us.mpad K (real.ofI8 (real.int 54))) 0 64) m)) 0 32)) = us.mac k m := by
  rw [c92, c54, cut64, cut64, cut32s (us.sum _) (sum_len _), h]
  rfl
theorem plen (K : List UInt8) (c : UInt8) (i : Nat) : (real.cutB (us.mpad K c) 0 i).length ≤ 64 := by
  have hl := mpad_len K c
  show (((u_mpad K c).drop 0).take i).length ≤ 64
  rw [List.length_take, List.length_drop]; omega
theorem sum32 (x : List UInt8) : (u_sum x).length = 32 := sum_len x
theorem cutL (k : List UInt8) : (real.cutB (us.sum k) 0 32).length = 32 := by
  rw [cut32s (us.sum k) (sum_len k)]; exact sum_len k
theorem pgetL (k : List UInt8) (i : Nat) (h : i < 32) : real.getB (us.sum k) (real.addn 0 (real.nat (real.int i))) = (real.cutB (us.sum k) 0 32).getD i 0 := by
  rw [cut32s (us.sum k) (sum_len k)]
  show (us.sum k).getD (0 + i) 0 = _
  rw [Nat.zero_add]
theorem key_is_long {k : List UInt8} (h : ¬ real.pB (real.lti (real.int 64) (real.int (real.lenB k))) false) : real.pB (real.lti (real.int 64) (real.int (real.lenB k))) true := by
  have h1 := lt_g (j := 64) (n := k.length) h
  show decide ((64 : Int) < (k.length : Int)) = true
  exact decide_eq_true (by omega)
theorem key_is_short {k : List UInt8} (h : ¬ real.pB (real.lti (real.int 64) (real.int (real.lenB k))) true) : real.pB (real.lti (real.int 64) (real.int (real.lenB k))) false := by
  have h1 := ge_g (j := 64) (n := k.length) h
  show decide ((64 : Int) < (k.length : Int)) = false
  exact decide_eq_false (by omega)
attribute [local irreducible] u_sum u_mpad u_fill u_mac
theorem r_ref2_Mac : Ready Try.prog 65 := by unfold Ready; kernel_rfl
noncomputable def sp_ref2_Mac (F : Fs) (U : Us) : Specs := [(41, s_ref2_Sum F U)]
theorem ok_ref2_Mac : SpecsOK Try.prog (sp_ref2_Mac real us) := sp_cons r_ref2_Sum k_ref2_Sum sp_nil
noncomputable def an_ref2_Mac (F : Fs) (U : Us) (k m : List UInt8) : Anns := [(6, ⟨Nat × Bool, fun s => F.pLe s.1 64 ∧ F.pB (F.lti (F.int 64) (F.int (F.lenB k))) s.2, fun s => F.subn 64 s.1, fun s => match s with
  | (i, true) => ⟨[(0, .sl 1 0 0 1 0 32), (1, .rb 1 (.bt m)), (4, .p 0 0 0), (6, .rw 2), (7, .rw 3), (8, .i (F.int i))], [(4, 0, .bk 23 [(32, .bt (F.repB 32))]), (0, 1, .bk 23 [(32, .bt (U.sum k))]), (6, 2, .row 5 1 (.bt (F.cutB (U.mpad (F.cutB (U.sum k) 0 32) (F.ofI8 (F.int 54))) 0 i))), (7, 3, .row 5 1 (.bt (F.cutB (U.mpad (F.cutB (U.sum k) 0 32) (F.ofI8 (F.int 92))) 0 i)))]⟩
  | (i, false) => ⟨[(0, .rb 1 (.bt k)), (1, .rb 1 (.bt m)), (4, .p 0 0 0), (6, .rw 2), (7, .rw 3), (8, .i (F.int i))], [(4, 0, .bk 23 [(32, .bt (F.repB 32))]), (6, 2, .row 5 1 (.bt (F.cutB (U.mpad k (F.ofI8 (F.int 54))) 0 i))), (7, 3, .row 5 1 (.bt (F.cutB (U.mpad k (F.ofI8 (F.int 92))) 0 i)))]⟩⟩)]
noncomputable def g_ref2_Mac (F : Fs) (U : Us) : Law
  | [.rb 1 (.bt k), .rb 1 (.bt m)] => some (F.pLe (F.lenB k) 700000 ∧ F.pLe (F.lenB m) 700000, [.val (.ag 32 (.bt (U.mac k m)))])
  | _ => none
noncomputable def s_ref2_Mac (F : Fs) (U : Us) : Vc.Spec := pureSpec F false [.row .kB, .row .kB] (g_ref2_Mac F U)
noncomputable def x_ref2_Mac (F : Fs) (U : Us) : Cx := ⟨Try.f65.ntmps, tt F, sp_ref2_Mac F U, [], [], [], []⟩
theorem c_ref2_Mac (k m : List UInt8) (hc : real.pLe (real.lenB k) 700000 ∧ real.pLe (real.lenB m) 700000) : vc real (x_ref2_Mac real us) (an_ref2_Mac real us k m) [] (Try.f65.body.getD .skip) ⟨zipSl 0 [.rb 1 (.bt k), .rb 1 (.bt m)], [], 64⟩ (retOk real (tt real) false Try.f65.results.toList [.val (.ag 32 (.bt (us.mac k m)))]) := by
  generalize hU : us = U
  generalize hF : real = F
  have hk : k.length ≤ 700000 := hc.1
  have hm : m.length ≤ 700000 := hc.2
  cbv
  repeat' first | apply And.intro | refine Classical.or_iff_not_imp_left.2 (fun _ => ?_) | exact trivial
  all_goals try (subst hF hU; simp only [real, us, Nat.le_eq, Int.cast_ofNat_Int, decide_eq_false_iff_not, decide_eq_true_eq, List.length_take, List.length_drop, List.length_append, List.length_replicate, List.length_set, List.length_cons, List.length_nil, List.length_zipWith] at *; (try simp (disch := omega) only [wrap_sm] at *); omega)
  · rename_i g
    refine ⟨((0, true) : Nat × Bool), ?_⟩
    clear hc
    cbv; subst hF hU
    exact ⟨⟨Nat.zero_le _, key_is_long g⟩, rfl, rfl, trivial⟩
  · rename_i g
    intro (s : Nat × Bool) hs
    obtain ⟨i, b⟩ := s
    have h1 : i ≤ 64 := by subst hF; exact hs.1
    have hb : b = true := by subst hF; exact (key_is_long g).symm.trans hs.2 |>.symm
    subst hb
    clear hs
    have hs := sum32 k
    have hp1 := plen (u_sum k) 54 i
    cbv
    repeat' first | apply And.intro | refine Classical.or_iff_not_imp_left.2 (fun _ => ?_) | exact trivial
    all_goals try (subst hF hU; simp only [real, us, Nat.le_eq, Int.cast_ofNat_Int, decide_eq_false_iff_not, decide_eq_true_eq, List.length_take, List.length_drop, List.length_append, List.length_replicate, List.length_set, List.length_cons, List.length_nil, List.length_zipWith] at *; (try simp (disch := omega) only [wrap_sm] at *); omega)
    · rename_i g1 g2
      refine ⟨((i + 1, true) : Nat × Bool), ?_⟩
      clear hc
      cbv; subst hF hU
      have hlt := lt_g (n := 64) g1
      exact ⟨⟨hlt, key_is_long g⟩, sub_stepN (n := 64) hlt, ⟨addi1 (by omega), trivial⟩, pst _ _ i _ hlt (pgetL k i (lt_g (n := 32) g2)), pst _ _ i _ hlt (pgetL k i (lt_g (n := 32) g2)), trivial⟩
    · rename_i g1 g2
      refine ⟨((i + 1, true) : Nat × Bool), ?_⟩
      clear hc
      cbv; subst hF hU
      have hlt := lt_g (n := 64) g1
      exact ⟨⟨hlt, key_is_long g⟩, sub_stepN (n := 64) hlt, ⟨addi1 (by omega), trivial⟩, pst _ _ i _ hlt (pget0L (cutL k) g2), pst _ _ i _ hlt (pget0L (cutL k) g2), trivial⟩
    · subst hF hU; exact l32 _
    · rename_i g1
      subst hF hU
      have e : i = 64 := by have := ge_g (n := 64) g1; omega
      subst e
      exact mac2_end _ k m (key_long g)
  · rename_i g
    refine ⟨((0, false) : Nat × Bool), ?_⟩
    clear hc
    cbv; subst hF hU
    exact ⟨⟨Nat.zero_le _, key_is_short g⟩, rfl, rfl, trivial⟩
  · rename_i g
    intro (s : Nat × Bool) hs
    obtain ⟨i, b⟩ := s
    have h1 : i ≤ 64 := by subst hF; exact hs.1
    have hb : b = false := by subst hF; exact (key_is_short g).symm.trans hs.2 |>.symm
    subst hb
    clear hs
    have hp1 := plen k 54 i
    cbv
    repeat' first | apply And.intro | refine Classical.or_iff_not_imp_left.2 (fun _ => ?_) | exact trivial
    all_goals try (subst hF hU; simp only [real, us, Nat.le_eq, Int.cast_ofNat_Int, decide_eq_false_iff_not, decide_eq_true_eq, List.length_take, List.length_drop, List.length_append, List.length_replicate, List.length_set, List.length_cons, List.length_nil, List.length_zipWith] at *; (try simp (disch := omega) only [wrap_sm] at *); omega)
    · rename_i g1 g2
      refine ⟨((i + 1, false) : Nat × Bool), ?_⟩
      clear hc
      cbv; subst hF hU
      have hlt := lt_g (n := 64) g1
      exact ⟨⟨hlt, key_is_short g⟩, sub_stepN (n := 64) hlt, ⟨addi1 (by omega), trivial⟩, pst _ _ i _ hlt rfl, pst _ _ i _ hlt rfl, trivial⟩
    · rename_i g1 g2
      refine ⟨((i + 1, false) : Nat × Bool), ?_⟩
      clear hc
      cbv; subst hF hU
      have hlt := lt_g (n := 64) g1
      exact ⟨⟨hlt, key_is_short g⟩, sub_stepN (n := 64) hlt, ⟨addi1 (by omega), trivial⟩, pst _ _ i _ hlt (pget0 g2), pst _ _ i _ hlt (pget0 g2), trivial⟩
    · subst hF hU; exact l32 _
    · rename_i g1
      subst hF hU
      have e : i = 64 := by have := ge_g (n := 64) g1; omega
      subst e
      exact mac2_end _ k m (key_short g)
theorem k_ref2_Mac : SpecOK Try.prog 65 (s_ref2_Mac real us) := by
  refine pure_sound (x := x_ref2_Mac real us) ⟨tt_ok, ok_ref2_Mac, Go.Vc.ks_nil⟩ mixed Try.func65 rfl rfl (by kernel_rfl) ?_
  intro l c rs hg hc
  unfold g_ref2_Mac at hg
  split at hg
  · cases hg; exact ⟨Nat.le_of_ble_eq_true rfl, an_ref2_Mac real us _ _, [], c_ref2_Mac _ _ hc⟩
  · cases hg

end Go.Proofs.Ytmldccfchnlpgaa
set_option linter.unusedVariables false
set_option linter.unusedSimpArgs false
set_option maxRecDepth 100000
set_option maxHeartbeats 1000000
namespace Go.Proofs.Ytmldccfchnlpgaa
open Go Go.Vc
theorem nN32 : nN 32 = 32 := by decide
theorem nn2_eq (n : Int) : real.maxi (real.int 0) (real.mini n (real.int 8160)) = (nN n : Int) := by
  show (if (if (8160 : Int) < n then 8160 else n) > 0 then (if (8160 : Int) < n then 8160 else n) else 0) = _
  unfold nN
  by_cases h : (8160 : Int) < n
  · rw [if_pos h, if_pos (by omega)]; omega
  · rw [if_neg h]
    by_cases h2 : n > 0
    · rw [if_pos h2]; omega
    · rw [if_neg h2]; omega
noncomputable abbrev cn2 (n : Int) : Nat := us.chN (real.repB (real.nat (real.maxi (real.int 0) (real.mini n (real.int 8160)))))
theorem cn2_eq (n : Int) : cn2 n = cnM n := by
  unfold cn2 cnM
  rw [nn2_eq, nn_eq]
theorem nn12 (n : Int) : real.maxi (real.int 0) (real.mini n (real.int 8160)) = real.mini (real.maxi n (real.int 0)) (real.int 8160) := by rw [nn2_eq, nn_eq]
theorem mxL_le9 (k info : List UInt8) : ∀ i, (u_mxL k info i).length ≤ 32
  | 0 => Nat.zero_le _
  | j + 1 => by rw [mxL_len]; omega
theorem mxL09 (k info : List UInt8) : us.mxL k info 0 = [] := rfl
theorem mx2_lt {k info : List UInt8} {n : Int} {i : Nat} (h : ¬ real.pB (real.lti (real.int (real.lenB (us.mxO k info i))) (real.maxi (real.int 0) (real.mini n (real.int 8160)))) false) : i < cn2 n := by
  rw [nn12] at h; rw [cn2_eq]; exact mx_lt h
theorem mx2_ge {k info : List UInt8} {n : Int} {i : Nat} (h : ¬ real.pB (real.lti (real.int (real.lenB (us.mxO k info i))) (real.maxi (real.int 0) (real.mini n (real.int 8160)))) true) : cn2 n ≤ i := by
  rw [nn12] at h; rw [cn2_eq]; exact mx_ge h
theorem mx2_next {k info : List UInt8} (hk : k.length = 32) (i : Nat) : real.cutB (us.mac (real.cutB k 0 32) (real.appB (real.appB (us.mxL k info i) info) [real.ofI8 (real.int (i + 1))])) 0 32 = us.mxL k info (i + 1) := by
  rw [cutk hk, byte_of, cut32s (us.mac _ _) (mac_len _ _)]
  rfl
theorem mx2_out {k info : List UInt8} (hk : k.length = 32) (i : Nat) : real.appB (us.mxO k info i) (real.cutB (us.mac (real.cutB k 0 32) (real.appB (real.appB (us.mxL k info i) info) [real.ofI8 (real.int (i + 1))])) 0 32) = us.mxO k info (i + 1) := by
  rw [mx2_next hk]
  rfl
theorem mxO0 (k info : List UInt8) : us.mxO k info 0 = [] := rfl
attribute [local irreducible] u_mac u_mxL u_mxO u_chN nN
noncomputable def sp_ref2_Expand_b (F : Fs) (U : Us) : Specs := [(65, s_ref2_Mac F U)]
theorem ok_ref2_Expand_b : SpecsOK Try.prog (sp_ref2_Expand_b real us) := sp_cons r_ref2_Mac k_ref2_Mac sp_nil
noncomputable def an_ref2_Expand_b (F : Fs) (U : Us) (k info : List UInt8) (n : Int) : Anns := [(4, ⟨Nat, fun i => F.pLe i (U.chN (F.repB (F.nat (F.maxi (F.int 0) (F.mini n (F.int 8160)))))), fun i => F.subn (U.chN (F.repB (F.nat (F.maxi (F.int 0) (F.mini n (F.int 8160)))))) i, fun i => ⟨[(1, .rb 1 (.bt info)), (2, .i (F.maxi (F.int 0) (F.mini n (F.int 8160)))), (3, .p 0 0 0), (7, .rw 1), (8, .rw 2), (9, .i (F.int (Nat.succ i)))], [(3, 0, .bk 24 [(32, .bt k)]), (7, 1, .row 5 1 (.bt (U.mxO k info i))), (8, 2, .row 5 1 (.bt (U.mxL k info i)))]⟩⟩)]
noncomputable def g_ref2_Expand_b (F : Fs) (U : Us) : GLaw := fun l mm => match l, mm with
  | [.ag 32 (.bt k), .rb 1 (.bt info), .i n], [] => some ⟨F.pLe (F.lenB info) 100000 ∧ U.isL k 32, [.sl 0 0 0 1 0 (F.nat (F.mini (F.maxi n (F.int 0)) (F.int 8160)))], [], [.row 5 1 (.bt (U.mxO k info (U.chN (F.repB (F.nat (F.mini (F.maxi n (F.int 0)) (F.int 8160)))))))]⟩
  | _, _ => none
noncomputable def s_ref2_Expand_b (F : Fs) (U : Us) : Vc.Spec := gSpec 0 1 (g_ref2_Expand_b F U)
noncomputable def x_ref2_Expand_b (F : Fs) (U : Us) : Cx := ⟨Try.f66.ntmps, tt F, sp_ref2_Expand_b F U, [], [], [], []⟩
theorem c_ref2_Expand_b (k info : List UInt8) (n : Int) (hc : real.pLe (real.lenB info) 100000 ∧ us.isL k 32) : vc real (x_ref2_Expand_b real us) (an_ref2_Expand_b real us k info n) [] (Try.f66.body.getD .skip) ⟨zipSl 0 [.ag 32 (.bt k), .rb 1 (.bt info), .i n], zipMe 0 [], 64⟩ (retGOk real (tt real) Try.f66.results.toList [.sl 0 0 0 1 0 (real.nat (real.mini (real.maxi n (real.int 0)) (real.int 8160)))] [] [.row 5 1 (.bt (us.mxO k info (us.chN (real.repB (real.nat (real.mini (real.maxi n (real.int 0)) (real.int 8160)))))))]) := by
  generalize hU : us = U
  generalize hF : real = F
  have hi : info.length ≤ 100000 := hc.1
  have hk : k.length = 32 := by subst hU; exact hc.2
  clear hc
  cbv
  repeat' first | apply And.intro | refine Classical.or_iff_not_imp_left.2 (fun _ => ?_) | exact trivial
  all_goals try (subst hF hU; simp only [real, us, Nat.le_eq, Int.cast_ofNat_Int, decide_eq_false_iff_not, decide_eq_true_eq, List.length_take, List.length_drop, List.length_append, List.length_replicate, List.length_set, List.length_cons, List.length_nil, List.length_zipWith] at *; (try simp (disch := omega) only [wrap_sm] at *); omega)
  · refine ⟨(0 : Nat), ?_⟩
    cbv; subst hF hU
    exact ⟨Nat.zero_le _, mxO0 k info, mxL09 k info, trivial⟩
  · intro (i : Nat) hi2
    have h1 : i ≤ cn2 n := by subst hF hU; exact hi2
    have h2 := cn_le n
    rw [← cn2_eq] at h2
    clear hi2
    have hL := mxL_le9 k info i
    cbv
    repeat' first | apply And.intro | refine Classical.or_iff_not_imp_left.2 (fun _ => ?_) | exact trivial
    all_goals try (subst hF hU; simp only [real, us, Nat.le_eq, Int.cast_ofNat_Int, decide_eq_false_iff_not, decide_eq_true_eq, List.length_take, List.length_drop, List.length_append, List.length_replicate, List.length_set, List.length_cons, List.length_nil, List.length_zipWith] at *; (try simp (disch := omega) only [wrap_sm] at *); omega)
    · subst hF hU; exact l32m _ _
    · rename_i g1
      refine ⟨(i + 1 : Nat), ?_⟩
      cbv; subst hF hU
      have hlt := mx2_lt g1
      exact ⟨hlt, sub_stepN (n := cn2 n) hlt, ⟨addi1 (i := i + 1) (by omega), trivial⟩, mx2_out hk i, mx2_next hk i, trivial⟩
    · rename_i g1; subst hF hU
      have hge := mx2_ge g1
      have e := Nat.le_antisymm h1 hge
      rw [e]
      exact congrArg (us.mxO k info) (cn2_eq n)
theorem k_ref2_Expand_b : SpecOK Try.prog 66 (s_ref2_Expand_b real us) := by
  refine g_sound (n := 0) (q := 1) (x := x_ref2_Expand_b real us) ⟨tt_ok, ok_ref2_Expand_b, Go.Vc.ks_nil⟩ mixed Try.func66 rfl rfl (by kernel_rfl) (by decide) (fun j hj => by omega) ?_
  intro l mm c rs ch news hg hl hc
  unfold g_ref2_Expand_b at hg
  split at hg
  · cases hg
    exact ⟨Nat.le_of_ble_eq_true rfl, an_ref2_Expand_b real us _ _ _, [], c_ref2_Expand_b _ _ _ hc⟩
  · cases hg

noncomputable def s_ref2_Expand (F : Fs) (U : Us) : Vc.Spec := rbSpec F [.keep, .row (.kB), .keep] (s_ref2_Expand_b F U)
theorem r_ref2_Expand : Ready Try.prog 66 := by unfold Ready; kernel_rfl
theorem k_ref2_Expand : SpecOK Try.prog 66 (s_ref2_Expand real us) := rb_ok k_ref2_Expand_b
theorem dv2_eq (k label : List UInt8) (n : UInt32) : real.splB (real.repB 32) 0 (real.cutB (us.mdv k label n) 0 32) = us.mdv k label n := by
  refine cp_full 32 _ ?_
  have e : us.mdv k label n = us.mx k (label ++ putK (UInt64.ofNat n.toNat) 4) 32 := rfl
  rw [e, mx_len]
  exact nN32
theorem dv2_is (k label : List UInt8) (n : UInt32) : real.cutB (us.mxO k (real.appB label (us.put (real.ofI64 (real.toI32 n)) (real.int 4))) (cnM (real.int 32))) 0 (real.nat (real.mini (real.maxi (real.int 32) (real.int 0)) (real.int 8160))) = us.mdv k label n := by
  rw [mx_cut, put_label]
  rfl
theorem dvlen (k label : List UInt8) (n : UInt32) : (u_mdv k label n).length = 32 := by
  have e : u_mdv k label n = us.mx k (label ++ putK (UInt64.ofNat n.toNat) 4) 32 := rfl
  rw [e, mx_len]
  exact nN32
theorem c32 : cnM (real.int 32) = 1 := by
  have e : cnM 32 = (nN 32 + 31) / 32 := cn_eq 32
  rw [nN32] at e
  exact e
theorem dv2_in (k label : List UInt8) (n : UInt32) (i : Nat) (h : i < 32) : real.pLt (real.addn 0 (real.nat (real.int i))) (real.lenB (us.mxO k (real.appB label (us.put (real.ofI64 (real.toI32 n)) (real.int 4))) (cnM (real.int 32)))) := by
  rw [c32]
  show 0 + i < (u_mxO k _ 1).length
  rw [mxO_len]; omega
theorem dv2_get (k label : List UInt8) (n : UInt32) (i : Nat) (h : i < 32) : real.getB (us.mxO k (real.appB label (us.put (real.ofI64 (real.toI32 n)) (real.int 4))) (cnM (real.int 32))) (real.addn 0 (real.nat (real.int i))) = (us.mdv k label n).getD i 0 := by
  rw [← dv2_is]
  show List.getD _ (0 + i) 0 = (List.take _ (List.drop 0 _)).getD i 0
  have e : real.nat (real.mini (real.maxi (real.int 32) (real.int 0)) (real.int 8160)) = 32 := rfl
  rw [e, List.drop_zero, Nat.zero_add, List.getD_eq_getElem?_getD, List.getD_eq_getElem?_getD, List.getElem?_take, if_pos h]
theorem dv2_step (k label : List UInt8) (n : UInt32) (i : Nat) (h : i < 32) : real.setB (real.splB (real.repB 32) 0 (real.cutB (us.mdv k label n) 0 i)) (real.nat (real.int i)) (real.getB (us.mxO k (real.appB label (us.put (real.ofI64 (real.toI32 n)) (real.int 4))) (cnM (real.int 32))) (real.addn 0 (real.nat (real.int i)))) = real.splB (real.repB 32) 0 (real.cutB (us.mdv k label n) 0 (i + 1)) := by
  rw [dv2_get k label n i h]
  have hl : (us.mdv k label n).length = 32 := dvlen k label n
  exact cp_step 32 i _ (by omega) h
attribute [local irreducible] u_mx u_mdv
theorem r_ref2_Derive : Ready Try.prog 67 := by unfold Ready; kernel_rfl
noncomputable def sp_ref2_Derive (F : Fs) (U : Us) : Specs := [(97, s_ref1_Put F U), (66, s_ref2_Expand F U)]
theorem ok_ref2_Derive : SpecsOK Try.prog (sp_ref2_Derive real us) := sp_cons r_ref1_Put k_ref1_Put (sp_cons r_ref2_Expand k_ref2_Expand sp_nil)
noncomputable def an_ref2_Derive (F : Fs) (U : Us) (k label : List UInt8) (n : UInt32) : Anns := [(4, ⟨Nat, fun i => F.pLe i 32, fun i => F.subn 32 i, fun i => ⟨[(6, .p 0 0 0), (7, .sl 1 0 0 1 0 (F.nat (F.mini (F.maxi (F.int 32) (F.int 0)) (F.int 8160)))), (8, .p 2 0 0), (9, .i (F.int i))], [(6, 0, .bk 24 [(32, .bt (F.repB 32))]), (7, 1, .row 5 1 (.bt (U.mxO k (F.appB label (U.put (F.ofI64 (F.toI32 n)) (F.int 4))) (U.chN (F.repB (F.nat (F.mini (F.maxi (F.int 32) (F.int 0)) (F.int 8160)))))))), (8, 2, .bk 24 [(32, .bt (F.splB (F.repB 32) 0 (F.cutB (U.mdv k label n) 0 i)))])]⟩⟩)]
noncomputable def g_ref2_Derive (F : Fs) (U : Us) : Law
  | [.ag 32 (.bt k), .s label, .w32 n] => some (F.pLe (F.lenB label) 90000 ∧ U.isL k 32, [.val (.ag 32 (.bt (U.mdv k label n)))])
  | _ => none
noncomputable def s_ref2_Derive (F : Fs) (U : Us) : Vc.Spec := pureSpec F false [.keep, .keep, .keep] (g_ref2_Derive F U)
noncomputable def x_ref2_Derive (F : Fs) (U : Us) : Cx := ⟨Try.f67.ntmps, tt F, sp_ref2_Derive F U, [], [(1, ([(0, [2]), (2, [0]), (4, [0, 2]), (5, [0])], [(5, [2])]))], [], []⟩
theorem c_ref2_Derive (k label : List UInt8) (n : UInt32) (hc : real.pLe (real.lenB label) 90000 ∧ us.isL k 32) : vc real (x_ref2_Derive real us) (an_ref2_Derive real us k label n) [] (Try.f67.body.getD .skip) ⟨zipSl 0 [.ag 32 (.bt k), .s label, .w32 n], [], 64⟩ (retOk real (tt real) false Try.f67.results.toList [.val (.ag 32 (.bt (us.mdv k label n)))]) := by
  generalize hU : us = U
  generalize hF : real = F
  have hl : label.length ≤ 90000 := hc.1
  have hk : k.length = 32 := by subst hU; exact hc.2
  clear hc
  cbv
  repeat' first | apply And.intro | refine Classical.or_iff_not_imp_left.2 (fun _ => ?_) | exact trivial
  all_goals try (subst hF hU; simp only [real, us, Nat.le_eq, Int.cast_ofNat_Int, decide_eq_false_iff_not, decide_eq_true_eq, List.length_take, List.length_drop, List.length_append, List.length_replicate, List.length_set, List.length_cons, List.length_nil, List.length_zipWith] at *; (try simp (disch := omega) only [wrap_sm] at *); omega)
  · subst hF hU; exact put_fit hl n
  · subst hU; exact hk
  · refine ⟨(0 : Nat), ?_⟩
    cbv; subst hF hU
    exact ⟨Nat.zero_le _, ⟨cp_zero 32 (us.mdv k label n), trivial⟩, trivial⟩
  · intro (i : Nat) hi
    have h1 : i ≤ 32 := by subst hF; exact hi
    clear hi
    have hdl : (u_mdv k label n).length = 32 := dvlen k label n
    cbv
    repeat' first | apply And.intro | refine Classical.or_iff_not_imp_left.2 (fun _ => ?_) | exact trivial
    all_goals try (subst hF hU; simp only [real, us, Nat.le_eq, Int.cast_ofNat_Int, decide_eq_false_iff_not, decide_eq_true_eq, List.length_take, List.length_drop, List.length_append, List.length_replicate, List.length_set, List.length_cons, List.length_nil, List.length_zipWith] at *; (try simp (disch := omega) only [wrap_sm] at *); omega)
    · rename_i g1
      subst hF hU
      exact dv2_in k label n i (lt_g (n := 32) g1)
    · rename_i g1
      refine ⟨(i + 1 : Nat), ?_⟩
      cbv; subst hF hU
      have hlt := lt_g (n := 32) g1
      exact ⟨hlt, sub_stepN (n := 32) hlt, ⟨addi1 (by omega), trivial⟩, ⟨dv2_step k label n i hlt, trivial⟩, trivial⟩
    · rename_i g1; subst hF hU
      have e : i = 32 := by have := ge_g (n := 32) g1; omega
      subst e
      exact dv2_eq k label n
theorem k_ref2_Derive : SpecOK Try.prog 67 (s_ref2_Derive real us) := by
  refine pure_sound (x := x_ref2_Derive real us) ⟨tt_ok, ok_ref2_Derive, Go.Vc.ks_nil⟩ mixed Try.func67 rfl rfl (by kernel_rfl) ?_
  intro l c rs hg hc
  unfold g_ref2_Derive at hg
  split at hg
  · cases hg; exact ⟨Nat.le_of_ble_eq_true rfl, an_ref2_Derive real us _ _ _, [], c_ref2_Derive _ _ _ hc⟩
  · cases hg

end Go.Proofs.Ytmldccfchnlpgaa
set_option linter.unusedVariables false
set_option linter.unusedSimpArgs false
set_option maxRecDepth 100000
set_option maxHeartbeats 1000000
namespace Go.Proofs.Ytmldccfchnlpgaa
open Go Go.Vc
/-! ## The document's seals -/
attribute [local irreducible] u_mac u_sum u_mdv u_sx
theorem eqB_comm (x y : List UInt8) : real.eqB x y = real.eqB y x := by
  show (x == y) = (y == x)
  by_cases h : x = y
  · subst h; rfl
  · rw [beq_eq_false_iff_ne.2 h, beq_eq_false_iff_ne.2 (fun e => h e.symm)]
theorem nc_is (p : UInt32) (g : UInt64) : real.appB (us.put (real.ofI64 (real.toI32 p)) (real.int 4)) (us.put g (real.int 8)) = us.nonce p g := by
  rw [u32_64]; rfl
theorem nc_step (X : List UInt8) (n i : Nat) (h : i < n) (hl : X.length = n) : real.setB (real.splB (real.repB n) 0 (real.cutB X 0 i)) (real.nat (real.int i)) (real.getB X (real.nat (real.int i))) = real.splB (real.repB n) 0 (real.cutB X 0 (i + 1)) := cp_step n i X (by omega) h
theorem r_ref4_NonceOf : Ready Try.prog 74 := by unfold Ready; kernel_rfl
noncomputable def sp_ref4_NonceOf (F : Fs) (U : Us) : Specs := [(97, s_ref1_Put F U)]
theorem ok_ref4_NonceOf : SpecsOK Try.prog (sp_ref4_NonceOf real us) := sp_cons r_ref1_Put k_ref1_Put sp_nil
noncomputable def an_ref4_NonceOf (F : Fs) (U : Us) (p : UInt32) (g : UInt64) : Anns := [(4, ⟨Nat, fun i => F.pLe i 12, fun i => F.subn 12 i, fun i => ⟨[(4, .p 0 0 0), (5, .rw 1), (6, .p 2 0 0), (7, .i (F.int i))], [(4, 0, .bk 26 [(12, .bt (F.repB 12))]), (5, 1, .row 5 1 (.bt (U.nonce p g))), (6, 2, .bk 26 [(12, .bt (F.splB (F.repB 12) 0 (F.cutB (U.nonce p g) 0 i)))])]⟩⟩)]
noncomputable def g_ref4_NonceOf (F : Fs) (U : Us) : Law
  | [.w32 p, .w64 g] => some (True, [.val (.ag 12 (.bt (U.nonce p g)))])
  | _ => none
noncomputable def s_ref4_NonceOf (F : Fs) (U : Us) : Vc.Spec := pureSpec F false [.keep, .keep] (g_ref4_NonceOf F U)
noncomputable def x_ref4_NonceOf (F : Fs) (U : Us) : Cx := ⟨Try.f74.ntmps, tt F, sp_ref4_NonceOf F U, [], [], [], []⟩
theorem c_ref4_NonceOf (p : UInt32) (g : UInt64) : vc real (x_ref4_NonceOf real us) (an_ref4_NonceOf real us p g) [] (Try.f74.body.getD .skip) ⟨zipSl 0 [.w32 p, .w64 g], [], 64⟩ (retOk real (tt real) false Try.f74.results.toList [.val (.ag 12 (.bt (us.nonce p g)))]) := by
  generalize hU : us = U
  generalize hF : real = F
  have hl := nonce_len p g
  cbv
  repeat' first | apply And.intro | refine Classical.or_iff_not_imp_left.2 (fun _ => ?_) | exact trivial
  all_goals try (subst hF hU; simp only [real, us, Nat.le_eq, Int.cast_ofNat_Int, decide_eq_false_iff_not, decide_eq_true_eq, List.length_take, List.length_drop, List.length_append, List.length_replicate, List.length_set, List.length_cons, List.length_nil, List.length_zipWith] at *; (try simp (disch := omega) only [wrap_sm] at *); omega)
  · subst hF hU
    show (putK _ _).length ≤ 1000000
    rw [putK_len]; omega
  · refine ⟨(0 : Nat), ?_⟩
    cbv; subst hF hU
    exact ⟨Nat.zero_le _, nc_is p g, ⟨cp_zero 12 (us.nonce p g), trivial⟩, trivial⟩
  · intro (i : Nat) hi
    have h1 : i ≤ 12 := by subst hF; exact hi
    clear hi
    cbv
    repeat' first | apply And.intro | refine Classical.or_iff_not_imp_left.2 (fun _ => ?_) | exact trivial
    all_goals try (subst hF hU; simp only [real, us, Nat.le_eq, Int.cast_ofNat_Int, decide_eq_false_iff_not, decide_eq_true_eq, List.length_take, List.length_drop, List.length_append, List.length_replicate, List.length_set, List.length_cons, List.length_nil, List.length_zipWith] at *; (try simp (disch := omega) only [wrap_sm] at *); omega)
    · rename_i g1
      refine ⟨(i + 1 : Nat), ?_⟩
      cbv; subst hF hU
      have hlt := lt_g (n := 12) g1
      exact ⟨hlt, sub_stepN (n := 12) hlt, ⟨addi1 (by omega), trivial⟩, ⟨nc_step _ 12 i hlt hl, trivial⟩, trivial⟩
    · rename_i g1; subst hF hU
      have e : i = 12 := by have := ge_g (n := 12) g1; omega
      subst e
      exact cp_full 12 _ hl
theorem k_ref4_NonceOf : SpecOK Try.prog 74 (s_ref4_NonceOf real us) := by
  refine pure_sound (x := x_ref4_NonceOf real us) ⟨tt_ok, ok_ref4_NonceOf, Go.Vc.ks_nil⟩ mixed Try.func74 rfl rfl (by kernel_rfl) ?_
  intro l c rs hg hc
  unfold g_ref4_NonceOf at hg
  split at hg
  · cases hg; exact ⟨Nat.le_of_ble_eq_true rfl, an_ref4_NonceOf real us _ _, [], c_ref4_NonceOf _ _⟩
  · cases hg

theorem tg_fin (k n aad c : List UInt8) (hn : n.length = 12) (ha : aad.length ≤ 100000) : real.splB (real.repB 16) 0 (real.cutB (us.mac (tgK k) (tgX n aad c)) 0 16) = us.tag k n aad c := by
  have hl : (us.mac (tgK k) (tgX n aad c)).length = 32 := mac32 _ _
  rw [cp_end 16 _ (by omega), tgK_eq, tgX_eq c ha hn]
  rfl
theorem tg_step (k n aad c : List UInt8) (i : Nat) (h : i < 16) : real.setB (real.splB (real.repB 16) 0 (real.cutB (us.mac (tgK k) (tgX n aad c)) 0 i)) (real.nat (real.int i)) (real.getB (us.mac (tgK k) (tgX n aad c)) (real.nat (real.int i))) = real.splB (real.repB 16) 0 (real.cutB (us.mac (tgK k) (tgX n aad c)) 0 (i + 1)) := by
  have hl : (us.mac (tgK k) (tgX n aad c)).length = 32 := mac32 _ _
  exact cp_step 16 i _ (by omega) h
theorem tg4' {aad n c : List UInt8} (h : aad.length ≤ 100000) (hc : c.length ≤ 100000) : real.pLe (real.lenB (tgX n aad c)) 700000 := by
  have h0 := tg0_len aad
  show (tg0 aad ++ aad ++ List.take 12 (List.drop 0 n) ++ c).length ≤ 700000
  rw [List.length_append, List.length_append, List.length_append, List.length_take]
  omega
theorem r_ref4_TagOf : Ready Try.prog 76 := by unfold Ready; kernel_rfl
noncomputable def sp_ref4_TagOf (F : Fs) (U : Us) : Specs := [(97, s_ref1_Put F U), (67, s_ref2_Derive F U), (65, s_ref2_Mac F U)]
theorem ok_ref4_TagOf : SpecsOK Try.prog (sp_ref4_TagOf real us) := sp_cons r_ref1_Put k_ref1_Put (sp_cons r_ref2_Derive k_ref2_Derive (sp_cons r_ref2_Mac k_ref2_Mac sp_nil))
noncomputable def an_ref4_TagOf (F : Fs) (U : Us) (k n aad c : List UInt8) : Anns := [(7, ⟨Nat, fun i => F.pLe i 16, fun i => F.subn 16 i, fun i => ⟨[(8, .p 0 0 0), (11, .p 1 0 0), (12, .p 2 0 0), (13, .i (F.int i))], [(8, 0, .bk 99 [(16, .bt (F.repB 16))]), (11, 1, .bk 23 [(32, .bt (U.mac (F.cutB (U.mdv k (F.ofS ⟨⟨[109, 97, 99]⟩⟩) (F.ofI32 (F.int 0))) 0 32) (F.appB (F.appB (F.appB (U.put (F.ofI64 (F.int (F.lenB aad))) (F.int 8)) aad) (F.cutB n 0 12)) c)))]), (12, 2, .bk 99 [(16, .bt (F.splB (F.repB 16) 0 (F.cutB (U.mac (F.cutB (U.mdv k (F.ofS ⟨⟨[109, 97, 99]⟩⟩) (F.ofI32 (F.int 0))) 0 32) (F.appB (F.appB (F.appB (U.put (F.ofI64 (F.int (F.lenB aad))) (F.int 8)) aad) (F.cutB n 0 12)) c)) 0 i)))])]⟩⟩)]
noncomputable def g_ref4_TagOf (F : Fs) (U : Us) : Law
  | [.ag 32 (.bt k), .ag 12 (.bt n), .rb 1 (.bt aad), .rb 1 (.bt c)] => some ((U.isL k 32 ∧ U.isL n 12) ∧ F.pLe (F.lenB aad) 100000 ∧ F.pLe (F.lenB c) 100000, [.val (.ag 16 (.bt (U.tag k n aad c)))])
  | _ => none
noncomputable def s_ref4_TagOf (F : Fs) (U : Us) : Vc.Spec := pureSpec F false [.keep, .keep, .row .kB, .row .kB] (g_ref4_TagOf F U)
noncomputable def x_ref4_TagOf (F : Fs) (U : Us) : Cx := ⟨Try.f76.ntmps, tt F, sp_ref4_TagOf F U, [], [(2, ([(3, [2])], [(2, [4000]), (4, [2]), (6, [4])]))], [], []⟩
theorem c_ref4_TagOf (k n aad c : List UInt8) (hc : (us.isL k 32 ∧ us.isL n 12) ∧ real.pLe (real.lenB aad) 100000 ∧ real.pLe (real.lenB c) 100000) : vc real (x_ref4_TagOf real us) (an_ref4_TagOf real us k n aad c) [] (Try.f76.body.getD .skip) ⟨zipSl 0 [.ag 32 (.bt k), .ag 12 (.bt n), .rb 1 (.bt aad), .rb 1 (.bt c)], [], 64⟩ (retOk real (tt real) false Try.f76.results.toList [.val (.ag 16 (.bt (us.tag k n aad c)))]) := by
  generalize hU : us = U
  generalize hF : real = F
  have hk : k.length = 32 := by subst hU; exact hc.1.1
  have hn : n.length = 12 := by subst hU; exact hc.1.2
  have ha : aad.length ≤ 100000 := hc.2.1
  have hcl : c.length ≤ 100000 := hc.2.2
  clear hc
  cbv
  repeat' first | apply And.intro | refine Classical.or_iff_not_imp_left.2 (fun _ => ?_) | exact trivial
  all_goals try (subst hF hU; simp only [real, us, Nat.le_eq, Int.cast_ofNat_Int, decide_eq_false_iff_not, decide_eq_true_eq, List.length_take, List.length_drop, List.length_append, List.length_replicate, List.length_set, List.length_cons, List.length_nil, List.length_zipWith] at *; (try simp (disch := omega) only [wrap_sm] at *); omega)
  · subst hF hU; exact tg1 ha
  · subst hF hU; exact tg2 ha
  · subst hF hU; exact tg3 ha hcl
  · subst hU; exact hk
  · subst hF hU; exact l32d _ _ _
  · subst hF hU; exact tg4' ha hcl
  · refine ⟨(0 : Nat), ?_⟩
    cbv; subst hF hU
    exact ⟨Nat.zero_le _, ⟨cp_zero 16 (us.mac (tgK k) (tgX n aad c)), trivial⟩, trivial⟩
  · intro (i : Nat) hi
    have h1 : i ≤ 16 := by subst hF; exact hi
    clear hi
    cbv
    repeat' first | apply And.intro | refine Classical.or_iff_not_imp_left.2 (fun _ => ?_) | exact trivial
    all_goals try (subst hF hU; simp only [real, us, Nat.le_eq, Int.cast_ofNat_Int, decide_eq_false_iff_not, decide_eq_true_eq, List.length_take, List.length_drop, List.length_append, List.length_replicate, List.length_set, List.length_cons, List.length_nil, List.length_zipWith] at *; (try simp (disch := omega) only [wrap_sm] at *); omega)
    · rename_i g1
      refine ⟨(i + 1 : Nat), ?_⟩
      cbv; subst hF hU
      have hlt := lt_g (n := 16) g1
      exact ⟨hlt, sub_stepN (n := 16) hlt, ⟨addi1 (by omega), trivial⟩, ⟨tg_step k n aad c i hlt, trivial⟩, trivial⟩
    · rename_i g1; subst hF hU
      have e : i = 16 := by have := ge_g (n := 16) g1; omega
      subst e
      exact tg_fin k n aad c hn ha
theorem k_ref4_TagOf : SpecOK Try.prog 76 (s_ref4_TagOf real us) := by
  refine pure_sound (x := x_ref4_TagOf real us) ⟨tt_ok, ok_ref4_TagOf, Go.Vc.ks_nil⟩ mixed Try.func76 rfl rfl (by kernel_rfl) ?_
  intro l c rs hg hc
  unfold g_ref4_TagOf at hg
  split at hg
  · cases hg; exact ⟨Nat.le_of_ble_eq_true rfl, an_ref4_TagOf real us _ _ _ _, [], c_ref4_TagOf _ _ _ _ hc⟩
  · cases hg

attribute [local irreducible] u_enc u_tag
theorem r_ref4_Seal : Ready Try.prog 78 := by unfold Ready; kernel_rfl
noncomputable def sp_ref4_Seal (F : Fs) (U : Us) : Specs := [(67, s_ref2_Derive F U), (38, s_ref4_Xor F U), (76, s_ref4_TagOf F U)]
theorem ok_ref4_Seal : SpecsOK Try.prog (sp_ref4_Seal real us) := sp_cons r_ref2_Derive k_ref2_Derive (sp_cons r_ref4_Xor k_ref4_Xor (sp_cons r_ref4_TagOf k_ref4_TagOf sp_nil))
noncomputable def g_ref4_Seal (F : Fs) (U : Us) : Law
  | [.ag 32 (.bt k), .ag 12 (.bt n), .rb 1 (.bt aad), .rb 1 (.bt p)] => some ((U.isL k 32 ∧ U.isL n 12) ∧ F.pLe (F.lenB aad) 100000 ∧ F.pLe (F.lenB p) 90000, [.row 5 1 (.bt (U.sel k n aad p))])
  | _ => none
noncomputable def s_ref4_Seal (F : Fs) (U : Us) : Vc.Spec := pureSpec F false [.keep, .keep, .row .kB, .row .kB] (g_ref4_Seal F U)
noncomputable def x_ref4_Seal (F : Fs) (U : Us) : Cx := ⟨Try.f78.ntmps, tt F, sp_ref4_Seal F U, [], [(1, ([(2, [0, 1])], [])), (3, ([(2, [1])], []))], [], []⟩
theorem c_ref4_Seal (k n aad p : List UInt8) (hc : (us.isL k 32 ∧ us.isL n 12) ∧ real.pLe (real.lenB aad) 100000 ∧ real.pLe (real.lenB p) 90000) : vc real (x_ref4_Seal real us) [] [] (Try.f78.body.getD .skip) ⟨zipSl 0 [.ag 32 (.bt k), .ag 12 (.bt n), .rb 1 (.bt aad), .rb 1 (.bt p)], [], 64⟩ (retOk real (tt real) false Try.f78.results.toList [.row 5 1 (.bt (us.sel k n aad p))]) := by
  generalize hU : us = U
  generalize hF : real = F
  have hk : k.length = 32 := by subst hU; exact hc.1.1
  have hn : n.length = 12 := by subst hU; exact hc.1.2
  have ha : aad.length ≤ 100000 := hc.2.1
  have hp : p.length ≤ 90000 := hc.2.2
  clear hc
  have he := enc_len k n p
  have ht := tag_len k n aad (u_enc k n p)
  have hd : ∀ l x, U.isL (U.mdv k l x) 32 := by subst hU; exact fun l x => mdvLen k l x
  have hx : ∀ x, U.sx (U.mdv k (F.ofS ⟨⟨[101, 110, 99]⟩⟩) (F.ofI32 (F.int 0))) n (F.ofI32 (F.int 1)) x = U.enc k n x := by subst hF hU; exact enc_eq k n
  cbv
  repeat' first | apply And.intro | refine Classical.or_iff_not_imp_left.2 (fun _ => ?_) | exact trivial
  all_goals (try simp only [hx] at *)
  all_goals try (subst hF hU; simp only [real, us, Nat.le_eq, Int.cast_ofNat_Int, decide_eq_false_iff_not, decide_eq_true_eq, List.length_take, List.length_drop, List.length_append, List.length_replicate, List.length_set, List.length_cons, List.length_nil, List.length_zipWith] at *; (try simp (disch := omega) only [wrap_sm] at *); omega)
  all_goals first
    | (subst hU; exact hk)
    | (subst hU; exact hn)
    | exact hd _ _
    | (subst hF hU; exact seal_eq k n aad p)
    | (subst hF hU; exact l16t _ _ _ _)
theorem k_ref4_Seal : SpecOK Try.prog 78 (s_ref4_Seal real us) := by
  refine pure_sound (x := x_ref4_Seal real us) ⟨tt_ok, ok_ref4_Seal, Go.Vc.ks_nil⟩ mixed Try.func78 rfl rfl (by kernel_rfl) ?_
  intro l c rs hg hc
  unfold g_ref4_Seal at hg
  split at hg
  · cases hg; exact ⟨Nat.le_of_ble_eq_true rfl, [], [], c_ref4_Seal _ _ _ _ hc⟩
  · cases hg

attribute [local irreducible] u_opB u_opE
theorem op4_no {k n aad b : List UInt8} (h : b.length ≤ 90000) (h16 : 16 ≤ b.length) (hg : ¬ real.pB (real.notb (real.eqB (real.cutB (us.tag k n aad (real.cutB b 0 (real.nat (opN b)))) 0 16) (opX b))) false) : [] = us.opB k n aad b ∧ real.int 50 = us.opE k n aad b := by
  refine opB_no h h16 ?_
  rw [cutTag] at hg
  rw [op_t h h16, ← op_x h]
  intro e
  apply hg
  have e1 : (!(real.eqB (opX b) (us.tag k n aad (real.cutB b 0 (real.nat (opN b)))))) = false := e
  show (!(real.eqB (us.tag k n aad (real.cutB b 0 (real.nat (opN b)))) (opX b))) = false
  rw [eqB_comm]
  exact e1
theorem op4_yes {k n aad b : List UInt8} (h : b.length ≤ 90000) (h16 : 16 ≤ b.length) (hg : ¬ real.pB (real.notb (real.eqB (real.cutB (us.tag k n aad (real.cutB b 0 (real.nat (opN b)))) 0 16) (opX b))) true) : us.enc k n (real.cutB b 0 (real.nat (opN b))) = us.opB k n aad b ∧ real.int 0 = us.opE k n aad b := by
  refine opB_yes h h16 ?_
  rw [cutTag] at hg
  rw [op_t h h16, ← op_x h]
  intro e
  apply hg
  have e1 : (!(real.eqB (opX b) (us.tag k n aad (real.cutB b 0 (real.nat (opN b)))))) = true := e
  show (!(real.eqB (us.tag k n aad (real.cutB b 0 (real.nat (opN b)))) (opX b))) = true
  rw [eqB_comm]
  exact e1
theorem r_ref4_Open : Ready Try.prog 71 := by unfold Ready; kernel_rfl
noncomputable def sp_ref4_Open (F : Fs) (U : Us) : Specs := [(76, s_ref4_TagOf F U), (38, s_ref4_Xor F U), (67, s_ref2_Derive F U)]
theorem ok_ref4_Open : SpecsOK Try.prog (sp_ref4_Open real us) := sp_cons r_ref4_TagOf k_ref4_TagOf (sp_cons r_ref4_Xor k_ref4_Xor (sp_cons r_ref2_Derive k_ref2_Derive sp_nil))
noncomputable def g_ref4_Open (F : Fs) (U : Us) : Law
  | [.ag 32 (.bt k), .ag 12 (.bt n), .rb 1 (.bt aad), .rb 1 (.bt b)] => some ((U.isL k 32 ∧ U.isL n 12) ∧ F.pLe (F.lenB aad) 100000 ∧ F.pLe (F.lenB b) 90000, [.row 5 1 (.bt (U.opB k n aad b)), .val (.i (U.opE k n aad b))])
  | _ => none
noncomputable def s_ref4_Open (F : Fs) (U : Us) : Vc.Spec := pureSpec F false [.keep, .keep, .row .kB, .row .kB] (g_ref4_Open F U)
noncomputable def x_ref4_Open (F : Fs) (U : Us) : Cx := ⟨Try.f71.ntmps, tt F, sp_ref4_Open F U, [], [(4, ([(1, [0]), (5, [0, 1]), (7, [0, 1, 5, 6])], [])), (5, ([(4, [0, 1]), (5, [0, 1])], [])), (7, ([(2, [0, 1]), (5, [0, 1, 2])], []))], [], []⟩
theorem c_ref4_Open (k n aad b : List UInt8) (hc : (us.isL k 32 ∧ us.isL n 12) ∧ real.pLe (real.lenB aad) 100000 ∧ real.pLe (real.lenB b) 90000) : vc real (x_ref4_Open real us) [] [] (Try.f71.body.getD .skip) ⟨zipSl 0 [.ag 32 (.bt k), .ag 12 (.bt n), .rb 1 (.bt aad), .rb 1 (.bt b)], [], 64⟩ (retOk real (tt real) false Try.f71.results.toList [.row 5 1 (.bt (us.opB k n aad b)), .val (.i (us.opE k n aad b))]) := by
  generalize hU : us = U
  generalize hF : real = F
  have hk : k.length = 32 := by subst hU; exact hc.1.1
  have hn : n.length = 12 := by subst hU; exact hc.1.2
  have ha : aad.length ≤ 100000 := hc.2.1
  have hb : b.length ≤ 90000 := hc.2.2
  clear hc
  have hd : ∀ l x, U.isL (U.mdv k l x) 32 := by subst hU; exact fun l x => mdvLen k l x
  have hx : ∀ x, U.sx (U.mdv k (F.ofS ⟨⟨[101, 110, 99]⟩⟩) (F.ofI32 (F.int 0))) n (F.ofI32 (F.int 1)) x = U.enc k n x := by subst hF hU; exact enc_eq k n
  cbv
  repeat' first | apply And.intro | refine Classical.or_iff_not_imp_left.2 (fun _ => ?_) | exact trivial
  all_goals (try simp only [hx] at *)
  all_goals try (subst hF hU; simp only [real, us, Nat.le_eq, Int.cast_ofNat_Int, decide_eq_false_iff_not, decide_eq_true_eq, List.length_take, List.length_drop, List.length_append, List.length_replicate, List.length_set, List.length_cons, List.length_nil, List.length_zipWith] at *; (try simp (disch := omega) only [wrap_sm] at *); omega)
  · rename_i g; subst hF hU; exact (opB_sh k n aad (op_lt hb g)).1.symm
  · rename_i g; subst hF hU; exact (opB_sh k n aad (op_lt hb g)).2
  · subst hU; exact hk
  · subst hU; exact hn
  · subst hF hU; exact l16t _ _ _ _
  · rename_i g1 g2; subst hF hU; exact (op4_no hb (op_ge hb g1) g2).1.symm
  · rename_i g1 g2; subst hF hU; exact (op4_no hb (op_ge hb g1) g2).2
  · subst hU; exact hk
  · exact hd _ _
  · subst hU; exact hn
  · rename_i g1 g2; subst hF hU; exact (op4_yes hb (op_ge hb g1) g2).1
  · rename_i g1 g2; subst hF hU; exact (op4_yes hb (op_ge hb g1) g2).2
theorem k_ref4_Open : SpecOK Try.prog 71 (s_ref4_Open real us) := by
  refine pure_sound (x := x_ref4_Open real us) ⟨tt_ok, ok_ref4_Open, Go.Vc.ks_nil⟩ mixed Try.func71 rfl rfl (by kernel_rfl) ?_
  intro l c rs hg hc
  unfold g_ref4_Open at hg
  split at hg
  · cases hg; exact ⟨Nat.le_of_ble_eq_true rfl, [], [], c_ref4_Open _ _ _ _ hc⟩
  · cases hg

attribute [local irreducible] u_seal u_nonce
theorem wr4_step (k : List UInt8) (s : UInt32) (g : UInt64) (key : List UInt8) (hy : key.length = 32) (i : Nat) (h : i < 48) : real.setB (real.splB (real.repB 48) 0 (real.cutB (us.sel k (us.nonce s g) uwV (real.cutB key 0 32)) 0 i)) (real.nat (real.int i)) (real.getB (us.sel k (us.nonce s g) uwV (real.cutB key 0 32)) (real.nat (real.int i))) = real.splB (real.repB 48) 0 (real.cutB (us.sel k (us.nonce s g) uwV (real.cutB key 0 32)) 0 (i + 1)) := by
  have hl : (us.sel k (us.nonce s g) uwV (real.cutB key 0 32)).length = 48 := by rw [cutAll key 32 hy, selLen, hy]
  exact cp_step 48 i _ (by omega) h
theorem wr4_end (k : List UInt8) (s : UInt32) (g : UInt64) (key : List UInt8) (hy : key.length = 32) : real.splB (real.repB 48) 0 (real.cutB (us.sel k (us.nonce s g) uwV (real.cutB key 0 32)) 0 48) = us.wrp k s g key := by
  have hl : (us.sel k (us.nonce s g) uwV (real.cutB key 0 32)).length = 48 := by rw [cutAll key 32 hy, selLen, hy]
  rw [cp_full 48 _ hl]
  unfold uwV
  rw [wt_eq, cutAll key 32 hy]
  rfl
theorem r_ref4_Wrap : Ready Try.prog 80 := by unfold Ready; kernel_rfl
noncomputable def sp_ref4_Wrap (F : Fs) (U : Us) : Specs := [(74, s_ref4_NonceOf F U), (78, s_ref4_Seal F U)]
theorem ok_ref4_Wrap : SpecsOK Try.prog (sp_ref4_Wrap real us) := sp_cons r_ref4_NonceOf k_ref4_NonceOf (sp_cons r_ref4_Seal k_ref4_Seal sp_nil)
noncomputable def an_ref4_Wrap (F : Fs) (U : Us) (k : List UInt8) (s : UInt32) (g : UInt64) (key : List UInt8) : Anns := [(4, ⟨Nat, fun i => F.pLe i 48, fun i => F.subn 48 i, fun i => ⟨[(8, .p 0 0 0), (9, .rw 1), (10, .p 2 0 0), (11, .i (F.int i))], [(8, 0, .bk 89 [(48, .bt (F.repB 48))]), (9, 1, .row 5 1 (.bt (U.sel k (U.nonce s g) [F.ofI8 (F.int 119), F.ofI8 (F.int 114), F.ofI8 (F.int 97), F.ofI8 (F.int 112)] (F.cutB key 0 32)))), (10, 2, .bk 89 [(48, .bt (F.splB (F.repB 48) 0 (F.cutB (U.sel k (U.nonce s g) [F.ofI8 (F.int 119), F.ofI8 (F.int 114), F.ofI8 (F.int 97), F.ofI8 (F.int 112)] (F.cutB key 0 32)) 0 i)))])]⟩⟩)]
noncomputable def g_ref4_Wrap (F : Fs) (U : Us) : Law
  | [.ag 32 (.bt k), .w32 s, .w64 g, .ag 32 (.bt key)] => some (U.isL k 32 ∧ U.isL key 32, [.val (.ag 48 (.bt (U.wrp k s g key)))])
  | _ => none
noncomputable def s_ref4_Wrap (F : Fs) (U : Us) : Vc.Spec := pureSpec F false [.keep, .keep, .keep, .keep] (g_ref4_Wrap F U)
noncomputable def x_ref4_Wrap (F : Fs) (U : Us) : Cx := ⟨Try.f80.ntmps, tt F, sp_ref4_Wrap F U, [], [(1, ([(0, [4]), (3, [0, 4]), (4, [0, 3]), (5, [0, 3]), (6, [0, 3, 4, 5])], [(5, [4])]))], [], []⟩
theorem c_ref4_Wrap (k : List UInt8) (s : UInt32) (g : UInt64) (key : List UInt8) (hc : us.isL k 32 ∧ us.isL key 32) : vc real (x_ref4_Wrap real us) (an_ref4_Wrap real us k s g key) [] (Try.f80.body.getD .skip) ⟨zipSl 0 [.ag 32 (.bt k), .w32 s, .w64 g, .ag 32 (.bt key)], [], 64⟩ (retOk real (tt real) false Try.f80.results.toList [.val (.ag 48 (.bt (us.wrp k s g key)))]) := by
  generalize hU : us = U
  generalize hF : real = F
  have hk : k.length = 32 := by subst hU; exact hc.1
  have hy : key.length = 32 := by subst hU; exact hc.2
  clear hc
  have hn : ∀ p g, U.isL (U.nonce p g) 12 := by subst hU; exact nonceLen
  have hl : (us.sel k (us.nonce s g) uwV (real.cutB key 0 32)).length = 48 := by rw [cutAll key 32 hy, selLen, hy]
  cbv
  repeat' first | apply And.intro | refine Classical.or_iff_not_imp_left.2 (fun _ => ?_) | exact trivial
  all_goals try (subst hF hU; simp only [real, us, Nat.le_eq, Int.cast_ofNat_Int, decide_eq_false_iff_not, decide_eq_true_eq, List.length_take, List.length_drop, List.length_append, List.length_replicate, List.length_set, List.length_cons, List.length_nil, List.length_zipWith] at *; (try simp (disch := omega) only [wrap_sm] at *); omega)
  · subst hU; exact hk
  · exact hn _ _
  · refine ⟨(0 : Nat), ?_⟩
    clear hl
    cbv; subst hF hU
    exact ⟨Nat.zero_le _, ⟨cp_zero 48 (us.sel k (us.nonce s g) uwV (real.cutB key 0 32)), trivial⟩, trivial⟩
  · intro (i : Nat) hi
    have h1 : i ≤ 48 := by subst hF; exact hi
    clear hi
    cbv
    repeat' first | apply And.intro | refine Classical.or_iff_not_imp_left.2 (fun _ => ?_) | exact trivial
    all_goals try (subst hF hU; simp only [real, us, Nat.le_eq, Int.cast_ofNat_Int, decide_eq_false_iff_not, decide_eq_true_eq, List.length_take, List.length_drop, List.length_append, List.length_replicate, List.length_set, List.length_cons, List.length_nil, List.length_zipWith] at *; (try simp (disch := omega) only [wrap_sm] at *); omega)
    · rename_i g1
      refine ⟨(i + 1 : Nat), ?_⟩
      clear hl
      cbv; subst hF hU
      have hlt := lt_g (n := 48) g1
      exact ⟨hlt, sub_stepN (n := 48) hlt, ⟨addi1 (by omega), trivial⟩, ⟨wr4_step k s g key hy i hlt, trivial⟩, trivial⟩
    · rename_i g1; subst hF hU
      have e : i = 48 := by have := ge_g (n := 48) g1; omega
      subst e
      exact wr4_end k s g key hy
theorem k_ref4_Wrap : SpecOK Try.prog 80 (s_ref4_Wrap real us) := by
  refine pure_sound (x := x_ref4_Wrap real us) ⟨tt_ok, ok_ref4_Wrap, Go.Vc.ks_nil⟩ mixed Try.func80 rfl rfl (by kernel_rfl) ?_
  intro l c rs hg hc
  unfold g_ref4_Wrap at hg
  split at hg
  · cases hg; exact ⟨Nat.le_of_ble_eq_true rfl, an_ref4_Wrap real us _ _ _ _, [], c_ref4_Wrap _ _ _ _ hc⟩
  · cases hg

theorem uw4_step (k : List UInt8) (s : UInt32) (g : UInt64) (w : List UInt8) (h : w.length = 48) (i : Nat) (hi : i < 32) (he : ¬ real.pB (real.eqi (us.opE k (us.nonce s g) uwV (real.cutB w 0 48)) (real.int 0)) false) : real.setB (real.splB (real.repB 32) 0 (real.cutB (us.uwK k s g w) 0 i)) (real.nat (real.int i)) (real.getB (us.opB k (us.nonce s g) uwV (real.cutB w 0 48)) (real.nat (real.int i))) = real.splB (real.repB 32) 0 (real.cutB (us.uwK k s g w) 0 (i + 1)) := by
  have hl : (us.uwK k s g w).length = 32 := uwK_len k s g w h
  rw [uwE_eq k s g w h] at he
  have e0 : u_uwE k s g w = 0 := (eqi_iff _ _).1 (trueF rfl he)
  have e : us.opB k (us.nonce s g) uwV (real.cutB w 0 48) = us.uwK k s g w := by
    unfold uwV
    rw [wt_eq, cutAll w 48 h]
    show u_opB k (u_nonce s g) u_wt w = u_uwK k s g w
    unfold u_uwK
    rw [if_pos e0]
  rw [e]
  exact cp_step 32 i _ (by omega) hi
theorem uw4_in (k : List UInt8) (s : UInt32) (g : UInt64) (w : List UInt8) (h : w.length = 48) (he : ¬ real.pB (real.eqi (us.opE k (us.nonce s g) uwV (real.cutB w 0 48)) (real.int 0)) false) : (us.opB k (us.nonce s g) uwV (real.cutB w 0 48)).length = 32 := by
  have hl : (us.uwK k s g w).length = 32 := uwK_len k s g w h
  rw [uwE_eq k s g w h] at he
  have e0 : u_uwE k s g w = 0 := (eqi_iff _ _).1 (trueF rfl he)
  have e : us.opB k (us.nonce s g) uwV (real.cutB w 0 48) = us.uwK k s g w := by
    unfold uwV
    rw [wt_eq, cutAll w 48 h]
    show u_opB k (u_nonce s g) u_wt w = u_uwK k s g w
    unfold u_uwK
    rw [if_pos e0]
  rw [e]; exact hl
theorem uw4_end (k : List UInt8) (s : UInt32) (g : UInt64) (w : List UInt8) (h : w.length = 48) : real.splB (real.repB 32) 0 (real.cutB (us.uwK k s g w) 0 32) = us.uwK k s g w := cp_full 32 _ (uwK_len k s g w h)
theorem uw4_bad (k : List UInt8) (s : UInt32) (g : UInt64) (w : List UInt8) (h : w.length = 48) (he : real.pB (real.eqi (us.opE k (us.nonce s g) uwV (real.cutB w 0 48)) (real.int 0)) false) : us.uwK k s g w = List.replicate 32 0 := by
  rw [uwE_eq k s g w h] at he
  have e0 : u_uwE k s g w ≠ 0 := by
    intro e
    have h1 : real.eqi (us.uwE k s g w) (real.int 0) = false := he
    have h2 : real.eqi (us.uwE k s g w) (real.int 0) = true := (eqi_iff _ _).2 e
    rw [h2] at h1
    cases h1
  show u_uwK k s g w = _
  unfold u_uwK
  rw [if_neg e0]
theorem uw4_no (k : List UInt8) (s : UInt32) (g : UInt64) (w : List UInt8) (h : w.length = 48) (he : real.pB (real.eqi (us.opE k (us.nonce s g) uwV (real.cutB w 0 48)) (real.int 0)) false) : real.splB (real.repB 32) 0 (real.cutB (us.uwK k s g w) 0 0) = us.uwK k s g w := by
  rw [← cp_zero 32 (us.uwK k s g w), uw4_bad k s g w h he]
  rfl
theorem r_ref4_Unwrap : Ready Try.prog 73 := by unfold Ready; kernel_rfl
noncomputable def sp_ref4_Unwrap (F : Fs) (U : Us) : Specs := [(74, s_ref4_NonceOf F U), (71, s_ref4_Open F U)]
theorem ok_ref4_Unwrap : SpecsOK Try.prog (sp_ref4_Unwrap real us) := sp_cons r_ref4_NonceOf k_ref4_NonceOf (sp_cons r_ref4_Open k_ref4_Open sp_nil)
noncomputable def an_ref4_Unwrap (F : Fs) (U : Us) (k : List UInt8) (s : UInt32) (g : UInt64) (w : List UInt8) : Anns := [(4, ⟨Nat, fun i => F.pLe i 32 ∧ (F.pB (F.eqi (U.opE k (U.nonce s g) [F.ofI8 (F.int 119), F.ofI8 (F.int 114), F.ofI8 (F.int 97), F.ofI8 (F.int 112)] (F.cutB w 0 48)) (F.int 0)) false → i = 0), fun i => F.subn 32 i, fun i => ⟨[(8, .p 0 0 0), (10, .rw 1), (11, .i (U.opE k (U.nonce s g) [F.ofI8 (F.int 119), F.ofI8 (F.int 114), F.ofI8 (F.int 97), F.ofI8 (F.int 112)] (F.cutB w 0 48))), (12, .p 2 0 0), (13, .i (F.int i))], [(8, 0, .bk 24 [(32, .bt (F.repB 32))]), (10, 1, .row 5 1 (.bt (U.opB k (U.nonce s g) [F.ofI8 (F.int 119), F.ofI8 (F.int 114), F.ofI8 (F.int 97), F.ofI8 (F.int 112)] (F.cutB w 0 48)))), (12, 2, .bk 24 [(32, .bt (F.splB (F.repB 32) 0 (F.cutB (U.uwK k s g w) 0 i)))])]⟩⟩)]
noncomputable def g_ref4_Unwrap (F : Fs) (U : Us) : Law
  | [.ag 32 (.bt k), .w32 s, .w64 g, .ag 48 (.bt w)] => some (U.isL k 32 ∧ U.isL w 48, [.val (.ag 32 (.bt (U.uwK k s g w))), .val (.b (F.eqi (U.uwE k s g w) (F.int 0)))])
  | _ => none
noncomputable def s_ref4_Unwrap (F : Fs) (U : Us) : Vc.Spec := pureSpec F false [.keep, .keep, .keep, .keep] (g_ref4_Unwrap F U)
noncomputable def x_ref4_Unwrap (F : Fs) (U : Us) : Cx := ⟨Try.f73.ntmps, tt F, sp_ref4_Unwrap F U, [], [(1, ([(0, [4]), (3, [0, 4]), (4, [0, 3]), (5, [0, 3]), (6, [0, 3, 4, 5])], [(5, [4])]))], [], []⟩
theorem c_ref4_Unwrap (k : List UInt8) (s : UInt32) (g : UInt64) (w : List UInt8) (hc : us.isL k 32 ∧ us.isL w 48) : vc real (x_ref4_Unwrap real us) (an_ref4_Unwrap real us k s g w) [] (Try.f73.body.getD .skip) ⟨zipSl 0 [.ag 32 (.bt k), .w32 s, .w64 g, .ag 48 (.bt w)], [], 64⟩ (retOk real (tt real) false Try.f73.results.toList [.val (.ag 32 (.bt (us.uwK k s g w))), .val (.b (real.eqi (us.uwE k s g w) (real.int 0)))]) := by
  generalize hU : us = U
  generalize hF : real = F
  have hk : k.length = 32 := by subst hU; exact hc.1
  have hy : w.length = 48 := by subst hU; exact hc.2
  clear hc
  have hn : ∀ p g, U.isL (U.nonce p g) 12 := by subst hU; exact nonceLen
  cbv
  repeat' first | apply And.intro | refine Classical.or_iff_not_imp_left.2 (fun _ => ?_) | exact trivial
  all_goals try (subst hF hU; simp only [real, us, Nat.le_eq, Int.cast_ofNat_Int, decide_eq_false_iff_not, decide_eq_true_eq, List.length_take, List.length_drop, List.length_append, List.length_replicate, List.length_set, List.length_cons, List.length_nil, List.length_zipWith] at *; (try simp (disch := omega) only [wrap_sm] at *); omega)
  · subst hU; exact hk
  · exact hn _ _
  · refine ⟨(0 : Nat), ?_⟩
    cbv; subst hF hU
    exact ⟨⟨Nat.zero_le _, fun _ => rfl⟩, ⟨cp_zero 32 (us.uwK k s g w), trivial⟩, trivial⟩
  · intro (i : Nat) hi
    have h1 : i ≤ 32 := by subst hF; exact hi.1
    have h2 := hi.2
    clear hi
    have hl : (us.uwK k s g w).length = 32 := uwK_len k s g w hy
    cbv
    repeat' first | apply And.intro | refine Classical.or_iff_not_imp_left.2 (fun _ => ?_) | exact trivial
    all_goals try (subst hF hU; simp only [real, us, Nat.le_eq, Int.cast_ofNat_Int, decide_eq_false_iff_not, decide_eq_true_eq, List.length_take, List.length_drop, List.length_append, List.length_replicate, List.length_set, List.length_cons, List.length_nil, List.length_zipWith] at *; (try simp (disch := omega) only [wrap_sm] at *); omega)
    · rename_i g1 g2; subst hF hU
      have z := uw4_in k s g w hy g2
      exact ⟨Int.natCast_nonneg _, Int.ofNat_lt.2 (by have := lt_g (n := 32) g1; show i < (us.opB k (us.nonce s g) uwV (real.cutB w 0 48)).length; omega)⟩
    · rename_i g1 g2; subst hF hU
      have z := uw4_in k s g w hy g2
      have := lt_g (n := 32) g1
      show i < (us.opB k (us.nonce s g) uwV (real.cutB w 0 48)).length
      omega
    · rename_i g1 g2
      refine ⟨(i + 1 : Nat), ?_⟩
      clear h2 hl
      cbv; subst hF hU
      have hlt := lt_g (n := 32) g1
      exact ⟨⟨hlt, fun h => absurd h g2⟩, sub_stepN (n := 32) hlt, ⟨addi1 (by omega), trivial⟩, ⟨uw4_step k s g w hy i hlt g2, trivial⟩, trivial⟩
    · rename_i g1 g2; subst hF hU
      have e := falseF rfl g2
      have e0 := h2 e
      subst e0
      exact uw4_no k s g w hy e
    · subst hF hU
      exact congrArg (fun x => real.eqi x (real.int 0)) (uwE_eq k s g w hy)
    · rename_i g1; subst hF hU
      have e : i = 32 := by have := ge_g (n := 32) g1; omega
      subst e
      exact uw4_end k s g w hy
    · subst hF hU
      exact congrArg (fun x => real.eqi x (real.int 0)) (uwE_eq k s g w hy)
theorem k_ref4_Unwrap : SpecOK Try.prog 73 (s_ref4_Unwrap real us) := by
  refine pure_sound (x := x_ref4_Unwrap real us) ⟨tt_ok, ok_ref4_Unwrap, Go.Vc.ks_nil⟩ mixed Try.func73 rfl rfl (by kernel_rfl) ?_
  intro l c rs hg hc
  unfold g_ref4_Unwrap at hg
  split at hg
  · cases hg; exact ⟨Nat.le_of_ble_eq_true rfl, an_ref4_Unwrap real us _ _ _ _, [], c_ref4_Unwrap _ _ _ _ hc⟩
  · cases hg

end Go.Proofs.Ytmldccfchnlpgaa
set_option linter.unusedVariables false
set_option linter.unusedSimpArgs false
set_option maxRecDepth 100000
set_option maxHeartbeats 1000000
namespace Go.Proofs.Ytmldccfchnlpgaa
open Go Go.Vc
theorem fo_le {im : List UInt8} {i : Nat} (hi : i ≤ 100000) (h : ¬ real.pB (real.lei (real.addi (real.int i) (real.int 48)) (real.int (real.lenB im))) false) : i + 48 ≤ im.length := by
  have e : real.addi (real.int i) (real.int 48) = ((i + 48 : Nat) : Int) := by
    show IntKind.i64.wrap ((i : Int) + 48) = _
    rw [wrap_sm (by omega) (by omega)]
    omega
  rw [e] at h
  by_cases g : i + 48 ≤ im.length
  · exact g
  · exact absurd (show decide (((i + 48 : Nat) : Int) ≤ (im.length : Int)) = false from decide_eq_false (by omega)) h
theorem fo_gt {im : List UInt8} {i : Nat} (hi : i ≤ 100000) (h : ¬ real.pB (real.lei (real.addi (real.int i) (real.int 48)) (real.int (real.lenB im))) true) : im.length < i + 48 := by
  have e : real.addi (real.int i) (real.int 48) = ((i + 48 : Nat) : Int) := by
    show IntKind.i64.wrap ((i : Int) + 48) = _
    rw [wrap_sm (by omega) (by omega)]
    omega
  rw [e] at h
  by_cases g : i + 48 ≤ im.length
  · exact absurd (show decide (((i + 48 : Nat) : Int) ≤ (im.length : Int)) = true from decide_eq_true (by omega)) h
  · omega
theorem fo_le1 {g n : Nat} (hg : g ≤ 1000) (hn : n ≤ 1000) (h : ¬ real.pB (real.le64 (UInt64.ofNat g) (UInt64.ofNat n)) false) : g < n + 1 := by
  by_cases e : g ≤ n
  · omega
  · refine absurd (show decide ((UInt64.ofNat g).toNat ≤ (UInt64.ofNat n).toNat) = false from ?_) h
    rw [UInt64.toNat_ofNat', UInt64.toNat_ofNat', Nat.mod_eq_of_lt (by omega), Nat.mod_eq_of_lt (by omega)]
    exact decide_eq_false e
theorem fo_gt1 {g n : Nat} (hg : g ≤ 1000) (hn : n ≤ 1000) (h : ¬ real.pB (real.le64 (UInt64.ofNat g) (UInt64.ofNat n)) true) : n + 1 ≤ g := by
  by_cases e : g ≤ n
  · refine absurd (show decide ((UInt64.ofNat g).toNat ≤ (UInt64.ofNat n).toNat) = true from ?_) h
    rw [UInt64.toNat_ofNat', UInt64.toNat_ofNat', Nat.mod_eq_of_lt (by omega), Nat.mod_eq_of_lt (by omega)]
    exact decide_eq_true e
  · omega
theorem wm_le {most : UInt64} (h : real.pB (real.le64 most (real.ofI64 (real.int 20))) true) : u_wm most ≤ 20 ∧ most = UInt64.ofNat (u_wm most) := by
  have h1 : most.toNat ≤ 20 := by
    have h2 : decide (most.toNat ≤ (real.ofI64 (real.int 20)).toNat) = true := h
    have h3 := of_decide_eq_true h2
    exact h3
  unfold u_wm
  refine ⟨by omega, ?_⟩
  apply UInt64.toNat_inj.1
  rw [UInt64.toNat_ofNat']
  omega
attribute [local irreducible] u_uwE u_uwK u_cut48 u_wrI u_wrO u_wrF u_wm
theorem fo_cut {im : List UInt8} {i : Nat} (hi : i ≤ 100000) (h : i + 48 ≤ im.length) : real.splB (real.repB 48) 0 (real.cutB (real.cutB im (real.nat (real.int i)) (real.subn (real.nat (real.addi (real.int i) (real.int 48))) (real.nat (real.int i)))) 0 (real.minn (real.lenB (real.cutB im (real.nat (real.int i)) (real.subn (real.nat (real.addi (real.int i) (real.int 48))) (real.nat (real.int i))))) 48)) = us.cut48 im i := by
  have e : real.cutB im (real.nat (real.int i)) (real.subn (real.nat (real.addi (real.int i) (real.int 48))) (real.nat (real.int i))) = us.cut48 im i := by
    have e1 : real.addi (real.int i) (real.int 48) = ((i + 48 : Nat) : Int) := by
      show IntKind.i64.wrap ((i : Int) + 48) = _
      rw [wrap_sm (by omega) (by omega)]
      omega
    rw [e1]
    show (im.drop i).take (i + 48 - i) = u_cut48 im i
    unfold u_cut48
    rw [Nat.add_sub_cancel_left]
  rw [e]
  have hl : (us.cut48 im i).length = 48 := cut48_len h
  exact copyN 48 _ hl
theorem fo_hit {im k want : List UInt8} {s : UInt32} {m i g : Nat} (h : u_wrF im k s m = some (u_uwK k s (UInt64.ofNat g) (u_cut48 im i))) : real.eqB (us.uwK k s (UInt64.ofNat g) (us.cut48 im i)) want = real.cond (us.wrE im k s m) (real.eqB (us.wrK im k s m) want) false := by
  show (u_uwK k s (UInt64.ofNat g) (u_cut48 im i) == want) = cond ((u_wrF im k s m).isSome) ((u_wrF im k s m).getD (List.replicate 32 0) == want) false
  rw [h]; rfl
theorem fo_miss {im k want : List UInt8} {s : UInt32} {m : Nat} (h : u_wrF im k s m = none) : false = real.cond (us.wrE im k s m) (real.eqB (us.wrK im k s m) want) false := by
  show false = cond ((u_wrF im k s m).isSome) _ false
  rw [h]; rfl
theorem r_law27_found : Ready Try.prog 87 := by unfold Ready; kernel_rfl
noncomputable def sp_law27_found (F : Fs) (U : Us) : Specs := [(73, s_ref4_Unwrap F U)]
theorem ok_law27_found : SpecsOK Try.prog (sp_law27_found real us) := sp_cons r_ref4_Unwrap k_ref4_Unwrap sp_nil
noncomputable def an_law27_found (F : Fs) (U : Us) (im k : List UInt8) (s : UInt32) (most : UInt64) (want : List UInt8) : Anns := [(2, ⟨Nat, fun t => F.pB (U.wrO im k s (U.wm most) t) true ∧ F.pLe t (F.lenB im), fun t => F.muln (F.addn (F.subn (F.lenB im) t) 1) 30, fun t => ⟨[(0, .rb 1 (.bt im)), (2, .w32 s), (3, .w64 most), (6, .p 0 0 0), (9, .p 1 0 0), (11, .i (F.int t))], [(6, 0, .bk 24 [(32, .bt k)]), (9, 1, .bk 24 [(32, .bt want)])]⟩⟩),
  (7, ⟨Nat × Nat, fun t => (F.pB (U.wrO im k s (U.wm most) t.1) true ∧ F.pB (U.wrI im k s t.1 t.2) true) ∧ (F.pLe (F.addn t.1 48) (F.lenB im) ∧ F.pLe t.2 (F.addn (U.wm most) 1)), fun t => F.addn (F.muln (F.subn (F.lenB im) t.1) 30) (F.addn (F.subn (F.addn (U.wm most) 1) t.2) 1), fun t => ⟨[(0, .rb 1 (.bt im)), (2, .w32 s), (3, .w64 most), (6, .p 0 0 0), (9, .p 1 0 0), (11, .i (F.int t.1)), (12, .p 2 0 0), (13, .w64 (F.ofI64 (F.int t.2)))], [(6, 0, .bk 24 [(32, .bt k)]), (9, 1, .bk 24 [(32, .bt want)]), (12, 2, .bk 89 [(48, .bt (U.cut48 im t.1))])]⟩⟩)]
noncomputable def g_law27_found (F : Fs) (U : Us) : Law
  | [.rb 1 (.bt im), .ag 32 (.bt k), .w32 s, .w64 most, .ag 32 (.bt want)] => some ((F.pLe (F.lenB im) 100000 ∧ U.isL k 32) ∧ (F.pB (F.le64 most (F.ofI64 (F.int 20))) true ∧ U.isL want 32), [.val (.b (F.cond (U.wrE im k s (U.wm most)) (F.eqB (U.wrK im k s (U.wm most)) want) false))])
  | _ => none
noncomputable def s_law27_found (F : Fs) (U : Us) : Vc.Spec := pureSpec F false [.row .kB, .keep, .keep, .keep, .keep] (g_law27_found F U)
noncomputable def x_law27_found (F : Fs) (U : Us) : Cx := ⟨Try.f87.ntmps, tt F, sp_law27_found F U, [], [(5, ([(5, [0])], []))], [], []⟩
theorem c_law27_found (im k : List UInt8) (s : UInt32) (most : UInt64) (want : List UInt8) (hc : (real.pLe (real.lenB im) 100000 ∧ us.isL k 32) ∧ (real.pB (real.le64 most (real.ofI64 (real.int 20))) true ∧ us.isL want 32)) : vc real (x_law27_found real us) (an_law27_found real us im k s most want) [] (Try.f87.body.getD .skip) ⟨zipSl 0 [.rb 1 (.bt im), .ag 32 (.bt k), .w32 s, .w64 most, .ag 32 (.bt want)], [], 64⟩ (retOk real (tt real) false Try.f87.results.toList [.val (.b (real.cond (us.wrE im k s (us.wm most)) (real.eqB (us.wrK im k s (us.wm most)) want) false))]) := by
  generalize hU : us = U
  generalize hF : real = F
  have hm : im.length ≤ 100000 := hc.1.1
  have hk : k.length = 32 := by subst hU; exact hc.1.2
  have hw : want.length = 32 := by subst hU; exact hc.2.2
  obtain ⟨hwm, hmo⟩ : u_wm most ≤ 20 ∧ most = UInt64.ofNat (u_wm most) := by subst hF; exact wm_le hc.2.1
  clear hc
  obtain ⟨M, hM⟩ : ∃ M, u_wm most = M := ⟨_, rfl⟩
  have e2 : U.wm most = M := by subst hU; exact hM
  rw [hM] at hmo hwm
  cbv
  repeat' first | apply And.intro | refine Classical.or_iff_not_imp_left.2 (fun _ => ?_) | exact trivial
  all_goals (try simp only [e2] at *)
  all_goals try (subst hF hU; simp only [real, us, Nat.le_eq, Int.cast_ofNat_Int, decide_eq_false_iff_not, decide_eq_true_eq, List.length_take, List.length_drop, List.length_append, List.length_replicate, List.length_set, List.length_cons, List.length_nil, List.length_zipWith] at *; (try simp (disch := omega) only [wrap_sm] at *); omega)
  · refine ⟨(0 : Nat), ?_⟩
    cbv; subst hF hU
    refine ⟨⟨?_, Nat.zero_le _⟩, trivial⟩
    show u_wrO im k s M 0 = true
    unfold u_wrO
    rfl
  · intro (i0 : Nat) ht
    have h1 : u_wrO im k s M i0 = true := by subst hF hU; exact ht.1
    have h2 : i0 ≤ im.length := by subst hF; exact ht.2
    clear ht
    cbv
    repeat' first | apply And.intro | refine Classical.or_iff_not_imp_left.2 (fun _ => ?_) | exact trivial
    all_goals (try simp only [e2] at *)
    all_goals try (subst hF hU; simp only [real, us, Nat.le_eq, Int.cast_ofNat_Int, decide_eq_false_iff_not, decide_eq_true_eq, List.length_take, List.length_drop, List.length_append, List.length_replicate, List.length_set, List.length_cons, List.length_nil, List.length_zipWith] at *; (try simp (disch := omega) only [wrap_sm] at *); omega)
    · rename_i g1
      have h4 : i0 + 48 ≤ im.length := by subst hF; exact fo_le (by omega) g1
      refine ⟨((i0, 0) : Nat × Nat), ?_⟩
      clear g1
      cbv; subst hF hU
      refine ⟨⟨⟨⟨h1, ?_⟩, h4, Nat.zero_le _⟩, ?_⟩, ⟨fo_cut (by omega) h4, trivial⟩, trivial⟩
      · show u_wrI im k s i0 0 = true
        unfold u_wrI
        rfl
      · show (im.length - i0) * 30 + ((M + 1 - 0) + 1) ≤ (im.length - i0 + 1) * 30
        omega
    · intro (t : Nat × Nat) ht
      obtain ⟨i, g⟩ := t
      have q1 : u_wrO im k s M i = true := by subst hF hU; exact ht.1.1.1
      have q2 : u_wrI im k s i g = true := by subst hF hU; exact ht.1.1.2
      have q3 : i + 48 ≤ im.length := by subst hF; exact ht.1.2.1
      have q4 : g ≤ M + 1 := by subst hF; exact ht.1.2.2
      have q5 : (im.length - i) * 30 + ((M + 1 - g) + 1) ≤ (im.length - i0 + 1) * 30 := by subst hF; exact ht.2
      clear ht
      have e5 : F.ofI64 (F.int g) = UInt64.ofNat g := by subst hF; exact u64g (by omega)
      have hL : U.isL (U.cut48 im i) 48 := by subst hU; exact isL48 q3
      have hK : U.isL k 32 := by subst hU; exact hk
      cbv
      repeat' first | apply And.intro | refine Classical.or_iff_not_imp_left.2 (fun _ => ?_) | exact trivial
      all_goals (try simp only [e2, e5] at *)
      all_goals try (subst hF hU; simp only [real, us, Nat.le_eq, Int.cast_ofNat_Int, decide_eq_false_iff_not, decide_eq_true_eq, List.length_take, List.length_drop, List.length_append, List.length_replicate, List.length_set, List.length_cons, List.length_nil, List.length_zipWith] at *; (try simp (disch := omega) only [wrap_sm] at *); omega)
      · rename_i g1 g2 g3
        subst hF hU
        rw [hmo] at g2
        have hg := fo_le1 (by omega) (by omega) g2
        exact fo_hit (wrF_hit im k s M i g (by omega) q1 q2 hg (eq0_t g3))
      · rename_i g1 g2 g3
        have hg : g < M + 1 := by subst hF; rw [hmo] at g2; exact fo_le1 (by omega) (by omega) g2
        have hE : u_uwE k s (UInt64.ofNat g) (u_cut48 im i) ≠ 0 := by subst hF hU; exact eq0_f g3
        clear g1 g2 g3
        refine ⟨((i, g + 1) : Nat × Nat), ?_⟩
        cbv; subst hF hU
        refine ⟨⟨⟨⟨q1, wrI_s q2 hE⟩, q3, ?_⟩, ?_⟩, ?_, ⟨?_, trivial⟩, trivial⟩
        · show g + 1 ≤ M + 1
          omega
        · show (im.length - i) * 30 + ((M + 1 - (g + 1)) + 1) ≤ (im.length - i0 + 1) * 30
          omega
        · show (im.length - i) * 30 + ((M + 1 - (g + 1)) + 1) < (im.length - i) * 30 + ((M + 1 - g) + 1)
          omega
        · exact (wr_s (by omega)).trans (u64g (by omega)).symm
      · rename_i g1 g2
        have hg : M + 1 ≤ g := by subst hF; rw [hmo] at g2; exact fo_gt1 (by omega) (by omega) g2
        have hg2 : g = M + 1 := by omega
        subst hg2
        clear g1 g2
        refine ⟨(i + 1 : Nat), ?_⟩
        cbv; subst hF hU
        refine ⟨⟨wrO_s q1 q2, ?_⟩, ?_, ⟨addi1 (by omega), trivial⟩, trivial⟩
        · show i + 1 ≤ im.length
          omega
        · show (im.length - (i + 1) + 1) * 30 < (im.length - i0 + 1) * 30
          omega
    · rename_i g1
      subst hF hU
      exact fo_miss (wrF_none im k s M i0 (by have := fo_gt (by omega) g1; omega) h1)
theorem k_law27_found : SpecOK Try.prog 87 (s_law27_found real us) := by
  refine pure_sound (x := x_law27_found real us) ⟨tt_ok, ok_law27_found, Go.Vc.ks_nil⟩ mixed Try.func87 rfl rfl (by kernel_rfl) ?_
  intro l c rs hg hc
  unfold g_law27_found at hg
  split at hg
  · cases hg; exact ⟨Nat.le_of_ble_eq_true rfl, an_law27_found real us _ _ _ _ _, [], c_law27_found _ _ _ _ _ hc⟩
  · cases hg

noncomputable abbrev s1 : UInt32 := real.ofI32 (real.int 1)
theorem r_law27_first : Ready Try.prog 88 := by unfold Ready; kernel_rfl
noncomputable def sp_law27_first (F : Fs) (U : Us) : Specs := [(73, s_ref4_Unwrap F U)]
theorem ok_law27_first : SpecsOK Try.prog (sp_law27_first real us) := sp_cons r_ref4_Unwrap k_ref4_Unwrap sp_nil
noncomputable def an_law27_first (F : Fs) (U : Us) (im k : List UInt8) : Anns := [(2, ⟨Nat, fun t => F.pB (U.wrO im k (F.ofI32 (F.int 1)) 5 t) true ∧ F.pLe t (F.lenB im), fun t => F.muln (F.addn (F.subn (F.lenB im) t) 1) 30, fun t => ⟨[(0, .rb 1 (.bt im)), (3, .p 0 0 0), (4, .p 1 0 0), (5, .i (F.int t))], [(3, 0, .bk 24 [(32, .bt k)]), (4, 1, .bk 24 [(32, .bt (F.repB 32))])]⟩⟩),
  (7, ⟨Nat × Nat, fun t => (F.pB (U.wrO im k (F.ofI32 (F.int 1)) 5 t.1) true ∧ F.pB (U.wrI im k (F.ofI32 (F.int 1)) t.1 t.2) true) ∧ (F.pLe (F.addn t.1 48) (F.lenB im) ∧ F.pLe t.2 6), fun t => F.addn (F.muln (F.subn (F.lenB im) t.1) 30) (F.addn (F.subn 6 t.2) 1), fun t => ⟨[(0, .rb 1 (.bt im)), (3, .p 0 0 0), (4, .p 1 0 0), (5, .i (F.int t.1)), (6, .p 2 0 0), (7, .w64 (F.ofI64 (F.int t.2)))], [(3, 0, .bk 24 [(32, .bt k)]), (4, 1, .bk 24 [(32, .bt (F.repB 32))]), (6, 2, .bk 89 [(48, .bt (U.cut48 im t.1))])]⟩⟩)]
noncomputable def g_law27_first (F : Fs) (U : Us) : Law
  | [.rb 1 (.bt im), .ag 32 (.bt k)] => some (F.pLe (F.lenB im) 100000 ∧ U.isL k 32, [.val (.ag 32 (.bt (U.wrK im k (F.ofI32 (F.int 1)) 5)))])
  | _ => none
noncomputable def s_law27_first (F : Fs) (U : Us) : Vc.Spec := pureSpec F false [.row .kB, .keep] (g_law27_first F U)
noncomputable def x_law27_first (F : Fs) (U : Us) : Cx := ⟨Try.f88.ntmps, tt F, sp_law27_first F U, [], [(5, ([(5, [0])], []))], [], []⟩
theorem c_law27_first (im k : List UInt8) (hc : real.pLe (real.lenB im) 100000 ∧ us.isL k 32) : vc real (x_law27_first real us) (an_law27_first real us im k) [] (Try.f88.body.getD .skip) ⟨zipSl 0 [.rb 1 (.bt im), .ag 32 (.bt k)], [], 64⟩ (retOk real (tt real) false Try.f88.results.toList [.val (.ag 32 (.bt (us.wrK im k (real.ofI32 (real.int 1)) 5)))]) := by
  generalize hU : us = U
  generalize hF : real = F
  have hm : im.length ≤ 100000 := hc.1
  have hk : k.length = 32 := by subst hU; exact hc.2
  clear hc
  have e0 : F.ofI64 (F.int 5) = UInt64.ofNat 5 := by subst hF; rfl
  cbv
  repeat' first | apply And.intro | refine Classical.or_iff_not_imp_left.2 (fun _ => ?_) | exact trivial
  all_goals (try simp only [e0] at *)
  all_goals try (subst hF hU; simp only [real, us, Nat.le_eq, Int.cast_ofNat_Int, decide_eq_false_iff_not, decide_eq_true_eq, List.length_take, List.length_drop, List.length_append, List.length_replicate, List.length_set, List.length_cons, List.length_nil, List.length_zipWith] at *; (try simp (disch := omega) only [wrap_sm] at *); omega)
  · refine ⟨(0 : Nat), ?_⟩
    cbv; subst hF hU
    refine ⟨⟨?_, Nat.zero_le _⟩, trivial⟩
    show u_wrO im k s1 5 0 = true
    unfold u_wrO
    rfl
  · intro (i0 : Nat) ht
    have h1 : u_wrO im k s1 5 i0 = true := by subst hF hU; exact ht.1
    have h2 : i0 ≤ im.length := by subst hF; exact ht.2
    clear ht
    cbv
    repeat' first | apply And.intro | refine Classical.or_iff_not_imp_left.2 (fun _ => ?_) | exact trivial
    all_goals (try simp only [e0] at *)
    all_goals try (subst hF hU; simp only [real, us, Nat.le_eq, Int.cast_ofNat_Int, decide_eq_false_iff_not, decide_eq_true_eq, List.length_take, List.length_drop, List.length_append, List.length_replicate, List.length_set, List.length_cons, List.length_nil, List.length_zipWith] at *; (try simp (disch := omega) only [wrap_sm] at *); omega)
    · rename_i g1
      have h4 : i0 + 48 ≤ im.length := by subst hF; exact fo_le (by omega) g1
      refine ⟨((i0, 0) : Nat × Nat), ?_⟩
      clear g1
      cbv; subst hF hU
      refine ⟨⟨⟨⟨h1, ?_⟩, h4, Nat.zero_le _⟩, ?_⟩, ⟨fo_cut (by omega) h4, trivial⟩, trivial⟩
      · show u_wrI im k s1 i0 0 = true
        unfold u_wrI
        rfl
      · show (im.length - i0) * 30 + ((6 - 0) + 1) ≤ (im.length - i0 + 1) * 30
        omega
    · intro (t : Nat × Nat) ht
      obtain ⟨i, g⟩ := t
      have q1 : u_wrO im k s1 5 i = true := by subst hF hU; exact ht.1.1.1
      have q2 : u_wrI im k s1 i g = true := by subst hF hU; exact ht.1.1.2
      have q3 : i + 48 ≤ im.length := by subst hF; exact ht.1.2.1
      have q4 : g ≤ 6 := by subst hF; exact ht.1.2.2
      have q5 : (im.length - i) * 30 + ((6 - g) + 1) ≤ (im.length - i0 + 1) * 30 := by subst hF; exact ht.2
      clear ht
      have e5 : F.ofI64 (F.int g) = UInt64.ofNat g := by subst hF; exact u64g (by omega)
      have hL : U.isL (U.cut48 im i) 48 := by subst hU; exact isL48 q3
      have hK : U.isL k 32 := by subst hU; exact hk
      cbv
      repeat' first | apply And.intro | refine Classical.or_iff_not_imp_left.2 (fun _ => ?_) | exact trivial
      all_goals (try simp only [e0, e5] at *)
      all_goals try (subst hF hU; simp only [real, us, Nat.le_eq, Int.cast_ofNat_Int, decide_eq_false_iff_not, decide_eq_true_eq, List.length_take, List.length_drop, List.length_append, List.length_replicate, List.length_set, List.length_cons, List.length_nil, List.length_zipWith] at *; (try simp (disch := omega) only [wrap_sm] at *); omega)
      · rename_i g1 g2 g3
        subst hF hU
        have hg := fo_le1 (n := 5) (by omega) (by omega) g2
        exact (wr_hitE (wrF_hit im k _ 5 i g (by omega) q1 q2 hg (eq0_t g3))).2
      · rename_i g1 g2 g3
        have hg : g < 5 + 1 := by subst hF; exact fo_le1 (by omega) (by omega) g2
        have hE : u_uwE k s1 (UInt64.ofNat g) (u_cut48 im i) ≠ 0 := by subst hF hU; exact eq0_f g3
        clear g1 g2 g3
        refine ⟨((i, g + 1) : Nat × Nat), ?_⟩
        cbv; subst hF hU
        refine ⟨⟨⟨⟨q1, wrI_s q2 hE⟩, q3, ?_⟩, ?_⟩, ?_, ⟨?_, trivial⟩, trivial⟩
        · show g + 1 ≤ 6
          omega
        · show (im.length - i) * 30 + ((6 - (g + 1)) + 1) ≤ (im.length - i0 + 1) * 30
          omega
        · show (im.length - i) * 30 + ((6 - (g + 1)) + 1) < (im.length - i) * 30 + ((6 - g) + 1)
          omega
        · exact (wr_s (by omega)).trans (u64g (by omega)).symm
      · rename_i g1 g2
        have hg : 5 + 1 ≤ g := by subst hF; exact fo_gt1 (by omega) (by omega) g2
        have hg2 : g = 5 + 1 := by omega
        subst hg2
        clear g1 g2
        refine ⟨(i + 1 : Nat), ?_⟩
        cbv; subst hF hU
        refine ⟨⟨wrO_s q1 q2, ?_⟩, ?_, ⟨addi1 (by omega), trivial⟩, trivial⟩
        · show i + 1 ≤ im.length
          omega
        · show (im.length - (i + 1) + 1) * 30 < (im.length - i0 + 1) * 30
          omega
    · rename_i g1
      subst hF hU
      exact (wr_missE (wrF_none im k s1 5 i0 (by have := fo_gt (by omega) g1; omega) h1)).2
theorem k_law27_first : SpecOK Try.prog 88 (s_law27_first real us) := by
  refine pure_sound (x := x_law27_first real us) ⟨tt_ok, ok_law27_first, Go.Vc.ks_nil⟩ mixed Try.func88 rfl rfl (by kernel_rfl) ?_
  intro l c rs hg hc
  unfold g_law27_first at hg
  split at hg
  · cases hg; exact ⟨Nat.le_of_ble_eq_true rfl, an_law27_first real us _ _, [], c_law27_first _ _ hc⟩
  · cases hg

end Go.Proofs.Ytmldccfchnlpgaa
set_option linter.unusedVariables false
set_option linter.unusedSimpArgs false
set_option maxRecDepth 100000
set_option maxHeartbeats 1000000
namespace Go.Proofs.Ytmldccfchnlpgaa
open Go Go.Vc
/-! ## One image, in plain bytes: which pieces of it open -/
def iK1 : List UInt8 := [0, 1, 0, 0, 0, 0, 0, 0, 0, 0, 0, 0, 0, 0, 0, 0, 0, 0, 0, 0, 0, 0, 0, 0, 0, 0, 0, 0, 0, 0, 0, 0]
def iK4 : List UInt8 := [0, 0, 0, 0, 4, 0, 0, 0, 0, 0, 0, 0, 0, 0, 0, 0, 0, 0, 0, 0, 0, 0, 0, 0, 0, 0, 0, 0, 0, 0, 0, 0]
def iKM : List UInt8 := [32, 180, 174, 254, 38, 221, 152, 79, 190, 26, 28, 216, 24, 31, 5, 77, 82, 232, 59, 80, 32, 191, 215, 245, 194, 113, 252, 199, 3, 72, 45, 228]
def iKE : List UInt8 := [106, 108, 15, 183, 189, 50, 190, 211, 33, 252, 164, 3, 180, 148, 64, 28, 7, 185, 141, 246, 21, 194, 243, 115, 249, 224, 89, 245, 202, 87, 53, 29]
def iN : List UInt8 := [0, 0, 0, 2, 0, 0, 0, 0, 0, 0, 0, 3]
def iE : List UInt8 := [77, 249, 86, 50, 48, 12, 60, 38, 77, 49, 21, 216, 105, 0, 221, 116, 21, 193, 204, 38, 59, 188, 137, 6, 73, 164, 92, 180, 210, 150, 121, 74]
def iT : List UInt8 := [203, 16, 1, 163, 79, 62, 189, 149, 181, 170, 31, 43, 84, 103, 22, 142]
def iIm : List UInt8 := [97, 98, 99] ++ (iE ++ iT)
theorem iKM_is : u_mxL iK1 ([109, 97, 99] ++ putK (UInt64.ofNat 0) 4) 1 = iKM := by decide +kernel
theorem iKE_is : u_mxL iK1 ([101, 110, 99] ++ putK (UInt64.ofNat 0) 4) 1 = iKE := by decide +kernel
theorem iN_is : u_nonce 2 3 = iN := by decide +kernel
theorem iE_is : u_sx iKE iN 1 iK4 = iE := by decide +kernel
theorem iT_is : (u_mac iKM (u_tagM iN u_wt iE)).take 16 = iT := by decide +kernel
def iHit (i g : Nat) : Bool := ((iIm.drop i).take 48).drop 32 == (u_mac iKM (u_tagM (u_nonce 2 (UInt64.ofNat g)) u_wt (((iIm.drop i).take 48).take 32))).take 16
theorem iHit0 : ((List.range 6).all fun g => !(iHit 0 g)) = true := by decide +kernel
theorem iHit1 : ((List.range 6).all fun g => !(iHit 1 g)) = true := by decide +kernel
theorem iHit2 : ((List.range 6).all fun g => !(iHit 2 g)) = true := by decide +kernel
theorem iHit3 : ((List.range 3).all fun g => !(iHit 3 g)) = true := by decide +kernel
end Go.Proofs.Ytmldccfchnlpgaa
set_option linter.unusedVariables false
set_option linter.unusedSimpArgs false
set_option maxRecDepth 100000
set_option maxHeartbeats 1000000
namespace Go.Proofs.Ytmldccfchnlpgaa
open Go Go.Vc
noncomputable abbrev jK1 : List UInt8 := real.setB (real.repB 32) 1 (real.ofI8 (real.int 1))
noncomputable abbrev jK4 : List UInt8 := real.setB (real.repB 32) 4 (real.ofI8 (real.int 4))
noncomputable abbrev jS : UInt32 := real.ofI32 (real.int 2)
noncomputable abbrev jG : UInt64 := real.ofI64 (real.int 3)
noncomputable abbrev jW : List UInt8 := us.wrp jK1 jS jG jK4
noncomputable abbrev jIm : List UInt8 := real.appB [real.ofI8 (real.int 97), real.ofI8 (real.int 98), real.ofI8 (real.int 99)] (real.cutB jW 0 48)
noncomputable abbrev jA : List UInt8 := real.repB (real.nat (real.int 130))
noncomputable abbrev jB : List UInt8 := real.appB (real.repB (real.nat (real.int 64))) (real.repB (real.nat (real.int 64)))
theorem jK1_is : jK1 = iK1 := by decide
theorem jK4_is : jK4 = iK4 := by decide
theorem jS_is : jS = 2 := by rfl
theorem jG_is : jG = 3 := by rfl
theorem jk1_len : us.isL jK1 32 := by rw [jK1_is]; rfl
theorem jk4_len : us.isL jK4 32 := by rw [jK4_is]; rfl
theorem jf1 : real.pB (real.eqi (us.find [real.ofI8 (real.int 97), real.ofI8 (real.int 98), real.ofI8 (real.int 99)] [real.ofI8 (real.int 99)]) (real.int 2)) true := by
  show (u_find [97, 98, 99] [99] == 2) = true
  decide +kernel
theorem jf2 : real.pB (real.eqi (us.find [] []) (real.int 0)) true := by
  show (u_find [] [] == 0) = true
  decide +kernel
theorem jf3 : real.pB (us.plain [real.ofI8 (real.int 120), real.ofI8 (real.int 120), real.ofI8 (real.int 97), real.ofI8 (real.int 98), real.ofI8 (real.int 99)] [real.ofI8 (real.int 122), real.ofI8 (real.int 97), real.ofI8 (real.int 98)] (real.int 2)) true := by
  show u_plain [120, 120, 97, 98, 99] [122, 97, 98] 2 = true
  decide +kernel
theorem jf4 : real.pB (real.notb (us.plain [real.ofI8 (real.int 120), real.ofI8 (real.int 120), real.ofI8 (real.int 97), real.ofI8 (real.int 98), real.ofI8 (real.int 99)] [real.ofI8 (real.int 122), real.ofI8 (real.int 97), real.ofI8 (real.int 98)] (real.int 3))) true := by
  show (!u_plain [120, 120, 97, 98, 99] [122, 97, 98] 3) = true
  decide +kernel
theorem js : us.smL jA jB (us.smN jA jB) = [2] := by
  show u_smL (List.replicate 130 0) (List.replicate 64 0 ++ List.replicate 64 0) (u_smN (List.replicate 130 0) (List.replicate 64 0 ++ List.replicate 64 0)) = [2]
  decide +kernel
theorem js1 : real.pB (real.eqi (real.int (real.lenI (us.smL jA jB (us.smN jA jB)))) (real.int 1)) true := by rw [js]; rfl
theorem js2 : real.pIn (real.int 0) (real.lenI (us.smL jA jB (us.smN jA jB))) := by
  rw [js]
  show (0 : Int) ≤ 0 ∧ (0 : Int) < 1
  omega
theorem js3 : real.pLt (real.nat (real.int 0)) (real.lenI (us.smL jA jB (us.smN jA jB))) := by
  rw [js]
  show 0 < 1
  omega
theorem js4 : real.eqi (real.getI (us.smL jA jB (us.smN jA jB)) (real.nat (real.int 0))) (real.int 2) = true := by rw [js]; rfl
theorem jwm5 : us.wm (real.ofI64 (real.int 5)) = 5 := by show u_wm 5 = 5; decide +kernel
theorem jwm2 : us.wm (real.ofI64 (real.int 2)) = 2 := by show u_wm 2 = 2; decide +kernel
attribute [local irreducible] u_mac u_mxL u_mxO u_sx u_mx in
theorem mdv_is4 (k l : List UInt8) (n : UInt32) : u_mdv k l n = u_mxL k (l ++ putK (UInt64.ofNat n.toNat) 4) 1 := mx_32 k _
attribute [local irreducible] u_mac u_mxL u_mxO u_sx u_mx in
theorem jW_is : u_wrp iK1 2 3 iK4 = iE ++ iT := by
  have e1 : u_mdv iK1 [101, 110, 99] 0 = iKE := (mdv_is4 _ _ _).trans iKE_is
  have e2 : u_mdv iK1 [109, 97, 99] 0 = iKM := (mdv_is4 _ _ _).trans iKM_is
  unfold u_wrp u_seal u_enc u_tag
  rw [e1, e2, iN_is, iE_is, iT_is]
attribute [local irreducible] u_mac u_mxL u_mxO u_sx u_mx in
theorem jw_no (i g : Nat) (hi : i ≤ 3) (h : iHit i g = false) : u_uwE iK1 2 (UInt64.ofNat g) (u_cut48 iIm i) ≠ 0 := by
  have e2 : u_mdv iK1 [109, 97, 99] 0 = iKM := (mdv_is4 _ _ _).trans iKM_is
  have hl : (u_cut48 iIm i).length = 48 := cut48_len (by show i + 48 ≤ 51; omega)
  unfold u_uwE u_opE u_tag
  rw [e2, hl, if_neg (by omega)]
  unfold iHit at h
  have h2 := beq_eq_false_iff_ne.1 h
  rw [if_neg]
  · decide
  · exact h2
theorem jI_of {im k : List UInt8} {s : UInt32} {i : Nat} : ∀ g, (∀ j, j < g → u_uwE k s (UInt64.ofNat j) (u_cut48 im i) ≠ 0) → u_wrI im k s i g = true
  | 0, _ => rfl
  | g + 1, h => wrI_s (jI_of g fun j hj => h j (by omega)) (h g (by omega))
theorem jO_of {im k : List UInt8} {s : UInt32} {m : Nat} : ∀ i, (∀ j, j < i → u_wrI im k s j (m + 1) = true) → u_wrO im k s m i = true
  | 0, _ => rfl
  | i + 1, h => wrO_s (jO_of i fun j hj => h j (by omega)) (h i (by omega))
theorem jNo (i g : Nat) (h : (i < 3 ∧ g < 6) ∨ (i = 3 ∧ g < 3)) : u_uwE iK1 2 (UInt64.ofNat g) (u_cut48 iIm i) ≠ 0 := by
  refine jw_no i g (by omega) ?_
  have all : ∀ (n m : Nat), ((List.range m).all fun g => !(iHit n g)) = true → ∀ g, g < m → iHit n g = false := by
    intro n m hh g hg
    have := List.all_eq_true.1 hh g (List.mem_range.2 hg)
    simpa using this
  rcases h with ⟨h1, h2⟩ | ⟨h1, h2⟩
  · have : i = 0 ∨ i = 1 ∨ i = 2 := by omega
    rcases this with rfl | rfl | rfl
    · exact all 0 6 iHit0 g h2
    · exact all 1 6 iHit1 g h2
    · exact all 2 6 iHit2 g h2
  · subst h1
    exact all 3 3 iHit3 g h2
attribute [local irreducible] u_uwE u_uwK u_wrp
theorem jCut : u_cut48 iIm 3 = u_wrp iK1 2 3 iK4 := by rw [jW_is]; decide
theorem jF5 : u_wrF iIm iK1 2 5 = some iK4 := by
  have hu := uw_wrp iK1 2 3 iK4
  have := wrF_hit iIm iK1 2 5 3 3 (by decide) (jO_of 3 fun j hj => jI_of 6 fun g hg => jNo j g (.inl ⟨hj, hg⟩)) (jI_of 3 fun g hg => jNo 3 g (.inr ⟨rfl, hg⟩)) (by omega) (by rw [jCut]; exact hu.1)
  rw [this, jCut]
  exact congrArg some hu.2
theorem jF2 : u_wrF iIm iK1 2 2 = none := wrF_none iIm iK1 2 2 4 (by decide) (jO_of 4 fun j hj => jI_of 3 fun g hg => jNo j g (by omega))
theorem jIm_is : jIm = iIm := by
  show [97, 98, 99] ++ (us.wrp jK1 jS jG jK4).take 48 = iIm
  rw [jK1_is, jK4_is, jS_is, jG_is]
  show [97, 98, 99] ++ (u_wrp iK1 2 3 iK4).take 48 = iIm
  rw [jW_is]
  decide
theorem jr1 : real.pLe (real.addn 0 48) (real.lenB jW) := by
  have : jW.length = 48 := wrp_len _ _ _ _ jk4_len
  show 48 ≤ jW.length
  omega
theorem jr2 : real.pB (us.wrE jIm jK1 jS (us.wm (real.ofI64 (real.int 5)))) true := by
  rw [jwm5, jIm_is, jK1_is, jS_is]
  show (u_wrF iIm iK1 2 5).isSome = true
  rw [jF5]; rfl
theorem jr3 : real.pB (real.eqB (us.wrK jIm jK1 jS (us.wm (real.ofI64 (real.int 5)))) jK4) true := by
  rw [jwm5, jIm_is, jK1_is, jS_is, jK4_is]
  show ((u_wrF iIm iK1 2 5).getD (List.replicate 32 0) == iK4) = true
  rw [jF5]; decide
theorem jr4 : real.pB (real.notb (us.wrE jIm jK1 jS (us.wm (real.ofI64 (real.int 2))))) true := by
  rw [jwm2, jIm_is, jK1_is, jS_is]
  show (!(u_wrF iIm iK1 2 2).isSome) = true
  rw [jF2]; rfl
attribute [local irreducible] u_cut48 u_wrI u_wrO u_wrF u_smL u_smN u_find u_plain u_wm
theorem r_law27_known : Ready Try.prog 81 := by unfold Ready; kernel_rfl
noncomputable def sp_law27_known (F : Fs) (U : Us) : Specs := [(80, s_ref4_Wrap F U), (86, s_image_Wrapped F U), (83, s_image_Same F U), (84, s_image_Find F U), (85, s_image_Plain F U)]
theorem ok_law27_known : SpecsOK Try.prog (sp_law27_known real us) := sp_cons r_ref4_Wrap k_ref4_Wrap (sp_cons r_image_Wrapped k_image_Wrapped (sp_cons r_image_Same k_image_Same (sp_cons r_image_Find k_image_Find (sp_cons r_image_Plain k_image_Plain sp_nil))))
noncomputable def g_law27_known (F : Fs) (U : Us) : Law
  | [] => some (True, [.val (.b true)])
  | _ => none
noncomputable def s_law27_known (F : Fs) (U : Us) : Vc.Spec := pureSpec F false [] (g_law27_known F U)
noncomputable def x_law27_known (F : Fs) (U : Us) : Cx := ⟨Try.f81.ntmps, tt F, sp_law27_known F U, [], [(5, ([(0, [1]), (1, [0]), (2, [0])], [(2, [1])]))], [], [6]⟩
theorem c_law27_known  : vc real (x_law27_known real us) [] [] (Try.f81.body.getD .skip) ⟨zipSl 0 [], [], 64⟩ (retOk real (tt real) false Try.f81.results.toList [.val (.b true)]) := by
  generalize hU : us = U
  generalize hF : real = F
  cbv
  repeat' first | apply And.intro | refine Classical.or_iff_not_imp_left.2 (fun _ => ?_) | exact trivial
  all_goals try (subst hF hU; simp only [real, us, Nat.le_eq, Int.cast_ofNat_Int, decide_eq_false_iff_not, decide_eq_true_eq, List.length_take, List.length_drop, List.length_append, List.length_replicate, List.length_set, List.length_cons, List.length_nil, List.length_zipWith] at *; (try simp (disch := omega) only [wrap_sm] at *); omega)
  all_goals subst hF hU
  all_goals first
    | exact jk1_len
    | exact jk4_len
    | exact jr1
    | exact jf1
    | exact jf2
    | exact jf3
    | exact jf4
    | exact jr2
    | exact jr3
    | exact jr4
    | exact js1
    | exact js2
    | exact js3
    | exact js4
theorem k_law27_known : SpecOK Try.prog 81 (s_law27_known real us) := by
  refine pure_sound (x := x_law27_known real us) ⟨tt_ok, ok_law27_known, Go.Vc.ks_nil⟩ mixed Try.func81 rfl rfl (by kernel_rfl) ?_
  intro l c rs hg hc
  unfold g_law27_known at hg
  split at hg
  · cases hg; exact ⟨Nat.le_of_ble_eq_true rfl, [], [], c_law27_known ⟩
  · cases hg

end Go.Proofs.Ytmldccfchnlpgaa
set_option linter.unusedVariables false
set_option linter.unusedSimpArgs false
set_option maxRecDepth 100000
set_option maxHeartbeats 1000000
namespace Go.Proofs.Ytmldccfchnlpgaa
open Go Go.Vc
/-! ## What the laws of the images need, in plain words -/
theorem hits_iff (a b : List UInt8) (i : Nat) : u_hits a b i = true ↔ i + b.length ≤ a.length ∧ (a.drop i).take b.length = b := by
  unfold u_hits
  rw [Bool.and_eq_true, decide_eq_true_eq, decide_eq_true_eq]
theorem find_iff (a b : List UInt8) : 0 ≤ u_find a b ↔ ∃ j, u_hits a b j = true := by
  constructor
  · intro h
    rcases find_spec a b with ⟨h1, _⟩ | ⟨j, _, h2, _⟩
    · omega
    · exact ⟨j, h2⟩
  · rintro ⟨j, h⟩
    exact (find_of_hit h).1
theorem plain_iff (a b : List UInt8) (least : Int) : u_plain a b least = true ↔ 0 < b.length ∧ ∃ i, i < b.length - u_plK b least + 1 ∧ 0 ≤ u_find a ((b.drop i).take (u_plK b least)) := by
  unfold u_plain
  rw [Bool.and_eq_true, Bool.not_eq_true', Bool.not_eq_true', decide_eq_false_iff_not]
  constructor
  · rintro ⟨h1, h2⟩
    refine ⟨by omega, ?_⟩
    by_cases e : ∃ i, i < b.length - u_plK b least + 1 ∧ 0 ≤ u_find a ((b.drop i).take (u_plK b least))
    · exact e
    · have := plN_of a b (u_plK b least) (b.length - u_plK b least + 1) (fun j hj => by
        by_cases g : u_find a ((b.drop j).take (u_plK b least)) < 0
        · exact g
        · exact absurd ⟨j, hj, by omega⟩ e)
      rw [this] at h2
      cases h2
  · rintro ⟨h1, i, h2, h3⟩
    exact ⟨by omega, plN_no h2 h3⟩
theorem hits_pre {a p q : List UInt8} {j : Nat} (h : u_hits a (p ++ q) j = true) : u_hits a p j = true := by
  rw [hits_iff] at h ⊢
  obtain ⟨h1, h2⟩ := h
  rw [List.length_append] at h1 h2
  refine ⟨by omega, ?_⟩
  have := congrArg (List.take p.length) h2
  rw [List.take_take, List.take_append_of_le_length (Nat.le_refl _), List.take_length, Nat.min_eq_left (by omega)] at this
  exact this
theorem plain_mono {a b : List UInt8} {l1 l2 : Int} (h : l1 ≤ l2) (hp : u_plain a b l2 = true) : u_plain a b l1 = true := by
  rw [plain_iff] at hp ⊢
  obtain ⟨h0, i, hi, hf⟩ := hp
  have hk : u_plK b l1 ≤ u_plK b l2 := by unfold u_plK; omega
  refine ⟨h0, i, by omega, ?_⟩
  rw [find_iff] at hf ⊢
  obtain ⟨j, hj⟩ := hf
  refine ⟨j, ?_⟩
  have e : (b.drop i).take (u_plK b l2) = (b.drop i).take (u_plK b l1) ++ ((b.drop i).take (u_plK b l2)).drop (u_plK b l1) := by
    have := (List.take_append_drop (u_plK b l1) ((b.drop i).take (u_plK b l2))).symm
    rw [List.take_take, Nat.min_eq_left hk] at this
    exact this
  rw [e] at hj
  exact hits_pre hj
theorem hits_at (x b y : List UInt8) : u_hits (x ++ b ++ y) b x.length = true := by
  rw [hits_iff, List.length_append, List.length_append, List.append_assoc, List.drop_left, List.take_left]
  exact ⟨by omega, rfl⟩
theorem plain_len {a b : List UInt8} (h : 0 < b.length) : u_plain a b (b.length : Int) = decide (0 ≤ u_find a b) := by
  have hk : u_plK b (b.length : Int) = b.length := by unfold u_plK; omega
  have e : u_plain a b (b.length : Int) = true ↔ 0 ≤ u_find a b := by
    rw [plain_iff, hk]
    constructor
    · rintro ⟨_, i, hi, hf⟩
      have : i = 0 := by omega
      subst this
      rw [List.drop_zero, List.take_length] at hf
      exact hf
    · intro hf
      refine ⟨h, 0, by omega, ?_⟩
      rw [List.drop_zero, List.take_length]
      exact hf
  rw [Bool.eq_iff_iff, e, decide_eq_true_eq]
theorem plain_self {b : List UInt8} (h : 0 < b.length) (l : Int) : u_plain b b l = true := by
  rw [plain_iff]
  refine ⟨h, 0, by omega, ?_⟩
  rw [find_iff]
  refine ⟨0, ?_⟩
  have := hits_at [] (b.take (u_plK b l)) (b.drop (u_plK b l))
  rw [List.nil_append, List.take_append_drop] at this
  rw [List.drop_zero]
  exact this
theorem smL_self (a : List UInt8) : ∀ n, u_smL a a n = []
  | 0 => rfl
  | n + 1 => by rw [u_smL, if_pos ⟨rfl, rfl⟩]; exact smL_self a n
theorem find_mid (p q r : List UInt8) : 0 ≤ u_find (p ++ q ++ r) q ∧ u_find (p ++ q ++ r) q ≤ (p.length : Int) := find_of_hit (hits_at p q r)
/-- what stands where it was found -/
theorem find_cut {a b : List UInt8} (h : 0 ≤ u_find a b) : (a.drop (u_find a b).toNat).take b.length = b ∧ (u_find a b).toNat + b.length ≤ a.length := by
  rcases find_spec a b with ⟨h1, _⟩ | ⟨j, h1, h2, _⟩
  · omega
  · rw [h1]
    have := (hits_iff a b j).1 h2
    exact ⟨this.2, this.1⟩
theorem hits_more {a b : List UInt8} (r : List UInt8) {i : Nat} (h : i + b.length ≤ a.length) : u_hits (a ++ r) b i = u_hits a b i := by
  have e : ((a ++ r).drop i).take b.length = (a.drop i).take b.length := by
    rw [List.drop_append_of_le_length (by omega), List.take_append_of_le_length (by rw [List.length_drop]; omega)]
  rw [Bool.eq_iff_iff, hits_iff, hits_iff, e, List.length_append]
  exact ⟨fun h2 => ⟨h, h2.2⟩, fun h2 => ⟨by omega, h2.2⟩⟩
theorem find_more {p q : List UInt8} (r : List UInt8) (h : 0 ≤ u_find p q) : u_find (p ++ r) q = u_find p q := by
  rcases find_spec p q with ⟨h1, _⟩ | ⟨j, h1, h2, h3⟩
  · omega
  · have hj := (hits_iff p q j).1 h2
    rw [h1]
    refine find_hit (noh_of _ _ j fun i hi => ?_) ?_
    · rw [hits_more r (by omega)]
      exact noh_all p q j h3 i hi
    · rw [hits_more r hj.1]
      exact h2
/-! ### First wrapped keys -/
theorem wrF_len {im k x : List UInt8} {s : UInt32} {m : Nat} (h : u_wrF im k s m = some x) : x.length = 32 := by
  unfold u_wrF at h
  obtain ⟨i, hi, h⟩ := List.exists_of_findSome?_eq_some h
  obtain ⟨g, hg, h⟩ := List.exists_of_findSome?_eq_some h
  split at h
  · cases h
    exact uwK_len _ _ _ _ (cut48_len (by have := List.mem_range.1 hi; omega))
  · cases h
theorem wrK_len (im k : List UInt8) (s : UInt32) (m : Nat) : us.isL (us.wrK im k s m) 32 := by
  show ((u_wrF im k s m).getD (List.replicate 32 0)).length = 32
  cases h : u_wrF im k s m with
  | none => rfl
  | some x => exact wrF_len h
theorem wrE_of {im k : List UInt8} {s : UInt32} {m i g : Nat} (hi : i + 48 ≤ im.length) (hg : g ≤ m) (h : u_uwE k s (UInt64.ofNat g) (u_cut48 im i) = 0) : us.wrE im k s m = true := by
  show (u_wrF im k s m).isSome = true
  cases e : u_wrF im k s m with
  | some x => rfl
  | none =>
    unfold u_wrF at e
    have h1 := List.findSome?_eq_none_iff.1 e i (List.mem_range.2 (by omega))
    have h2 := List.findSome?_eq_none_iff.1 h1 g (List.mem_range.2 (by omega))
    rw [if_pos h] at h2
    cases h2
end Go.Proofs.Ytmldccfchnlpgaa
