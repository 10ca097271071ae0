/- The given statement is proved: for every input the law's function answers true. No condition. -/
import Derived.Test.YthjlhookepchgaaRows
import Derived.Test.YthjlhookepchgaaPart5
import Derived.WalkKit
import Derived.HandedShaped
import Derived.ProofKit
import Derived.OpenShut
import Derived.ShutString
set_option linter.unusedVariables false
set_option linter.unusedSimpArgs false
set_option maxRecDepth 100000
set_option maxHeartbeats 1000000
namespace Go.Proofs.Ythjlhookepchgaa
open Go Go.Vc
/-! ## The chain -/
theorem chN_r (ttl : List UInt16) (i : Nat) : 1 ≤ u_chN ttl i ∧ u_chN ttl i ≤ 1000 := by unfold u_chN; omega
theorem chU_s (ttl : List UInt16) (i : Nat) : u_chU ttl (i + 1) = min (u_chU ttl i) (u_chN ttl i) := rfl
theorem chU_r (ttl : List UInt16) : ∀ i, 1 ≤ u_chU ttl i ∧ u_chU ttl i ≤ 1000000
  | 0 => by show (1 : Int) ≤ 1000000 ∧ (1000000 : Int) ≤ 1000000; omega
  | i + 1 => by
    have h1 := chU_r ttl i
    have h2 := chN_r ttl i
    rw [chU_s]; omega
theorem chU_mono (ttl : List UInt16) {i : Nat} : ∀ {j : Nat}, i ≤ j → u_chU ttl j ≤ u_chU ttl i
  | 0, h => by have : i = 0 := by omega
               subst this; exact Int.le_refl _
  | j + 1, h => by
    by_cases e : i = j + 1
    · subst e; exact Int.le_refl _
    · have := chU_mono ttl (i := i) (j := j) (by omega)
      rw [chU_s]; omega
theorem ch_ok (ttl : List UInt16) {n : Nat} (h : n ≤ 10) : u_okT (u_bk (u_chG ttl) n) := bk_okT (by omega) (fun j _ => by show ([] : List (List UInt8)).length ≤ 1000; decide)
theorem ch_mk (ttl : List UInt16) {i : Nat} (hi : i < 10) : u_mkE (u_bk (u_chG ttl) i) (i : Int) (u_chN ttl i) 0 = 0 ∧ u_mkX (u_bk (u_chG ttl) i) (u_nx i) (i : Int) (u_chN ttl i) 0 = (i : Int) + 1 ∧ u_mkN (u_bk (u_chG ttl) i) (u_nx i) (i : Int) (u_chN ttl i) 0 = u_nx (i + 1) ∧ u_mkM (u_bk (u_chG ttl) i) (u_nx i) (i : Int) (u_chN ttl i) 0 [] [] = u_bk (u_chG ttl) (i + 1) := by
  have h1 := chN_r ttl i
  have hm : u_chN ttl i ≤ u_most (i : Int) := by unfold u_most; split <;> omega
  have hT : u_mkT (u_bk (u_chG ttl) i) (i : Int) (u_chN ttl i) 0 = u_chU ttl (i + 1) := by
    unfold u_mkT
    rw [chU_s]
    split
    · rename_i h0
      have : i = 0 := by omega
      subst this
      show min (0 + u_chN ttl 0) 1000000 = min 1000000 (u_chN ttl 0)
      omega
    · rename_i h0
      obtain ⟨k, rfl⟩ : ∃ k, i = k + 1 := ⟨i - 1, by omega⟩
      have e : ((k + 1 : Nat) : Int) = (k : Int) + 1 := by omega
      rw [e, bk_get (by omega)]
      show min (min (0 + u_chN ttl (k + 1)) 1000000) (u_chU ttl (k + 1)) = _
      have := chU_r ttl (k + 1)
      omega
  have q := bk_mk (g := u_chG ttl) (n := i) (parent := (i : Int)) (ttl := u_chN ttl i) (now := 0) (fun j _ => by
    have := chU_r ttl (j + 1)
    show (0 : Int) < u_chU ttl (j + 1)
    omega) (by omega) ⟨by decide, by decide, h1.1, hm⟩ (by
    by_cases e : i = 0
    · left; omega
    · right; exact ⟨i - 1, by omega, by omega⟩) (by rw [hT]; rfl)
  obtain ⟨q1, q2, q3, q4⟩ := q
  exact ⟨q1, q2, q3.trans (by unfold u_nx; omega), q4⟩
/-- how many of the chain are alive -/
def chL (ttl : List UInt16) (n : Nat) (now : Int) : Nat := ((List.range n).filter fun j => decide (now < u_chU ttl (j + 1))).length
theorem ch_filter (ttl : List UInt16) (now : Int) : ∀ n, (List.range n).filter (fun j => decide (now < u_chU ttl (j + 1))) = List.range (chL ttl n now)
  | 0 => rfl
  | n + 1 => by
    have ih := ch_filter ttl now n
    unfold chL
    rw [List.range_succ, List.filter_append, ih]
    by_cases h : now < u_chU ttl (n + 1)
    · have hall : chL ttl n now = n := by
        unfold chL
        have : (List.range n).filter (fun j => decide (now < u_chU ttl (j + 1))) = List.range n := List.filter_eq_self.2 fun j hj => by
          have := chU_mono ttl (i := j + 1) (j := n + 1) (by have := List.mem_range.1 hj; omega)
          exact decide_eq_true (by omega)
        rw [this, List.length_range]
      rw [hall]
      have e : [n].filter (fun j => decide (now < u_chU ttl (j + 1))) = [n] := by simp [h]
      rw [e, List.length_append, List.length_range, ← List.range_succ]; rfl
    · have e : [n].filter (fun j => decide (now < u_chU ttl (j + 1))) = [] := by simp [h]
      rw [e, List.append_nil, List.length_range]
theorem ch_live (ttl : List UInt16) (n : Nat) (now : Int) : u_live (u_bk (u_chG ttl) n) now = u_lv (chL ttl n now) := by
  rw [bk_live]
  have := ch_filter ttl now n
  show ((List.range n).filter fun j => decide (now < u_chU ttl (j + 1))).map _ = _
  rw [this]; rfl
theorem chL_le (ttl : List UInt16) (n : Nat) (now : Int) : chL ttl n now ≤ n := by
  unfold chL
  exact Nat.le_trans (List.length_filter_le ..) (by rw [List.length_range]; exact Nat.le_refl _)
theorem ch_alive (ttl : List UInt16) {n k : Nat} (hk : k < n) (now : Int) : now < u_chU ttl (k + 1) ↔ k < chL ttl n now := by
  have h := ch_filter ttl now n
  have h1 : k ∈ (List.range n).filter (fun j => decide (now < u_chU ttl (j + 1))) ↔ k < chL ttl n now := by rw [h, List.mem_range]
  rw [← h1, List.mem_filter, List.mem_range, decide_eq_true_eq]
  exact ⟨fun h => ⟨hk, h⟩, fun h => h.2⟩
theorem ch_of (ttl : List UInt16) {n k : Nat} (hk : k < n) : Of (u_chG ttl) n k (fun j => decide (k ≤ j)) := by
  refine ⟨fun j hj => ?_, hk, fun j hj => ?_⟩
  · by_cases e : j = 0
    · left; subst e; rfl
    · right; exact ⟨j - 1, by omega, by show (j : Int) = _; omega⟩
  · rw [decide_eq_true_eq]
    constructor
    · intro h
      by_cases e : j = k
      · exact .inl e
      · exact .inr ⟨j - 1, by omega, by show (j : Int) = _; omega, decide_eq_true (by omega)⟩
    · rintro (h | ⟨i, h1, h2, h3⟩)
      · omega
      · have h2 : (j : Int) = (i : Int) + 1 := h2
        have := of_decide_eq_true h3
        omega
theorem ch_b0 (ttl : List UInt16) : (⟨[], 0⟩ : MD) = us.bk (us.chG ttl) 0 := rfl
theorem ch_in {i : Nat} (h : i ≤ 10) : real.pIn (us.nx i) 1000000 := by
  show (0 : Int) ≤ (i : Int) + 1 ∧ (i : Int) + 1 < ((1000000 : Nat) : Int)
  omega
theorem ch_w (ttl : List UInt16) (i : Nat) : IntKind.i64.wrap (IntKind.i64.wrap (((ttl.getD ((i : Int)).toNat 0 % UInt16.ofNat ((1000 : Int) % 2 ^ 16).toNat).toNat : Nat) : Int) + 1) = u_chN ttl i := by
  have h : (ttl.getD ((i : Int)).toNat 0 % UInt16.ofNat ((1000 : Int) % 2 ^ 16).toNat).toNat = (ttl.getD i 0).toNat % 1000 := by
    rw [UInt16.toNat_mod]; rfl
  rw [h]
  unfold u_chN
  rw [wrap_sm (a := (((ttl.getD i 0).toNat % 1000 : Nat) : Int)) (by omega) (by omega), wrap_sm (by omega) (by omega)]
theorem ch_g (ttl : List UInt16) (i : Nat) : u_get (u_bk (u_chG ttl) (i + 1)) ((i : Int) + 1) = u_tok ((i : Int) + 1) (u_chG ttl i) := bk_get (by omega)
theorem ch_g1 (ttl : List UInt16) (i : Nat) : ((u_get (u_bk (u_chG ttl) (i + 1)) ((i : Int) + 1)).fld 1).gi = (i : Int) := by rw [ch_g]; rfl
theorem ch_g2 (ttl : List UInt16) (i : Nat) : ((u_get (u_bk (u_chG ttl) (i + 1)) ((i : Int) + 1)).fld 2).gi = u_chU ttl (i + 1) := by rw [ch_g]; rfl
theorem ch_has (ttl : List UInt16) (i : Nat) : u_has (u_bk (u_chG ttl) (i + 1)) ((i : Int) + 1) = true := by
  unfold u_has MD.has
  rw [bk_find (by omega)]; rfl
theorem ch_min (ttl : List UInt16) (i : Nat) : (if u_chN ttl i < u_chU ttl i then u_chN ttl i else u_chU ttl i) = u_chU ttl (i + 1) := by
  rw [chU_s]; split <;> omega
theorem ch_X (ttl : List UInt16) {i : Nat} (hi : i < 10) {a : Int} (ha : a = u_chN ttl i) : u_mkX (u_bk (u_chG ttl) i) (u_nx i) (i : Int) a 0 = ((i + 1 : Nat) : Int) := by
  subst ha; rw [(ch_mk ttl hi).2.1]; omega
theorem ch_N (ttl : List UInt16) {i : Nat} (hi : i < 10) {a : Int} (ha : a = u_chN ttl i) : u_mkN (u_bk (u_chG ttl) i) (u_nx i) (i : Int) a 0 = u_nx (i + 1) := by
  subst ha; exact (ch_mk ttl hi).2.2.1
theorem ch_M (ttl : List UInt16) {i : Nat} (hi : i < 10) {a : Int} (ha : a = u_chN ttl i) : u_mkM (u_bk (u_chG ttl) i) (u_nx i) (i : Int) a 0 [] [] = u_bk (u_chG ttl) (i + 1) := by
  subst ha; exact (ch_mk ttl hi).2.2.2
theorem ch_U (ttl : List UInt16) {i : Nat} {a : Int} (ha : a = u_chN ttl i) : (if a < u_chU ttl i then a else u_chU ttl i) = u_chU ttl (i + 1) := by
  subst ha; exact ch_min ttl i
theorem okT_rv {M : MD} (h : u_okT M) (id now : Int) : u_okT (u_rvM M id now) := by
  unfold u_rvM
  split
  · obtain ⟨⟨o1, o2, o3⟩, ⟨o4, o5⟩, o6, o7⟩ := h
    have hs : (M.es.filter fun e => !(u_goneA M id).has e.2.1).Sublist M.es := List.filter_sublist
    exact ⟨⟨(hs.map _).nodup o1, (hs.map _).nodup o2, fun e he => o3 e (hs.subset he)⟩, ⟨Nat.le_trans hs.length_le o4, fun e he => o5 e (hs.subset he)⟩, fun e he => o6 e (hs.subset he), fun e he => o7 e (hs.subset he)⟩
  · exact h
theorem val_es {M N : MD} (h : M.es = N.es) (n now : Int) : u_val M n now = u_val N n now := val_find (by rw [h])
theorem live_es {M N : MD} (h : M.es = N.es) (now : Int) : u_live M now = u_live N now := by
  unfold u_live MD.keysI
  rw [h]
  exact List.filter_congr fun k _ => val_es h k now
theorem ch_val (ttl : List UInt16) {n k : Nat} (hk : k < n) (now : Int) : u_val (u_bk (u_chG ttl) n) ((k : Int) + 1) now = decide (k < chL ttl n now) := by
  rw [bk_val hk]
  have h := ch_alive ttl hk now
  show decide (now < u_chU ttl (k + 1)) = _
  simp only [h]
theorem ch_rvE (ttl : List UInt16) {n k : Nat} (hk : k < n) (now : Int) : u_rvE (u_bk (u_chG ttl) n) ((k : Int) + 1) now = if k < chL ttl n now then 0 else 200 := by
  unfold u_rvE
  rw [ch_val ttl hk]
  simp only [decide_eq_true_eq]
theorem ch_rvN (ttl : List UInt16) {n k : Nat} (hk : k < n) (now : Int) : u_rvN (u_bk (u_chG ttl) n) ((k : Int) + 1) now = if k < chL ttl n now then (chL ttl n now : Int) - k else 0 := by
  by_cases h : k < chL ttl n now
  · rw [if_pos h, rv_cnt (ch_of ttl hk) (by rw [ch_val ttl hk, decide_eq_true h])]
    have e : (List.range n).filter (fun m => decide (now < (u_chG ttl m).u) && decide (k ≤ m)) = (List.range (chL ttl n now)).filter fun m => decide (k ≤ m) := by
      rw [← ch_filter ttl now n, List.filter_filter]
      refine List.filter_congr fun m _ => ?_
      rw [Bool.and_comm]; rfl
    rw [e]
    have e2 : ∀ l : Nat, ((List.range l).filter fun m => decide (k ≤ m)).length = l - k := by
      intro l
      induction l with
      | zero => simp
      | succ l ih =>
        rw [List.range_succ, List.filter_append, List.length_append, ih]
        by_cases h2 : k ≤ l
        · simp [h2]; omega
        · simp [h2]; omega
    rw [e2]; omega
  · rw [if_neg h]
    exact rvN_no (by rw [ch_val ttl hk, decide_eq_false h])
theorem ch_rvL (ttl : List UInt16) {n k : Nat} (hk : k < n) (now : Int) (h : k < chL ttl n now) : (u_live (u_rvM (u_bk (u_chG ttl) n) ((k : Int) + 1) now) now).length = k := by
  have hv : u_val (u_bk (u_chG ttl) n) ((k : Int) + 1) now = true := by rw [ch_val ttl hk, decide_eq_true h]
  have he : (u_rvM (u_bk (u_chG ttl) n) ((k : Int) + 1) now).es = (u_bk (u_chG ttl) k).es := by
    unfold u_rvM
    rw [if_pos hv]
    show (u_bk (u_chG ttl) n).es.filter _ = _
    unfold u_bk
    rw [List.filter_map]
    have e3 : ∀ l, l ≤ n → (List.range l).filter (fun j => decide (j < k)) = List.range (min l k) := by
      intro l
      induction l with
      | zero => intro _; simp
      | succ l ih =>
        intro hl
        rw [List.range_succ, List.filter_append, ih (by omega)]
        by_cases h2 : l < k
        · have e1 : min l k = l := by omega
          have e2 : min (l + 1) k = l + 1 := by omega
          rw [e1, e2, List.range_succ]; simp [h2]
        · have e1 : min l k = min (l + 1) k := by omega
          rw [e1]; simp [h2]
    have e4 : (List.range n).filter ((fun e : Nat × D × D => !(u_goneA (u_bk (u_chG ttl) n) ((k : Int) + 1)).has e.2.1) ∘ fun j : Nat => (j, .i ((j : Int) + 1), u_tok ((j : Int) + 1) (u_chG ttl j))) = (List.range n).filter fun j => decide (j < k) := by
      refine List.filter_congr fun j hj => ?_
      show (!(u_goneA (u_bk (u_chG ttl) n) ((k : Int) + 1)).has (.i ((j : Int) + 1))) = _
      rw [goneA_has (ch_of ttl hk) (List.mem_range.1 hj)]
      by_cases h2 : j < k
      · rw [decide_eq_true h2, decide_eq_false (by omega)]; rfl
      · rw [decide_eq_false h2, decide_eq_true (by omega)]; rfl
    have e5 : min n k = k := by omega
    have e6 := e4.trans (e3 n (Nat.le_refl _))
    rw [e5] at e6
    exact congrArg (List.map _) e6
  rw [live_es he, ch_live]
  unfold u_lv
  rw [List.length_map, List.length_range]
  unfold chL
  have : (List.range k).filter (fun j => decide (now < u_chU ttl (j + 1))) = List.range k := List.filter_eq_self.2 fun j hj => by
    have hj := List.mem_range.1 hj
    exact decide_eq_true ((ch_alive ttl (n := n) (by omega) now).2 (by omega))
  rw [this, List.length_range]
theorem ch_nw (l : UInt16) : real.wrapi (real.toI16 (real.rem16 l (real.ofI16 (real.int 1200)))) = us.chNow l := by
  have h : (l % UInt16.ofNat ((1200 : Int) % 2 ^ 16).toNat).toNat = l.toNat % 1200 := by
    rw [UInt16.toNat_mod]; rfl
  have h2 : IntKind.i64.wrap (((l % UInt16.ofNat ((1200 : Int) % 2 ^ 16).toNat).toNat : Nat) : Int) = ((l.toNat % 1200 : Nat) : Int) := by
    rw [h, wrap_sm (by omega) (by omega)]
  exact h2
theorem ch_k (a : UInt8) {ttl : List UInt16} (h0 : ttl.length ≠ 0) (h : ttl.length ≤ 10) : real.remi (real.wrapi (real.toI8 a)) (real.int (real.lenH ttl)) = ((a.toNat % ttl.length : Nat) : Int) := by
  have := a.toNat_lt
  show (IntKind.i64.wrap ((a.toNat : Nat) : Int)).tmod ((ttl.length : Nat) : Int) = _
  rw [wrap_sm (by omega) (by omega), Int.tmod_eq_emod_of_nonneg (by omega)]
  exact (Int.natCast_emod _ _).symm
theorem lv_get {L j : Nat} (h : j < L) : (u_lv L).getD j 0 = (j : Int) + 1 := by
  unfold u_lv
  rw [List.getD_eq_getElem?_getD, List.getElem?_map, List.getElem?_range h]; rfl
theorem eq_g {n : Nat} (h : ¬ real.pB (real.eqi (real.int n) (real.int 0)) true) : n ≠ 0 := by
  intro e; subst e; exact h rfl
theorem lv_len (L : Nat) : (u_lv L).length = L := by unfold u_lv; simp
attribute [local irreducible] u_val u_okT u_live u_mkE u_mkX u_mkN u_mkM u_rvE u_rvN u_rvM u_bk u_get u_has
end Go.Proofs.Ythjlhookepchgaa
namespace Go.Proofs.Ythjlhookepchgaa
open Go Go.Vc
noncomputable def sp_law20_TokenChain (F : Fs) (U : Us) : Specs := [(15, s_law20_known F U), (16, s_token_New F U), (17, s_token_Book_Make F U), (19, s_token_Book_Live F U), (18, s_token_Book_Get F U), (20, s_token_Book_Valid F U), (21, s_token_Book_Revoke F U)]
theorem ok_law20_TokenChain : SpecsOK Try.prog (sp_law20_TokenChain real us) := sp_cons r_law20_known k_law20_known (sp_cons r_token_New k_token_New (sp_cons r_token_Book_Make k_token_Book_Make (sp_cons r_token_Book_Live k_token_Book_Live (sp_cons r_token_Book_Get k_token_Book_Get (sp_cons r_token_Book_Valid k_token_Book_Valid (sp_cons r_token_Book_Revoke k_token_Book_Revoke sp_nil))))))
noncomputable def an_law20_TokenChain (F : Fs) (U : Us) (ttl : List UInt16) (at_ : UInt8) (later : UInt16) : Anns := [(8, ⟨Nat, fun i => i ≤ F.lenH ttl ∧ F.lenH ttl ≤ 10, fun i => F.addn (F.subn (F.lenH ttl) i) 20, fun i => ⟨[(0, .rb 1 (.wh ttl)), (1, .w8 at_), (2, .w16 later), (7, .p 5 0 0), (8, .i (F.int i)), (9, .i (U.chU ttl i)), (10, .i (F.int i))], [(7, 5, .bk 103 [(1, .vs [.mh 6]), (1, .vs [.i (U.nx i)])]), (999, 6, .mp 101 .i (.t [.i, .i, .i, .ss, .s]) (U.bk (U.chG ttl) i))]⟩⟩), (20, ⟨Nat, fun j => j ≤ F.lenI (U.live (U.bk (U.chG ttl) (F.lenH ttl)) (U.chNow later)), fun j => F.subn (F.lenI (U.live (U.bk (U.chG ttl) (F.lenH ttl)) (U.chNow later))) j, fun j => ⟨[(0, .rb 1 (.wh ttl)), (1, .w8 at_), (7, .p 5 0 0), (16, .i (U.chNow later)), (17, .rw 8), (18, .i (F.int j))], [(7, 5, .bk 103 [(1, .vs [.mh 6]), (1, .vs [.i (U.nx (F.lenH ttl))])]), (999, 6, .mp 101 .i (.t [.i, .i, .i, .ss, .s]) (U.bk (U.chG ttl) (F.lenH ttl))), (17, 8, .row 3 1 (.is (U.live (U.bk (U.chG ttl) (F.lenH ttl)) (U.chNow later))))]⟩⟩)]
noncomputable def x_law20_TokenChain (F : Fs) (U : Us) : Cx := ⟨Try.f3.ntmps, tt F, sp_law20_TokenChain F U, [], [], [], []⟩
theorem c_law20_TokenChain (ttl : List UInt16) (at_ : UInt8) (later : UInt16) (q0 : ttl.length ≤ 9223372036854775807) : vc real (x_law20_TokenChain real us) (an_law20_TokenChain real us ttl at_ later) [] (Try.f3.body.getD .skip) ⟨zipSl 0 [.rb 1 (.wh ttl), .w8 at_, .w16 later], [], 64⟩ (retOk real (tt real) false Try.f3.results.toList [.val (.b true)]) := by
  generalize hU : us = U
  generalize hF : real = F
  cbv
  repeat' first | apply And.intro | refine Classical.or_iff_not_imp_left.2 (fun _ => ?_) | exact trivial
  · rename_i h; subst hF hU; exact absurd rfl h
  · refine ⟨(0 : Nat), ?_⟩
    cbv
    subst hF hU
    have h10 : ttl.length ≤ 10 := ge_g (j := 10) (by assumption)
    exact ⟨⟨Nat.zero_le _, h10⟩, ⟨rfl, trivial⟩, ⟨⟨rfl, trivial⟩, trivial⟩, ch_b0 ttl, trivial⟩
  · intro (i : Nat) hi
    replace hi : i ≤ F.lenH ttl ∧ F.lenH ttl ≤ 10 := hi
    cbv
    repeat' first | apply And.intro | refine Classical.or_iff_not_imp_left.2 (fun _ => ?_) | exact trivial
    · subst hF hU; exact inF rfl (lt_g (by assumption))
    · subst hF hU; show ((1000 : UInt16).toNat : Int) ≠ 0; decide
    · subst hF hU; exact ch_ok ttl (Nat.le_trans hi.1 hi.2)
    · subst hF hU; exact ch_in (Nat.le_trans hi.1 hi.2)
    · subst hF hU
      have hlt : i < ttl.length := lt_g (by assumption)
      have hi2 : ttl.length ≤ 10 := hi.2
      obtain ⟨q1, q2, q3, q4⟩ := ch_mk ttl (i := i) (by omega)
      simp only [real, us, Int.cast_ofNat_Int, ch_w, q1, q2, q3, q4] at *
      exact ch_ok ttl (by omega)
    · subst hF hU
      have hlt : i < ttl.length := lt_g (by assumption)
      have hi2 : ttl.length ≤ 10 := hi.2
      obtain ⟨q1, q2, q3, q4⟩ := ch_mk ttl (i := i) (by omega)
      have w1 : IntKind.i64.wrap ((i : Int) + 1) = (i : Int) + 1 := wrap_sm (by omega) (by omega)
      simp only [real, us, Int.cast_ofNat_Int, ch_w, q1, q2, q3, q4, ch_g1, ch_g2, ch_has, ch_min, w1] at *
      simp_all
    · refine ⟨(i + 1 : Nat), ?_⟩
      cbv
      subst hF hU
      have hlt : i < ttl.length := lt_g (by assumption)
      have hi2 : ttl.length ≤ 10 := hi.2
      obtain ⟨q1, q2, q3, q4⟩ := ch_mk ttl (i := i) (by omega)
      have w0 : real.addi (real.wrapi (real.toI16 (real.rem16 (real.getH ttl (real.nat (real.int i))) (real.ofI16 (real.int 1000))))) (real.int 1) = u_chN ttl i := ch_w ttl i
      exact ⟨⟨hlt, hi2⟩, mu_step hlt, ⟨ch_X ttl (by omega) w0, ch_U ttl w0, addi1 (by omega), trivial⟩, ⟨⟨ch_N ttl (by omega) w0, trivial⟩, trivial⟩, ch_M ttl (by omega) w0, trivial⟩
    · subst hF hU
      have hlt : i < ttl.length := lt_g (by assumption)
      have hi2 : ttl.length ≤ 10 := hi.2
      obtain ⟨q1, q2, q3, q4⟩ := ch_mk ttl (i := i) (by omega)
      have w1 : IntKind.i64.wrap ((i : Int) + 1) = (i : Int) + 1 := wrap_sm (by omega) (by omega)
      simp only [real, us, Int.cast_ofNat_Int, ch_w, q1, q2, q3, q4, ch_g1, ch_g2, ch_has, ch_min, w1] at *
      simp_all
    · subst hF hU
      have hlt : i < ttl.length := lt_g (by assumption)
      have hi2 : ttl.length ≤ 10 := hi.2
      obtain ⟨q1, q2, q3, q4⟩ := ch_mk ttl (i := i) (by omega)
      have w1 : IntKind.i64.wrap ((i : Int) + 1) = (i : Int) + 1 := wrap_sm (by omega) (by omega)
      simp only [real, us, Int.cast_ofNat_Int, ch_w, q1, q2, q3, q4, ch_g1, ch_g2, ch_has, ch_min, w1] at *
      simp_all
    · subst hF hU
      have hlt : i < ttl.length := lt_g (by assumption)
      have hi2 : ttl.length ≤ 10 := hi.2
      obtain ⟨q1, q2, q3, q4⟩ := ch_mk ttl (i := i) (by omega)
      have w1 : IntKind.i64.wrap ((i : Int) + 1) = (i : Int) + 1 := wrap_sm (by omega) (by omega)
      simp only [real, us, Int.cast_ofNat_Int, ch_w, q1, q2, q3, q4, ch_g1, ch_g2, ch_has, ch_min, w1] at *
      simp_all
    · subst hF hU
      have hlt : i < ttl.length := lt_g (by assumption)
      have hi2 : ttl.length ≤ 10 := hi.2
      obtain ⟨q1, q2, q3, q4⟩ := ch_mk ttl (i := i) (by omega)
      have w1 : IntKind.i64.wrap ((i : Int) + 1) = (i : Int) + 1 := wrap_sm (by omega) (by omega)
      simp only [real, us, Int.cast_ofNat_Int, ch_w, q1, q2, q3, q4, ch_g1, ch_g2, ch_has, ch_min, w1] at *
      simp_all
    · subst hF hU; show ((1200 : UInt16).toNat : Int) ≠ 0; decide
    · subst hF hU; exact ch_ok ttl (Nat.le_trans hi.1 hi.2)
    · have hge : F.lenH ttl ≤ i := by subst hF hU; exact ge_g (by assumption)
      have e : i = F.lenH ttl := by subst hF hU; exact Nat.le_antisymm hi.1 hge
      subst e
      refine ⟨(0 : Nat), ?_⟩
      cbv
      subst hF hU
      exact ⟨Nat.zero_le _, ⟨ch_nw later, trivial⟩, congrArg (us.live (us.bk (us.chG ttl) (real.lenH ttl))) (ch_nw later), trivial⟩
    · have hge : F.lenH ttl ≤ i := by subst hF hU; exact ge_g (by assumption)
      have e : i = F.lenH ttl := by subst hF hU; exact Nat.le_antisymm hi.1 hge
      subst e
      intro (j : Nat) hj
      replace hj : j ≤ F.lenI (U.live (U.bk (U.chG ttl) (F.lenH ttl)) (U.chNow later)) := hj
      have hlv : u_live (u_bk (u_chG ttl) ttl.length) (u_chNow later) = u_lv (chL ttl ttl.length (u_chNow later)) := ch_live ttl _ _
      cbv
      repeat' first | apply And.intro | refine Classical.or_iff_not_imp_left.2 (fun _ => ?_) | exact trivial
      · subst hF hU; exact inF rfl (lt_g (by assumption))
      · subst hF hU; exact lt_g (by assumption)
      · exfalso
        subst hF hU
        have hlt : j < (u_live (u_bk (u_chG ttl) ttl.length) (u_chNow later)).length := lt_g (by assumption)
        have h10 : ttl.length ≤ 10 := hi.2
        have hL := chL_le ttl ttl.length (u_chNow later)
        rw [hlv, lv_len] at hlt
        have w1 : IntKind.i64.wrap ((j : Int) + 1) = (j : Int) + 1 := wrap_sm (by omega) (by omega)
        have g1 := lv_get hlt
        simp only [real, us, Int.cast_ofNat_Int, hlv, Int.toNat_natCast, g1, w1] at *
        simp_all
      · refine ⟨(j + 1 : Nat), ?_⟩
        cbv
        subst hF hU
        have hlt : j < real.lenI (us.live (us.bk (us.chG ttl) (real.lenH ttl)) (us.chNow later)) := lt_g (by assumption)
        have h10 : ttl.length ≤ 10 := hi.2
        have hL := chL_le ttl ttl.length (u_chNow later)
        have hlt2 : j < (u_live (u_bk (u_chG ttl) ttl.length) (u_chNow later)).length := hlt
        rw [hlv, lv_len] at hlt2
        exact ⟨hlt, sub_stepN hlt, ⟨addi1 (by omega), trivial⟩, trivial⟩
      all_goals (
        subst hF hU
        have h10 : ttl.length ≤ 10 := hi.2
        have h0 : ttl.length ≠ 0 := eq_g (by assumption)
        have hkk := Nat.mod_lt at_.toNat (Nat.pos_of_ne_zero h0)
        have wk := ch_k at_ h0 h10
        obtain ⟨K, hK⟩ : ∃ K, K = at_.toNat % ttl.length := ⟨_, rfl⟩
        obtain ⟨now, hnow⟩ : ∃ now, now = u_chNow later := ⟨_, rfl⟩
        rw [← hK] at wk hkk
        have w1 : IntKind.i64.wrap ((K : Int) + 1) = (K : Int) + 1 := wrap_sm (by omega) (by omega)
        have hL := chL_le ttl ttl.length now
        have wE := ch_rvE ttl hkk now
        have wN := ch_rvN ttl hkk now
        have wL := ch_rvL ttl hkk now
        have wV := ch_val ttl hkk now
        have okc := ch_ok ttl h10
        have okr := okT_rv okc ((K : Int) + 1) now
        have hll := lv_len (chL ttl ttl.length now)
        have wk' : (IntKind.i64.wrap ((at_.toNat : Nat) : Int)).tmod ((ttl.length : Nat) : Int) = (K : Int) := wk
        have w2 : IntKind.i64.wrap ((chL ttl ttl.length now : Int) - K) = (chL ttl ttl.length now : Int) - K := wrap_sm (by omega) (by omega))
      · exact fun e => h0 (Int.ofNat_inj.1 e)
      all_goals (
        rw [← hnow] at hlv
        simp only [real, us, Int.cast_ofNat_Int, ← hnow, wk', w1, hlv, hll, wE, wN, wV] at *)
      all_goals (
        by_cases hq : K < chL ttl ttl.length now
        · have hq2 : (K : Int) < (chL ttl ttl.length now : Int) := by omega
          have hq3 : ¬ (chL ttl ttl.length now : Int) ≤ (K : Int) := by omega
          have wL' := wL hq
          simp only [if_pos hq, decide_eq_true hq, decide_eq_true hq2, decide_eq_false hq3, w2, wL'] at *
          first | assumption | (simp_all; done) | skip
        · have hq2 : ¬ (K : Int) < (chL ttl ttl.length now : Int) := by omega
          have hq3 : (chL ttl ttl.length now : Int) ≤ (K : Int) := by omega
          simp only [if_neg hq, decide_eq_false hq, decide_eq_false hq2, decide_eq_true hq3, w2] at *
          first | assumption | (simp_all; done))
end Go.Proofs.Ythjlhookepchgaa
namespace Go.Proofs.Ythjlhookepchgaa.tokenChain
open Go.ChangeShapes Go.WideShapes Go.ChangeAt Go.RowKit
set_option linter.unusedVariables false
theorem own : ownKnob Try.prog.godebug = none := by kernel_rfl
theorem laidOut : laidOutB Try.prog = true := p_laidOut
set_option maxRecDepth 100000 in
theorem lifted (os : Os) (started : os.Started) (H : Type) (enc : TypeId × Value → H) :
    ReturnsInHanded {} Try.checked os 3 .any (Rows.tokenChainSpec.pre6 enc Try.prog Try.f3 Rows.tokenChainRow.domain false) (Rows.tokenChainSpec.post enc Try.prog Try.f3 false true false false) := by
  refine returnsInHanded_of_change_shaped (C := Try.checked) own started (by kernel_rfl) Try.func3
    (ChangeSpec.witness6 (enc := enc) (C := Try.checked) false ⟨#[], #[.slice none 0 0, .int .u8 0, .int .u16 0], []⟩ 8 (by kernel_rfl) (by kernel_rfl) (by kernel_rfl) (by kernel_rfl)) ?_
  intro W base args ds gs before hval0 hW hcnd hrch hsh _
  have hval : ∀ (j : Nat) t v, Try.f3.params[j]? = some t → args[j]? = some v → Value.okWide Try.prog W .any base t v := hval0
  have hW' := hW
  obtain ⟨p, q, hA0, hV, rfl, hfz, hnd⟩ := hW
  have hA : DataW.TrodAll enc Try.prog W 0 (fun _ => true) true Try.f3.params.toList args.toList ds p := hA0
  rw [Try.params3] at hA hval
  obtain ⟨v0, vs0, d0, ds0, p0, q0, hargs, rfl, rfl, h0, r0⟩ := trodAll_cons hA
  obtain ⟨v1, vs1, d1, ds1, p1, q1, rfl, rfl, rfl, h1, r1⟩ := trodAll_cons r0
  obtain ⟨v2, vs2, d2, ds2, p2, q2, rfl, rfl, rfl, h2, r2⟩ := trodAll_cons r1
  obtain ⟨rfl, rfl, rfl⟩ := trodAll_nil r2
  obtain rfl : args = #[v0, v1, v2] := by cases args; simp_all
  obtain ⟨rfl, rfl⟩ := trodVars_none hV
  obtain ⟨ttl, k0, q0⟩ := Go.Vc.openL16 Try.underlying22 Try.underlying23 (by kernel_rfl) (hval 0 22 v0 rfl rfl) h0
  obtain ⟨at_, k1⟩ := Go.Vc.open8 Try.underlying5 (hval 1 5 v1 rfl rfl) h1
  obtain ⟨later, k2⟩ := Go.Vc.open16 Try.underlying23 (hval 2 23 v2 rfl rfl) h2
  clear hA0 hval0
  refine (Go.Vc.law_walk2 (x := x_law20_TokenChain Go.Vc.real us) (an := (an_law20_TokenChain Go.Vc.real us ttl at_ later)) (cu := []) (l := [.rb 1 (.wh ttl), .w8 at_, .w16 later]) (vals := [v0, v1, v2]) ⟨tt_ok, ok_law20_TokenChain, Go.Vc.ks_nil⟩ mixed Try.func3 rfl rfl (by kernel_rfl) hsh (Nat.le_of_ble_eq_true rfl) (Go.Vc.rvs_cons k0 (Go.Vc.rvs_cons k1 (Go.Vc.rvs_cons k2 Go.Vc.rvs_nil))) (c_law20_TokenChain ttl at_ later q0)).mono fun e W' ⟨he, bel⟩ => ?_
  subst he
  exact ⟨_, rfl, Go.Vc.post_true (tb := 4) laidOut (by kernel_rfl) rfl Try.underlying4 rfl hW' rfl bel⟩
theorem over : Rows.tokenChainRow.holds Try.pinned (OpenSpec.ofChange Rows.tokenChainSpec) :=
  OpenClaim.holds_of_wide 3 Try.f3 rfl rfl rfl rfl rfl rfl rfl ⟨rfl, rfl, rfl, rfl, rfl⟩ rfl rfl rfl rfl rfl (by kernel_rfl) Try.func3 (Go.Vc.joined_of p_laidOut p_maps p_stops p_knobs p_heard p_mayEnter p_lifts p_make rfl rfl (by kernel_rfl) (by kernel_rfl) (by kernel_rfl) (by kernel_rfl) (by kernel_rfl) (by kernel_rfl) (by kernel_rfl) (by kernel_rfl) (by kernel_rfl) (by kernel_rfl) (by kernel_rfl) (by kernel_rfl) (by kernel_rfl) (by kernel_rfl) (by kernel_rfl) (by kernel_rfl) (by kernel_rfl) (by kernel_rfl) (by kernel_rfl) (by kernel_rfl) (by kernel_rfl) (by kernel_rfl) (by kernel_rfl) (by kernel_rfl) )
    (of_decide_eq_true (by kernel_rfl)) (by unfold Func.isWrapper; first | (rw [if_pos (by decide +kernel)]; kernel_rfl) | (rw [if_neg (by decide +kernel)]; exact ⟨rfl, rfl⟩))
    (fun os started H enc _ => lifted os started H enc)
theorem proved : Rows.TokenChainSaid := over
#print axioms proved
end Go.Proofs.Ythjlhookepchgaa.tokenChain

