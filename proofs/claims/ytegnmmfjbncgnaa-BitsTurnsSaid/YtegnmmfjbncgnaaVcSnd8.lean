/- A part of the proof of given statements: a verified condition generator for the model, and contracts of the program's functions. No condition. -/
import Derived.Test.YtegnmmfjbncgnaaVcSnd7
set_option linter.unusedVariables false
set_option linter.unusedSimpArgs false
namespace Go.Vc
open Go Go.RowKit

section
variable {P : Program} {tt : TT} {m : Hd} {w : World} {me : Mem} {kb : Nat}

/-! ## copy -/
theorem run_copy {T U te ty : Nat} {i : TypeInfo} {n cap : Nat} {base : Option Addr} {x : Value} {news : List Value} (hT : P.underlying T = some (.slice te)) (hi : P.info? te = some i) (hsz : i.size = 1)
    (hl : (Builtin.lenOf x).run P w = .ok news.length w) (hf : (Builtin.firstCells 1 (min news.length n) x).run P w = .ok (news.take (min news.length n)).toArray w) :
    (Builtin.copy_ #[T, U] ty #[.slice base n cap, x]).run P w =
      ((match base with
        | some a => storeCells a (news.take (min news.length n))
        | none => pure ()).run P w).andThen fun _ w' => .ok (.int .i64 ((min news.length n : Nat) : Int)) w' := by
  have hmin : Nat.min news.length n = min news.length n := rfl
  cases base <;> simp [Builtin.copy_, run_underlying hT, hl, sizeOf, typeInfo, hi, hsz, hmin, hf, goInt]

theorem copy_core {T U te ty : Nat} (hb : Base m w me kb) {i : TypeInfo} {s : AV} {vs vx : Value} {d : AC} {news : List Value} {e : Eff}
    (hT : P.underlying T = some (.slice te)) (hi : P.info? te = some i) (hsz : i.size = 1)
    (hs : RV m w s vs) (hd : RC m w d news) (hd1 : d.esz = some 1) (hlen : (Builtin.lenOf vx).run P w = .ok news.length w)
    (hf : ∀ k, k ≤ news.length → (Builtin.firstCells 1 k vx).run P w = .ok (news.take k).toArray w) (hc : e.c) (h : (copyK real s d).run me = some e) :
    ∃ v w', (Builtin.copy_ #[T, U] ty #[vs, vx]).run P w = .ok v w' ∧ OkE m w me kb e.v e.puts v m w' := by
  have hdl := RC_len hd1 hd
  have hone := RC_one d news hd
  unfold copyK at h
  split at h
  · rename_i k g o a n
    obtain ⟨ab, hab, h⟩ := Look.run_look h
    simp only [RV, CR] at hs
    obtain ⟨v0, ad, cap, h6, h7, h8, h9⟩ := hs
    simp only [List.cons.injEq, and_true] at h7
    subst h7
    have hr := run_copy (P := P) (U := U) (ty := ty) (n := n) (cap := cap) (base := ad) hT hi hsz hlen (hf _ (by omega))
    split at h
    · rename_i B segs
      split at h
      · rename_i q c hseg
        split at h
        · rename_i d' hcut
          split at h
          · rename_i c' hsp
            split at h
            · rename_i segs' hput
              simp only [Look.run, Option.some.injEq] at h
              subst h
              obtain ⟨he, hcut⟩ := cut_isE hcut
              obtain ⟨r1, r2, r3⟩ := RC_cut hcut hd1 hd (by show 0 + min _ _ ≤ _; omega)
              have hle : a + n ≤ q := hc
              obtain ⟨gb, cs, fz, h2, h3, h4, h5⟩ := bk_cells hb.mem hab
              rw [h2] at h6; cases h6
              obtain ⟨pre, mid, post, hcs, hpre, hmid, hrc⟩ := segAt_sound g o segs q c cs.toList hseg h5
              have hm : min (d.len real) n = min news.length n := by omega
              have hds : ((news.drop (0 * 1)).take (min (d.len real) n * 1)) = news.take (min news.length n) := by rw [Nat.zero_mul, List.drop_zero, Nat.mul_one, hm]
              have r1' : RC m w d' (news.take (min news.length n)) := by rw [← hds]; exact r1
              obtain ⟨t1, t2, t3⟩ := RC_splice hsp hrc r1'
              refine ⟨.int .i64 ((min news.length n : Nat) : Int), ?_⟩
              have hvi : ∀ w', RV m w' (.i (real.int (real.minn (d.len real) n))) (.int .i64 ((min news.length n : Nat) : Int)) := fun w' => by
                simp only [RV, CR]; rw [← hm]; rfl
              by_cases hz : min news.length n = 0
              · refine ⟨w, ?_, ?_⟩
                · rw [hr, hz]
                  cases ad with
                  | none => rfl
                  | some x => simp [storeCells]
                · -- nothing is laid over
                  have hsame : SegsR m w segs' cs.toList := by
                    obtain ⟨pre2, mid2, post2, hcs2, hpre2, hmid2, hs'⟩ := segPut_sound g o [(q, c')] segs segs' cs.toList (mid.take a ++ news.take (min news.length n) ++ mid.drop (a + (news.take (min news.length n)).length)) hput h5 (by
                      simp only [SegsR]; exact ⟨_, [], by simp, by simp; omega, t1, rfl⟩)
                    have hmm : mid.take a ++ news.take (min news.length n) ++ mid.drop (a + (news.take (min news.length n)).length) = mid := by rw [hz]; simp
                    rw [hmm] at hs' hmid2
                    have epre : pre2 = pre := by
                      have := congrArg (List.take o) (hcs.symm.trans hcs2)
                      rw [List.append_assoc, List.append_assoc, ← hpre, List.take_left] at this
                      rw [hpre, ← hpre2, List.take_left] at this
                      exact this.symm
                    subst epre
                    have epost : post2 = post := by
                      have := congrArg (List.drop (o + mid.length)) (hcs.symm.trans hcs2)
                      rw [List.drop_left' (by rw [List.length_append, hpre])] at this
                      rw [List.drop_left' (by rw [List.length_append, hpre, hmid2])] at this
                      exact this.symm
                    subst epost
                    rw [hcs]; exact hs'
                  exact hb.write hab rfl h2 rfl rfl (fun _ _ => rfl) rfl rfl rfl ⟨gb, cs, fz, h2, h3, h4, hsame⟩ (hvi w)
              · obtain ⟨gb', k1, rfl⟩ := h9 (by omega)
                simp only [blk, Option.some.injEq] at k1
                subst k1
                have hstl : (news.take (min news.length n)).length = min news.length n := by simp
                obtain ⟨q1, q2, q3, q4, q5, q6⟩ := setCells_block (news.take (min news.length n)) (o + a * 1) w cs h3 (by have := hs_len hcs; omega)
                obtain ⟨pre2, mid2, post2, hcs2, hpre2, hmid2, hs'⟩ := segPut_sound g o [(q, c')] segs segs' cs.toList (mid.take a ++ news.take (min news.length n) ++ mid.drop (a + (news.take (min news.length n)).length)) hput h5 (by
                  simp only [SegsR]; exact ⟨_, [], by simp, by simp; omega, t1, rfl⟩)
                have hmidl : (mid.take a ++ news.take (min news.length n) ++ mid.drop (a + (news.take (min news.length n)).length)).length = mid.length := by simp; omega
                rw [hmidl] at hmid2
                have epre : pre2 = pre := by
                  have := congrArg (List.take o) (hcs.symm.trans hcs2)
                  rw [List.append_assoc, List.append_assoc, ← hpre, List.take_left] at this
                  rw [hpre, ← hpre2, List.take_left] at this
                  exact this.symm
                subst epre
                have epost : post2 = post := by
                  have := congrArg (List.drop (o + mid.length)) (hcs.symm.trans hcs2)
                  rw [List.drop_left' (by rw [List.length_append, hpre])] at this
                  rw [List.drop_left' (by rw [List.length_append, hpre, hmid2])] at this
                  exact this.symm
                subst epost
                have e1 : (cs.toList.take (o + a * 1) ++ news.take (min news.length n) ++ cs.toList.drop (o + a * 1 + (news.take (min news.length n)).length)) =
                    pre2 ++ (mid.take a ++ news.take (min news.length n) ++ mid.drop (a + (news.take (min news.length n)).length)) ++ post2 := by
                  rw [hcs, show pre2 ++ mid ++ post2 = pre2 ++ (mid ++ post2) by simp, Nat.mul_one, ← hpre, List.take_length_add_append,
                    show pre2.length + a + (news.take (min news.length n)).length = pre2.length + (a + (news.take (min news.length n)).length) by omega, List.drop_length_add_append,
                    List.take_append_of_le_length (by omega), List.drop_append_of_le_length (by omega)]
                  simp
                rw [e1] at q1
                have htr := tr_write (w' := w.setCells gb (o + a * 1) (news.take (min news.length n))) h2 rfl q2 q3 q4 q5 q6
                refine ⟨w.setCells gb (o + a * 1) (news.take (min news.length n)), ?_, hb.write hab rfl h2 rfl q2 q3 q4 q5 q6 ⟨gb, _, fz, h2, q1, ?_, SegsR_mono htr.pres _ _ hs'⟩ (hvi _)⟩
                · rw [hr]
                  simp only []
                  rw [run_storeCells_block h3 h4 (by have := hs_len hcs; omega) (fun v hv => hone v (List.mem_of_mem_take hv))]
                  rfl
                · intro j hj
                  refine h4 j ?_
                  have := hs_len hcs
                  simp at hj
                  omega
            · exact (Look.run_no h).elim
          · exact (Look.run_no h).elim
        · exact (Look.run_no h).elim
      · exact (Look.run_no h).elim
    · rename_i B c
      split at h
      · split at h
        · rename_i d' hcut
          split at h
          · rename_i c' hsp
            simp only [Look.run, Option.some.injEq] at h
            subst h
            obtain ⟨he, hcut⟩ := cut_isE hcut
            obtain ⟨r1, r2, r3⟩ := RC_cut hcut hd1 hd (by show 0 + min _ _ ≤ _; omega)
            have hle : a + n ≤ c.len real := hc
            obtain ⟨v1, n1, cs, h2, h3, h4⟩ := row_cells hb.mem hab
            rw [h2] at h6; cases h6
            have hm : min (d.len real) n = min news.length n := by omega
            have hds : ((news.drop (0 * 1)).take (min (d.len real) n * 1)) = news.take (min news.length n) := by rw [Nat.zero_mul, List.drop_zero, Nat.mul_one, hm]
            have r1' : RC m w d' (news.take (min news.length n)) := by rw [← hds]; exact r1
            obtain ⟨t1, t2, t3⟩ := RC_splice hsp h4 r1'
            have hcl := RC_len t2 h4
            have hvi : ∀ w', RV m w' (.i (real.int (real.minn (d.len real) n))) (.int .i64 ((min news.length n : Nat) : Int)) := fun w' => by
              simp only [RV, CR]; rw [← hm]; rfl
            refine ⟨.int .i64 ((min news.length n : Nat) : Int), ?_⟩
            by_cases hz : min news.length n = 0
            · refine ⟨w, ?_, ?_⟩
              · rw [hr, hz]
                cases ad with
                | none => rfl
                | some x => simp [storeCells]
              · rw [hz] at t1
                simp only [List.take_zero, List.append_nil, List.length_nil, Nat.add_zero, List.take_append_drop] at t1
                by_cases hbv : ∃ gb, blk v0 = some gb
                · obtain ⟨gb, hbv⟩ := hbv
                  exact hb.write hab rfl h2 hbv rfl (fun _ _ => rfl) rfl rfl rfl ⟨v0, n1, cs, h2, h3, t1⟩ (hvi w)
                · -- a nil row
                  have := hb.same (av := .i (real.int (real.minn (d.len real) n))) (hvi w)
                  refine ⟨this.tr, this.rv, ?_, this.keys, this.bd⟩
                  refine ⟨fun t x hx => ?_, fun t t' x x' u u' b hx hx' hlx hlx' hne hu hu' hbb => ?_⟩
                  · simp only [mputs, mlook_cons] at hx
                    split at hx
                    · rename_i e; subst e; cases hx; exact ⟨v0, n1, cs, h2, h3, t1⟩
                    · exact hb.mem.at_ t x hx
                  · simp only [mputs, mlook_cons] at hx hx'
                    by_cases e1 : k = t
                    · subst e1; rw [h2] at hu; cases hu; exact absurd ⟨b, hbb⟩ hbv
                    · rw [if_neg e1] at hx
                      by_cases e2 : k = t'
                      · subst e2; rw [h2] at hu'; cases hu'; intro hb'; exact hbv ⟨b, hb'⟩
                      · rw [if_neg e2] at hx'
                        exact hb.mem.apart t t' x x' u u' b hx hx' hlx hlx' hne hu hu' hbb
            · obtain ⟨gb', k1, rfl⟩ := h9 (by omega)
              obtain ⟨gb, q1, w', q2, q3⟩ := hb.writeRow (P := P) (a := a) (ds := news.take (min news.length n)) (c' := c') hab h2 h3 (by simp; omega) (by simp; omega) t1 (fun v hv => hone v (List.mem_of_mem_take hv)) (fun w' _ => hvi w')
              rw [k1] at q1; cases q1
              refine ⟨w', ?_, q3⟩
              rw [hr]
              simp only [Nat.mul_one, Nat.zero_add]
              rw [q2]
              rfl
          · exact (Look.run_no h).elim
        · exact (Look.run_no h).elim
      · exact (Look.run_no h).elim
    · exact (Look.run_no h).elim
  · rename_i k
    obtain ⟨ab, hab, h⟩ := Look.run_look h
    split at h
    · rename_i B c
      split at h
      · rename_i d' hcut
        split at h
        · rename_i c' hsp
          simp only [Look.run, Option.some.injEq] at h
          subst h
          simp only [RV, CR] at hs
          obtain ⟨v0, h6, h7, h7b⟩ := hs
          simp only [List.cons.injEq, and_true] at h7
          subst h7
          obtain ⟨v1, n1, cs, h2, h3, h4⟩ := row_cells hb.mem hab
          rw [h2] at h6; cases h6
          obtain ⟨he, hcut⟩ := cut_isE hcut
          obtain ⟨r1, r2, r3⟩ := RC_cut hcut hd1 hd (by show 0 + min _ _ ≤ _; omega)
          obtain ⟨ad, n, cap, rfl, hn1, hn2, hn3⟩ := row_slice h3
          have hr := run_copy (P := P) (U := U) (ty := ty) (n := n) (cap := cap) (base := ad) hT hi hsz hlen (hf _ (by omega))
          have hm : min (d.len real) (c.len real) * 1 = min (d.len real) (c.len real) := by omega
          have hesz : c.esz = some 1 := by
            unfold AC.splice at hsp
            split at hsp <;> first | rfl | (cases hsp; done)
          have hcl := RC_len hesz h4
          have hm2 : min (d.len real) (c.len real) = min news.length n := by omega
          have hds : ((news.drop (0 * 1)).take (min (d.len real) (c.len real) * 1)) = news.take (min news.length n) := by rw [Nat.zero_mul, List.drop_zero, Nat.mul_one, hm2]
          have r1' : RC m w d' (news.take (min news.length n)) := by rw [← hds]; exact r1
          obtain ⟨t1, t2, t3⟩ := RC_splice hsp h4 r1'
          have hvi : ∀ w', RV m w' (.i (real.int (real.minn (d.len real) (c.len real)))) (.int .i64 ((min news.length n : Nat) : Int)) := fun w' => by
            simp only [RV, CR]; rw [← hm2]; rfl
          refine ⟨.int .i64 ((min news.length n : Nat) : Int), ?_⟩
          by_cases hz : min news.length n = 0
          · refine ⟨w, ?_, ?_⟩
            · rw [hr, hz]
              cases ad with
              | none => rfl
              | some x => simp [storeCells]
            · rw [hz] at t1
              simp only [List.take_zero, List.append_nil, List.nil_append, List.length_nil, Nat.add_zero, List.drop_zero] at t1
              have := hb.same (av := .i (real.int (real.minn (d.len real) (c.len real)))) (hvi w)
              refine ⟨this.tr, this.rv, ?_, this.keys, this.bd⟩
              refine ⟨fun t x hx => ?_, fun t t' x x' u u' b hx hx' hlx hlx' hne hu hu' hbb => ?_⟩
              · simp only [mputs, mlook_cons] at hx
                split at hx
                · rename_i e; subst e; cases hx; exact ⟨_, n1, cs, h2, h3, t1⟩
                · exact hb.mem.at_ t x hx
              · simp only [mputs, mlook_cons] at hx hx'
                by_cases e1 : k = t
                · subst e1
                  rw [if_neg hne] at hx'
                  exact hb.mem.apart k t' _ x' u u' b hab hx' rfl hlx' hne hu hu' hbb
                · rw [if_neg e1] at hx
                  by_cases e2 : k = t'
                  · subst e2
                    exact hb.mem.apart t k x _ u u' b hx hab hlx rfl hne hu hu' hbb
                  · rw [if_neg e2] at hx'
                    exact hb.mem.apart t t' x x' u u' b hx hx' hlx hlx' hne hu hu' hbb
          · obtain ⟨gb, q1, w', q2, q3⟩ := hb.writeRow (P := P) (a := 0) (ds := news.take (min news.length n)) (c' := c') hab h2 h3 (by simp; omega) (by simp; omega) t1 (fun v hv => hone v (List.mem_of_mem_take hv)) (fun w' _ => hvi w')
            obtain ⟨a, rfl, _⟩ := hn3 (by omega)
            obtain ⟨g', cap', cur, fz, rest, hv, _⟩ := row_open h3 (i := 0) (by omega)
            cases hv
            simp only [blk, Option.some.injEq] at q1
            subst q1
            refine ⟨w', ?_, q3⟩
            rw [hr]
            simp only []
            rw [q2]
            rfl
        · exact (Look.run_no h).elim
      · exact (Look.run_no h).elim
    · exact (Look.run_no h).elim
  · exact (Look.run_no h).elim

theorem copy_sound (ht : TTok P tt) (hb : Base m w me kb) {T U : Nat} {ty : Nat} {s x : AV} {vs vx : Value} {e : Eff} (hs : RV m w s vs) (hx : RV m w x vx)
    (h : (copyEv real tt T s x).run me = some e) (hc : e.c) :
    ∃ v w', (Builtin.copy_ #[T, U] ty #[vs, vx]).run P w = .ok v w' ∧ OkE m w me kb e.v e.puts v m w' := by
  unfold copyEv at h
  split at h
  · rename_i te _ _ _ _ hl
    have hT : P.underlying T = some (.slice te) := (ht.look hl).k
    split at h
    · rename_i kk by_ z0 ek hl2
      obtain ⟨i, z, hi, hsz, _⟩ := (ht.look hl2).i
      split at h
      · rename_i xs
        split at h
        · simp only [RV, CR, List.cons.injEq, and_true] at hx
          subst hx
          refine copy_core hb hT hi hsz hs (d := .bt xs) (news := xs.map E8) (by simp [RC]) rfl ((Src.of_string w xs).len w) (fun k hk => ?_) hc h
          simp only [Builtin.firstCells, Sem.run_pure]
          congr 1
          apply Array.ext'
          simp
        · exact (Look.run_no h).elim
      · obtain ⟨d, news, e0, h1, h2, h3, h4, h5, h6, h7⟩ := content_sound hb hx h hc
        rw [← h3, ← h4]
        exact copy_core hb hT hi hsz hs h5 h6 (run_lenOf h7 w) (fun k hk => run_firstOf h7 hk w rfl) h2 h1
    · exact (Look.run_no h).elim
  · exact (Look.run_no h).elim
end
end Go.Vc
