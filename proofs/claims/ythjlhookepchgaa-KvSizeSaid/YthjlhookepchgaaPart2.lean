/- A part of the proof of given statements: a verified condition generator for the model, and contracts of the program's functions. No condition. -/
import Derived.Test.YthjlhookepchgaaPart1
import Derived.ChangeKeysEq
import Derived.MapKept
set_option linter.unusedVariables false
set_option linter.unusedSimpArgs false
set_option linter.constructorNameAsVariable false
set_option linter.unusedVariables false
set_option linter.unusedSimpArgs false
namespace Go.Vc
open Go Go.RowKit

theorem hs_len {cs : Array Value} {pre mid post : List Value} (h : cs.toList = pre ++ mid ++ post) : cs.size = pre.length + mid.length + post.length := by
  rw [← Array.length_toList, h]; simp; omega

/-- a write into a block's segments -/
theorem MemR.writeSegs {P : Program} {m : Hd} {w : World} {me : Mem} (hm : MemR m w me) (hbd : Bd m w) {k g o B : Nat} {segs new segs' : List Seg} {ds : List Value}
    (hab : mlook me k = some (.bk B segs)) (hp : segPut g o new segs = some segs') (hn : SegsR m w new ds) (h1 : ∀ v ∈ ds, v.oneCell' = true) :
    ∃ gb, m k = some (.pointer (some ⟨gb, 0, none⟩)) ∧ ∃ w', (storeCells ⟨gb, o, none⟩ ds).run P w = .ok () w' ∧ Tr m w m w' ∧ MemR m w' ((k, .bk B segs') :: me) ∧ Bd m w' := by
  obtain ⟨gb, cs, fz, h2, h3, h4, h5⟩ := bk_cells hm hab
  obtain ⟨pre, mid, post, hcs, hpre, hmid, hs'⟩ := segPut_sound g o new segs segs' cs.toList ds hp h5 hn
  have hsz := hs_len hcs
  obtain ⟨g1, g2, g3, g4, g5, g6⟩ := setCells_block ds o w cs h3 (by omega)
  refine ⟨gb, h2, _, run_storeCells_block h3 h4 (by omega) h1, ?_⟩
  have e1 : (cs.toList.take o ++ ds ++ cs.toList.drop (o + ds.length)) = pre ++ ds ++ post := by
    rw [← hpre]; exact splitAt3 hcs hmid
  rw [e1] at g1
  have htr := tr_write (w' := w.setCells gb o ds) (hm.live k _ _ gb hab rfl h2 rfl) h2 rfl g2 g3 g4 g5 g6
  refine ⟨htr, memR_write hm hab rfl h2 rfl g2 g3 g4 g5 g6 ⟨gb, _, fz, h2, g1, ?_, ?_⟩, fun t u b ht hu => by have := hbd t u b ht hu; omega⟩
  · refine h4.len ?_
    simp; omega
  · exact SegsR_mono htr.pres _ _ hs'
theorem Base.writeSegs {P : Program} {m : Hd} {w : World} {me : Mem} {kb : Nat} (hb : Base m w me kb) {k g o B : Nat} {segs new segs' : List Seg} {ds : List Value} {av : AV} {v1 : Value}
    (hab : mlook me k = some (.bk B segs)) (hp : segPut g o new segs = some segs') (hn : SegsR m w new ds) (h1 : ∀ v ∈ ds, v.oneCell' = true)
    (hrv : ∀ w', Pres m w m w' → RV m w' av v1) :
    ∃ gb, m k = some (.pointer (some ⟨gb, 0, none⟩)) ∧ ∃ w', (storeCells ⟨gb, o, none⟩ ds).run P w = .ok () w' ∧ OkE m w me kb av [(k, .bk B segs')] v1 m w' := by
  obtain ⟨gb, h2, w', h3, h4, h5, h6⟩ := hb.mem.writeSegs (P := P) hb.bd hab hp hn h1
  exact ⟨gb, h2, w', h3, h4, hrv _ h4.pres, h5, fun _ h => .inl h, h6⟩

/-- a write into a row of the call's own, from cell a on -/
theorem Base.writeRow {P : Program} {m : Hd} {w : World} {me : Mem} {kb : Nat} (hb : Base m w me kb) {k B e a : Nat} {c c' : AC} {cs ds : List Value} {av : AV} {v1 : Value} {v : Value} {n : Nat}
    (hab : mlook me k = some (.row B e c)) (hk : m k = some v) (ho : OwnRow w B e v n cs) (hfit : a + ds.length ≤ cs.length) (hpos : 0 < ds.length)
    (hc' : RC m w c' (cs.take a ++ ds ++ cs.drop (a + ds.length))) (h1 : ∀ v ∈ ds, v.oneCell' = true) (hrv : ∀ w', Pres m w m w' → RV m w' av v1) :
    ∃ gb, blk v = some gb ∧ ∃ w', (storeCells ⟨gb, bof v + a, none⟩ ds).run P w = .ok () w' ∧ OkE m w me kb av [(k, .row B e c')] v1 m w' := by
  obtain ⟨gb, o, cap, cur, fz, pre, rest, rfl, g1, g2, g3, g4, g5, g6, g7, g8⟩ := row_open ho (i := 0) (by omega)
  have hblk : blk (.slice (some ⟨gb, o, none⟩) n cap) = some gb := blk_slice g4
  have hsz : cur.size = pre.length + cs.length + rest.length := hs_len g7
  obtain ⟨q1, q2, q3, q4, q5, q6⟩ := setCells_block ds (o + a) w cur g1 (by omega)
  refine ⟨gb, hblk, w.setCells gb (o + a) ds, run_storeCells_block (o := o + a) g1 g2 (by omega) h1, ?_⟩
  have htr := tr_write (w' := w.setCells gb (o + a) ds) (hb.mem.live k _ _ gb hab rfl hk hblk) hk hblk q2 q3 q4 q5 q6
  have hl := ho.1
  have e1 : cur.toList.take (o + a) ++ ds ++ cur.toList.drop (o + a + ds.length) = pre ++ (cs.take a ++ ds ++ cs.drop (a + ds.length)) ++ rest := by
    rw [g7, ← g8, show pre ++ cs ++ rest = pre ++ (cs ++ rest) by simp, List.take_length_add_append, show pre.length + a + ds.length = pre.length + (a + ds.length) by omega, List.drop_length_add_append,
      List.take_append_of_le_length (by omega), List.drop_append_of_le_length (by omega)]
    simp
  have hlen : (cs.take a ++ ds ++ cs.drop (a + ds.length)).length = n * e := by simp; omega
  rw [e1] at q1
  refine hb.write hab rfl hk hblk q2 q3 q4 q5 q6 ⟨_, n, _, hk, ⟨hlen, .inr ⟨gb, o, cap, _, fz, rfl, q1, ?_, g3, g4, g5, ?_, ?_⟩⟩, RC_mono htr.pres _ _ hc'⟩ (hrv _ htr.pres)
  · refine g2.len ?_
    simp; omega
  · simp; omega
  · show List.take (n * e) (List.drop o (pre ++ (cs.take a ++ ds ++ cs.drop (a + ds.length)) ++ rest)) = _
    rw [← g8, List.append_assoc, List.drop_left, ← hlen, List.take_left]

/-- a stretch of a row, told as a row of its own under a new name -/
theorem Base.reown {m : Hd} {w : World} {me : Mem} {kb : Nat} (hb : Base m w me kb) {k2 T2 e a n : Nat} {c d : AC} {vy : Value} (hl : mlook me k2 = some (.row T2 e c)) (hcut : c.cutE real e a n = some d) (hle : a + n ≤ c.len real)
    (hv : RV m w (.sl k2 0 0 e a n) vy) : Tr m w (hput m kb vy) w ∧ MemR (hput m kb vy) w ((kb, .row T2 e d) :: (k2, .dead) :: me) ∧ Bd (hput m kb vy) w ∧ RV (hput m kb vy) w (.rw kb) vy := by
  have hkb := hb.fresh kb (Nat.le_refl _) (by omega)
  unfold AC.cutE at hcut
  split at hcut
  · rename_i hE
    obtain ⟨he1, he2⟩ := isE_spec hE
    obtain ⟨v2, n2, cs, h1, h2, h3⟩ := row_cells hb.mem hl
    simp only [RV, CR] at hv
    obtain ⟨v2', ad, cap, h4, h5, h6, h7, h8⟩ := hv
    rw [h1] at h4; cases h4
    simp only [List.cons.injEq, and_true] at h5
    subst h5
    obtain ⟨r1, r2, r3⟩ := RC_cut hcut he1 h3 hle
    have hcl := RC_len he1 h3
    have hn2 : n2 = c.len real := by
      have := h2.1
      rw [hcl] at this
      exact (Nat.eq_of_mul_eq_mul_right he2 this).symm
    have hblk : ∀ b, blk (.slice ad n cap) = some b → blk v2 = some b := by
      intro b hbk
      by_cases h0 : cap = 0
      · subst h0; rw [blk_slice0] at hbk; cases hbk
      · obtain ⟨g, k1, k2⟩ := h7 (by omega)
        subst k2
        rw [blk_slice (by omega)] at hbk
        rw [k1]; exact hbk
    have hown : OwnRow w T2 e (.slice ad n cap) n ((cs.drop (a * e)).take (n * e)) := by
      refine ⟨?_, ?_⟩
      · rw [List.length_take, List.length_drop, hcl]
        have : n * e + a * e ≤ c.len real * e := by rw [← Nat.add_mul]; exact Nat.mul_le_mul_right _ (by omega)
        omega
      · by_cases h0 : cap = 0
        · subst h0
          exact .inl ⟨ad, by rw [show n = 0 by omega], by omega⟩
        · obtain ⟨g, k1, rfl⟩ := h7 (by omega)
          rcases h2.2 with ⟨ad2, rfl, _⟩ | ⟨g2, o2, cap2, cur, fz, rfl, q1, q2, q3, q4, q5, q6, q7⟩
          · rw [blk_slice0] at k1; cases k1
          · rw [blk_slice q4] at k1
            simp only [Option.some.injEq] at k1
            subst k1
            have hroom := h8 cap2 rfl
            have hm : a * e + cap * e ≤ cap2 * e := by rw [← Nat.add_mul]; exact Nat.mul_le_mul_right _ hroom
            refine .inr ⟨g2, o2 + a * e, cap, cur, fz, by simp only [bof, Nat.zero_add], q1, q2, h6, by omega, by omega, by omega, ?_⟩
            have hm2 : a * e + n * e ≤ n2 * e := by rw [← Nat.add_mul]; exact Nat.mul_le_mul_right _ (by omega)
            rw [← q7, ← List.drop_drop]
            rw [List.drop_take, List.take_take]
            congr 1
            omega
    have htr : Tr m w (hput m kb (.slice ad n cap)) w := by
      refine ⟨fun t u ht => ?_, rfl, fun _ h => h, fun _ h => .inl h, Nat.le_refl _, fun _ _ _ => rfl, fun t u b ht hu => ?_, rfl, rfl, rfl⟩
      · rw [hput_apply, if_neg (fun e => by rw [e, hkb] at ht; cases ht)]; exact ht
      · rw [hput_apply] at ht
        split at ht
        · cases ht; exact .inl ⟨k2, v2, h1, hblk b hu⟩
        · exact .inl ⟨t, u, ht, hu⟩
    have hne2 : k2 ≠ kb := fun e => by rw [e, hkb] at h1; cases h1
    refine ⟨htr, ⟨fun t ab hab => ?_, fun t t' ab ab' u u' b ha ha' hlv hlv' hne hu hu' hbk hbk' => ?_, fun b hb' => hb.mem.pubs b hb', fun t ab u b ha hlv hu hbk => ?_, fun t ab u b ha hlv hu hbk => ?_, hb.mem.okn⟩, fun t u b ht hu => ?_, ?_⟩
    · rw [mlook_cons] at hab
      split at hab
      · rename_i e; subst e; cases hab
        exact ⟨_, n, _, by simp [hput_apply], hown, RC_mono htr.pres _ _ r1⟩
      · rw [mlook_cons] at hab
        split at hab
        · cases hab; trivial
        · exact ABR_keep (hb.mem.at_ t ab hab) (htr.mu t) (fun _ _ _ _ => rfl) htr.pres
    · have hold : ∀ (t : Nat) (ab : AB) (u : Value), mlook ((kb, .row T2 e d) :: (k2, .dead) :: me) t = some ab → ab.live = true → (hput m kb (.slice ad n cap)) t = some u →
          (t = kb ∧ u = .slice ad n cap) ∨ (t ≠ kb ∧ t ≠ k2 ∧ mlook me t = some ab ∧ m t = some u) := by
        intro t ab u ha hlv hu
        rw [mlook_cons] at ha
        rw [hput_apply] at hu
        by_cases e1 : kb = t
        · subst e1; rw [if_pos rfl] at hu; cases hu; exact .inl ⟨rfl, rfl⟩
        · rw [if_neg e1] at ha
          rw [if_neg (fun e => e1 e.symm)] at hu
          rw [mlook_cons] at ha
          by_cases e2 : k2 = t
          · subst e2; rw [if_pos rfl] at ha; cases ha; cases hlv
          · rw [if_neg e2] at ha
            exact .inr ⟨fun e => e1 e.symm, fun e => e2 e.symm, ha, hu⟩
      rcases hold t ab u ha hlv hu with ⟨rfl, rfl⟩ | ⟨q1, q2, q3, q4⟩ <;> rcases hold t' ab' u' ha' hlv' hu' with ⟨rfl, rfl⟩ | ⟨p1, p2, p3, p4⟩
      · exact hne rfl
      · exact hb.mem.apart k2 t' _ ab' v2 u' b hl p3 rfl hlv' (fun e => p2 e.symm) h1 p4 (hblk b hbk) hbk'
      · exact hb.mem.apart k2 t _ ab v2 u b hl q3 rfl hlv (fun e => q2 e.symm) h1 q4 (hblk b hbk') hbk
      · exact hb.mem.apart t t' ab ab' u u' b q3 p3 hlv hlv' hne q4 p4 hbk hbk'
    · rw [mlook_cons] at ha
      rw [hput_apply] at hu
      by_cases e1 : kb = t
      · subst e1; rw [if_pos rfl] at hu; cases hu
        exact hb.mem.live k2 _ v2 b hl rfl h1 (hblk b hbk)
      · rw [if_neg e1] at ha
        rw [if_neg (fun e => e1 e.symm)] at hu
        rw [mlook_cons] at ha
        split at ha
        · cases ha; cases hlv
        · exact hb.mem.live t ab u b ha hlv hu hbk
    · rw [mlook_cons] at ha
      rw [hput_apply] at hu
      by_cases e1 : kb = t
      · subst e1; rw [if_pos rfl] at hu; cases hu
        exact hb.mem.okl k2 _ v2 b hl rfl h1 (hblk b hbk)
      · rw [if_neg e1] at ha
        rw [if_neg (fun e => e1 e.symm)] at hu
        rw [mlook_cons] at ha
        split at ha
        · cases ha; cases hlv
        · exact hb.mem.okl t ab u b ha hlv hu hbk
    · rw [hput_apply] at ht
      split at ht
      · cases ht; exact hb.bd k2 v2 b h1 (hblk b hu)
      · exact hb.bd t u b ht hu
    · simp only [RV, CR]
      exact ⟨_, by simp [hput_apply], rfl, rfl⟩
  · cases hcut

theorem segPut_look {m : Hd} {w : World} {g o : Nat} {segs segs' : List Seg} {c c' : AC} {cs : List Value} {n : Nat} (hs : withContent.segAt g o segs = some (n, c)) (hp : segPut g o [(n, c')] segs = some segs') (h5 : SegsR m w segs cs)
    {mid' : List Value} (hm' : RC m w c' mid') (hl' : mid'.length = n) :
    ∃ pre mid post, cs = pre ++ mid ++ post ∧ pre.length = o ∧ mid.length = n ∧ RC m w c mid ∧ SegsR m w segs' (pre ++ mid' ++ post) := by
  obtain ⟨pre, mid, post, hcs, hpre, hmid, hrc⟩ := segAt_sound g o segs n c cs hs h5
  obtain ⟨pre2, mid2, post2, hcs2, hpre2, hmid2, hs'⟩ := segPut_sound g o [(n, c')] segs segs' cs mid' hp h5 (by
    simp only [SegsR]; exact ⟨_, [], by simp, hl', hm', rfl⟩)
  have epre : pre2 = pre := by
    have := congrArg (List.take o) (hcs.symm.trans hcs2)
    rw [List.append_assoc, List.append_assoc, ← hpre, List.take_left] at this
    rw [hpre, ← hpre2, List.take_left] at this
    exact this.symm
  subst epre
  have epost : post2 = post := by
    have := congrArg (List.drop (o + mid.length)) (hcs.symm.trans hcs2)
    rw [List.drop_left' (by rw [List.length_append, hpre])] at this
    rw [List.drop_left' (by rw [List.length_append, hpre, hmid2]; omega)] at this
    exact this.symm
  subst epost
  exact ⟨pre2, mid, post2, hcs, hpre, hmid, hrc, hs'⟩

theorem storeN_sound {P : Program} {m : Hd} {w : World} {me : Mem} {kb : Nat} (hb : Base m w me kb) {T k B g o gb : Nat} {lay : Lay} {i : TypeInfo} {segs : List Seg} {y : AV} {vy : Value} {e : Eff} (hi : P.info? T = some i) (hcells : lay.cells = i.size)
    (h1 : m k = some (.pointer (some ⟨gb, 0, none⟩))) (hab : mlook me k = some (.bk B segs)) (hy : RV m w y vy) (h : (storeN lay k B g o segs y).run me = some e) :
    ∃ w', (storeVar T ⟨gb, o, none⟩ vy).run P w = .ok () w' ∧ OkE m w me kb e.v e.puts undef m w' := by
  unfold storeN at h
  split at h
  · rename_i new hnew
    split at h
    · rename_i segs' hp
      simp only [Look.run, Option.some.injEq] at h
      subst h
      have hkind : y.one = true ∨ ∃ n c, y = .ag n c := by
        cases lay with
        | one z' => left; simp only [Lay.put] at hnew; split at hnew; assumption; cases hnew
        | arr n z' => right; simp only [Lay.put] at hnew; split at hnew; exact ⟨_, _, rfl⟩; cases hnew
        | st l => right; simp only [Lay.put] at hnew; split at hnew; exact ⟨_, _, rfl⟩; cases hnew
      have hcr := CR_cells hkind hy
      rcases put_sound lay y new _ hnew hcr with ⟨h3, h4⟩ | rfl
      · obtain ⟨gb', h5, w', h6, h7⟩ := hb.writeSegs (P := P) hab hp h4 (CR_one _ _ hcr) (av := .u) (v1 := undef) (fun _ _ => by simp [RV])
        rw [h1] at h5; cases h5
        refine ⟨w', ?_, h7⟩
        rw [run_storeVar hi (by rw [← Array.length_toList, h3, hcells])]
        exact h6
      · rcases hkind with h0 | ⟨_, _, h0⟩
        · simp [AV.one] at h0
        · cases h0
    · exact (Look.run_no h).elim
  · exact (Look.run_no h).elim
theorem reown_sound {P : Program} {m : Hd} {w : World} {me : Mem} {kb : Nat} (hb : Base m w me kb) {T k B g o gb : Nat} {i : TypeInfo} {segs : List Seg} {y : AV} {vy : Value} {l : Look} {e : Eff} (hi : P.info? T = some i) (hsize1 : i.size = 1)
    (h1 : m k = some (.pointer (some ⟨gb, 0, none⟩))) (hab : mlook me k = some (.bk B segs)) (hy : RV m w y vy) (hre : reown real kb k B g o segs y = some l) (h : l.run me = some e) (hc : e.c) :
    ∃ m' w', (storeVar T ⟨gb, o, none⟩ vy).run P w = .ok () w' ∧ OkE m w me kb e.v e.puts undef m' w' := by
  unfold reown at hre
  split at hre
  · rename_i k2 g2 o2 e2 a n
    split at hre
    · rename_i q k3 hseg
      split at hre
      · rename_i e1 e3
        have e1 := beq_nat e1
        subst e1
        have hk2k : k2 ≠ k := fun e => by subst e; simp at e3
        simp only [Option.some.injEq] at hre
        subst hre
        have h' := Look.run_look h
        clear h
        obtain ⟨ab2, hab2, h⟩ := h'
        split at h
        · rename_i T2 e4 c
          split at h
          · rename_i e5
            have e5 := beq_nat e5
            subst e5
            split at h
            · rename_i d hcut
              split at h
              · rename_i segs' hp
                simp only [Look.run, Option.some.injEq] at h
                subst h
                obtain ⟨t1, t2, t3, t4⟩ := hb.reown hab2 hcut hc hy
                have hkne : kb ≠ k := fun e => by subst e; rw [hb.fresh _ (Nat.le_refl _) (by omega)] at h1; cases h1
                have hab' : mlook ((kb, .row T2 e2 d) :: (k2, .dead) :: me) k = some (.bk B segs) := by
                  rw [mlook_cons, if_neg hkne, mlook_cons, if_neg hk2k]; exact hab
                obtain ⟨cr1, cr2, _⟩ := CR_of_RV (a := .rw kb) rfl t4
                obtain ⟨gb', h5, w', h6, h7, h8, h9⟩ := t2.writeSegs (P := P) t3 hab' hp (ds := [vy]) (by
                  simp only [SegsR, RC, LR]
                  exact ⟨[vy], [], rfl, rfl, ⟨[vy], [], rfl, cr1, rfl⟩, rfl⟩) (by simpa using cr2)
                have h1' := t1.mu k _ h1
                rw [h1'] at h5; cases h5
                have hvs : vy.cells = #[vy] := by cases vy <;> first | rfl | (simp [Value.oneCell'] at cr2)
                refine ⟨_, w', ?_, t1.trans h7, by simp [RV], h8, fun t ht => ?_, h9⟩
                · rw [run_storeVar hi (by rw [hvs, hsize1]; rfl), hvs]
                  exact h6
                · rw [hput_apply] at ht
                  split at ht
                  · rename_i e; exact .inr ⟨by omega, by omega⟩
                  · exact .inl ht
              · exact (Look.run_no h).elim
            · exact (Look.run_no h).elim
          · exact (Look.run_no h).elim
        · exact (Look.run_no h).elim
      · cases hre
    · cases hre
  · cases hre
theorem fit_cells {m : Hd} {w : World} {lay : Lay} {y : AV} {vy : Value} (hf : fits1 lay y = true) (hy : RV m w y vy) : CR m w y vy.cells.toList ∧ vy.cells.size = lay.cells := by
  rcases fits_kind hf with ⟨h1, h2⟩ | ⟨h1, n, c, rfl, h2⟩
  · obtain ⟨q1, _, q2⟩ := CR_of_RV h2 hy
    rw [q2]
    refine ⟨q1, ?_⟩
    cases lay <;> simp_all [Lay.isAgg, Lay.cells]
  · have h3 := CR_cells (.inr ⟨n, c, rfl⟩) hy
    have h4 := CR_wid h3
    simp only [AV.wid] at h4
    exact ⟨h3, by rw [← Array.length_toList, h4, h2]⟩
theorem store_sound {P : Program} {tt : TT} (ht : TTok P tt) {m : Hd} {w : World} {me : Mem} {kb : Nat} (hb : Base m w me kb) {T : Nat} {x y : AV} {vx vy : Value} {e : Eff}
    (hx : RV m w x vx) (hy : RV m w y vy) (h : (storeEv real tt kb T x y).run me = some e) (hc : e.c) :
    ∃ m' w', (Instr.storeAt T vx vy).run P w = .ok () w' ∧ OkE m w me kb e.v e.puts undef m' w' := by
  unfold storeEv at h
  split at h
  · rename_i ti k sz by_ lay ek hl
    have hti := ht.look hl
    obtain ⟨i, z, hi, hsz, hrest⟩ := hti.i
    have hsz : i.size = sz := hsz
    have hcells : lay.cells = sz := hti.cells
    split at h
    · rename_i k g o
      simp only [RV, CR] at hx
      obtain ⟨gb, h1, hv⟩ := hx
      simp only [List.cons.injEq, and_true] at hv
      subst hv
      have h' := Look.run_look h
      clear h
      obtain ⟨ab, hab, h⟩ := h'
      split at h
      · rename_i B segs
        split at h
        · rename_i his
          split at h
          · rename_i l hre
            have hone : i.size = 1 := by
              cases lay <;> simp [Lay.is1] at his
              simp [Lay.cells] at hcells; omega
            exact reown_sound hb hi hone h1 hab hy hre h hc
          · obtain ⟨w', g1, g2⟩ := storeN_sound (P := P) hb hi (by omega) h1 hab hy h
            exact ⟨m, w', g1, g2⟩
        · obtain ⟨w', g1, g2⟩ := storeN_sound (P := P) hb hi (by omega) h1 hab hy h
          exact ⟨m, w', g1, g2⟩
      · exact (Look.run_no h).elim
    · rename_i k g o e' i'
      simp only [RV, CR] at hx
      obtain ⟨hv0, gb, h1, hblk, hv⟩ := hx
      simp only [List.cons.injEq, and_true] at hv
      subst hv
      split at h
      · rename_i hbe hfit
        have hbe := beq_nat hbe
        obtain ⟨hcr, hvsz⟩ := fit_cells hfit hy
        have hcl : vy.cells.toList.length = e' := by rw [Array.length_toList, hvsz, hbe]
        have h' := Look.run_look h
        clear h
        obtain ⟨ab, hab, h⟩ := h'
        split at h
        · rename_i B segs
          split at h
          · rename_i n c hs
            split at h
            · rename_i c' hE hset
              obtain ⟨he1, he2⟩ := isE_spec hE
              split at h
              · rename_i segs' hp
                simp only [Look.run, Option.some.injEq] at h
                subst h
                obtain ⟨g', cs, fz, h2, h3, h4, h5⟩ := bk_cells hb.mem hab
                rw [h1] at h2; cases h2
                simp only [blk, Option.some.injEq] at hblk
                subst hblk
                obtain ⟨pre0, mid0, post0, hcs0, hpre0, hmid0, hrc0⟩ := segAt_sound g o segs n c cs.toList hs h5
                have hc' : i' < c.len real := clen_lt he1 hrc0 hmid0 hc
                obtain ⟨r1, r2, r3, r4⟩ := RC_set hset he1 hrc0 hcr hc'
                have hlen0 := RC_len he1 hrc0
                have hlt : i' * e' + e' ≤ mid0.length := by
                  rw [hlen0, ← Nat.succ_mul]; exact Nat.mul_le_mul_right _ (by omega)
                have hl' : (mid0.take (i' * e') ++ vy.cells.toList ++ mid0.drop (i' * e' + e')).length = n := by simp; omega
                obtain ⟨pre, mid, post, hcs, hpre, hmid, hrc, hs'⟩ := segPut_look hs hp h5 r1 hl'
                have epre : pre0 = pre := by
                  have := congrArg (List.take o) (hcs0.symm.trans hcs)
                  rw [List.append_assoc, List.append_assoc, ← hpre, List.take_left] at this
                  rw [hpre, ← hpre0, List.take_left] at this
                  exact this
                subst epre
                have emid : mid0 = mid := by
                  have h9 := congrArg (fun l => (List.drop o l).take n) (hcs0.symm.trans hcs)
                  simp only [List.append_assoc] at h9
                  rw [← hpre0, List.drop_left, List.drop_left] at h9
                  rw [← hmid, List.take_left] at h9
                  rw [hmid, ← hmid0, List.take_left] at h9
                  exact h9
                subst emid
                have hsz2 := hs_len hcs
                obtain ⟨q1, q2, q3, q4, q5, q6⟩ := setCells_block vy.cells.toList (o + i' * e') w cs h3 (by omega)
                have e1 : (cs.toList.take (o + i' * e') ++ vy.cells.toList ++ cs.toList.drop (o + i' * e' + vy.cells.toList.length)) = pre0 ++ (mid0.take (i' * e') ++ vy.cells.toList ++ mid0.drop (i' * e' + e')) ++ post := by
                  rw [hcs, show pre0 ++ mid0 ++ post = pre0 ++ (mid0 ++ post) by simp]
                  rw [← hpre, List.take_length_add_append, hcl, show pre0.length + i' * e' + e' = pre0.length + (i' * e' + e') by omega, List.drop_length_add_append]
                  rw [List.take_append_of_le_length (by omega), List.drop_append_of_le_length (by omega)]
                  simp
                rw [e1] at q1
                have htr := tr_write (w' := w.setCells g' (o + i' * e') vy.cells.toList) (hb.mem.live k _ _ g' hab rfl h1 rfl) h1 rfl q2 q3 q4 q5 q6
                refine ⟨m, w.setCells g' (o + i' * e') vy.cells.toList, ?_, hb.write hab rfl h1 rfl q2 q3 q4 q5 q6 ⟨g', _, fz, h1, q1, ?_, SegsR_mono htr.pres _ _ hs'⟩ (by simp [RV])⟩
                · show (storeVar T ⟨g', bof (.pointer (some ⟨g', 0, none⟩)) + (o + i' * e'), none⟩ vy).run P w = _
                  rw [run_storeVar hi (by omega), show bof (.pointer (some ⟨g', 0, none⟩)) + (o + i' * e') = o + i' * e' from Nat.zero_add _]
                  exact run_storeCells_block h3 h4 (by omega) (CR_one _ _ hcr)
                · refine h4.len ?_
                  simp; omega
              · exact (Look.run_no h).elim
            · exact (Look.run_no h).elim
          · exact (Look.run_no h).elim
        · rename_i B e2 c
          split at h
          · rename_i hee hE
            have hee := beq_nat hee
            subst hee
            obtain ⟨he1, he2⟩ := isE_spec hE
            split at h
            · rename_i c' hset
              simp only [Look.run, Option.some.injEq] at h
              subst h
              have hc' : i' < c.len real := hc
              obtain ⟨v0, n, cs, h2, h3, h4⟩ := row_cells hb.mem hab
              rw [h1] at h2; cases h2
              obtain ⟨r1, r2, r3, r4⟩ := RC_set hset he1 h4 hcr hc'
              have hlen := RC_len he1 h4
              have hlt : i' * e' + e' ≤ cs.length := by
                rw [hlen, ← Nat.succ_mul]; exact Nat.mul_le_mul_right _ (by omega)
              obtain ⟨gb', q1, w', q2, q3⟩ := hb.writeRow (P := P) (a := i' * e') (ds := vy.cells.toList) (c' := c') hab h1 h3 (by omega) (by omega)
                (by rw [hcl]; exact r1) (CR_one _ _ hcr) (av := .u) (v1 := undef) (fun _ _ => by simp [RV])
              rw [hblk] at q1; cases q1
              refine ⟨m, w', ?_, q3⟩
              show (storeVar T ⟨gb, bof hv0 + (0 + i' * e'), none⟩ vy).run P w = _
              rw [run_storeVar hi (by omega), Nat.zero_add]
              exact q2
            · exact (Look.run_no h).elim
          · exact (Look.run_no h).elim
        · exact (Look.run_no h).elim
      · exact (Look.run_no h).elim
    · exact (Look.run_no h).elim
  · exact (Look.run_no h).elim

/-! ## New variables -/
theorem newVar_run {P : Program} {w : World} {T : Nat} {v : Value} : (newVar T v).run P w = .ok ⟨w.heap.size, 0, none⟩ (w.alloc (.cells v.cells T)) := by
  simp [newVar, newRow]
theorem thawed_none (n : Nat) : Thawed (0, 0) n := .inl rfl
theorem Base.newBk {P : Program} {m : Hd} {w : World} {me : Mem} {kb : Nat} (hb : Base m w me kb) {T : Nat} {segs : List Seg} {cs : List Value} {arr : Array Value} (harr : arr.toList = cs) (hs : SegsR m w segs cs) :
    OkE m w me kb (.p kb 0 0) [(kb, .bk T segs)] (.pointer (some ⟨w.heap.size, 0, none⟩)) (hput m kb (.pointer (some ⟨w.heap.size, 0, none⟩))) (w.alloc (.cells arr T)) := by
  have hk := hb.fresh kb (Nat.le_refl _) (by omega)
  have hsz : (w.alloc (.cells arr T)).heap.size = w.heap.size + 1 := by simp
  have hv : ∀ b, blk (Value.pointer (some ⟨w.heap.size, 0, none⟩)) = some b → w.heap.size ≤ b := fun b h => by simp [blk] at h; omega
  have hold : ∀ b, b < w.heap.size → (w.alloc (.cells arr T)).heap[b]? = w.heap[b]? := fun b h => Below.heap_alloc w _ b h
  have htr := tr_new (w' := w.alloc (.cells arr T)) hk (by omega) hv hold rfl rfl rfl
  refine hb.new (by omega) hv (fun b h => by simp [blk] at h; omega) hold rfl rfl rfl ⟨w.heap.size, arr, (0, 0), by simp [hput_apply], heap_alloc_new w _, thawed_none _, ?_⟩ ?_
  · rw [harr]; exact SegsR_mono htr.pres _ _ hs
  · simp only [RV, CR]
    exact ⟨w.heap.size, by simp [hput_apply], rfl⟩
theorem alloc_sound {P : Program} {tt : TT} (ht : TTok P tt) {m : Hd} {w : World} {me : Mem} {kb : Nat} (hb : Base m w me kb) {T : Nat} {e : Eff}
    (h : (allocEv tt kb T).run me = some e) : ∃ v m' w', (Instr.alloc T true (.tuple #[])).run P w = .ok v w' ∧ OkE m w me kb e.v e.puts v m' w' := by
  unfold allocEv at h
  split at h
  · rename_i ti k sz by_ lay ek hl
    obtain ⟨i, z, hi, hsz, hby, hz, hzs, hseg, _⟩ := (ht.look hl).i
    simp only [Look.run, Option.some.injEq] at h
    subst h
    have hseg : SegsR m w lay.segs z.cells.toList := hseg m w
    refine ⟨_, _, _, ?_, hb.newBk (P := P) (arr := z.cells) rfl hseg⟩
    simp [Instr.alloc, zeroValue, typeInfo, hi, hz, newVar_run]
  · exact (Look.run_no h).elim
theorem box_sound {P : Program} {tt : TT} (ht : TTok P tt) {m : Hd} {w : World} {me : Mem} {kb : Nat} (hb : Base m w me kb) {T : Nat} {x : AV} {vx : Value} {e : Eff} (hx : RV m w x vx)
    (h : (boxEv tt kb T x).run me = some e) : ∃ v m' w', (Instr.box T vx).run P w = .ok v w' ∧ OkE m w me kb e.v e.puts v m' w' := by
  unfold boxEv at h
  split at h
  · rename_i ti k sz by_ lay ek hl
    split at h
    · rename_i s hs
      simp only [Look.run, Option.some.injEq] at h
      subst h
      have hkind : x.one = true ∨ ∃ n c, x = .ag n c := by
        cases lay with
        | one z' => left; simp only [Lay.put] at hs; split at hs; assumption; cases hs
        | arr n z' => right; simp only [Lay.put] at hs; split at hs; exact ⟨_, _, rfl⟩; cases hs
        | st l => right; simp only [Lay.put] at hs; split at hs; exact ⟨_, _, rfl⟩; cases hs
      have hcr := CR_cells hkind hx
      rcases put_sound lay x s _ hs hcr with ⟨h3, h4⟩ | rfl
      · refine ⟨_, _, _, ?_, hb.newBk (P := P) (arr := vx.cells) rfl h4⟩
        simp [Instr.box, newVar_run]
      · rcases hkind with h0 | ⟨_, _, h0⟩
        · simp [AV.one] at h0
        · cases h0
    · exact (Look.run_no h).elim
  · exact (Look.run_no h).elim
end Go.Vc
set_option linter.unusedVariables false
set_option linter.unusedSimpArgs false
namespace Go.Vc
open Go Go.RowKit

/-- a slice value of n elements, e cells each, that are these -/
def SliceCells (w : World) (v : Value) (e n : Nat) (cs : List Value) : Prop :=
  ∃ ad cap, v = .slice ad n cap ∧ cs.length = n * e ∧ n ≤ cap ∧ (0 < n → ∃ a, ad = some a ∧ ∀ j x, cs[j]? = some x → w.cell? (a.add j) = some x)

theorem add_add_at (a : Addr) (i j : Nat) : (a.add i).add j = a.add (i + j) := by
  unfold Addr.add
  by_cases hi : i = 0 <;> by_cases hj : j = 0 <;> simp [hi, hj, Nat.add_assoc]

section
variable {m : Hd} {w : World}
theorem cut_isE {c d : AC} {a n e : Nat} (h : c.cutE real e a n = some d) : c.isE e = true ∧ c.cut real a n = some d := by
  unfold AC.cutE at h
  split at h
  · exact ⟨by assumption, h⟩
  · cases h
/-- a row as a slice of cells -/
theorem row_slice {T e n : Nat} {v : Value} {cs : List Value} (h : OwnRow w T e v n cs) : SliceCells w v e n cs := by
  have hl := h.1
  rcases h.2 with ⟨ad, rfl, rfl⟩ | ⟨g, o, cap, cur, fz, rfl, h1, h2, h3, h4, h5, h6, h7⟩
  · exact ⟨ad, 0, rfl, by omega, by omega, fun h => by omega⟩
  · refine ⟨_, cap, rfl, hl, h3, fun _ => ⟨_, rfl, ?_⟩⟩
    exact cells_at h1 (pre := cur.toList.take o) (mid := cs) (post := (cur.toList.drop o).drop (n * e)) (by rw [← h7, List.append_assoc, List.take_append_drop, List.take_append_drop]) (by
      have : cur.toList.length = cur.size := by simp
      rw [List.length_take]; omega)

theorem content_sound {me : Mem} {kb : Nat} (hb : Base m w me kb) {a : AV} {v : Value} {e0 : Nat} {K : AC → Look} {e : Eff} (hv : RV m w a v)
    (h : (withContent real a e0 K).run me = some e) (hc : e.c) :
    ∃ c cs e1, (K c).run me = some e1 ∧ e1.c ∧ e1.v = e.v ∧ e1.puts = e.puts ∧ RC m w c cs ∧ c.esz = some e0 ∧ 0 < e0 ∧ SliceCells w v e0 (c.len real) cs := by
  unfold withContent at h
  split at h
  · rename_i e' c
    split at h
    · rename_i hee he
      have hee := beq_nat hee
      subst hee
      obtain ⟨h1, h2⟩ := isE_spec he
      simp only [RV, CR] at hv
      obtain ⟨ad, n, cap, ds, h3, h4, h5, h6, h7⟩ := hv
      simp only [List.cons.injEq, and_true] at h3
      subst h3
      have hl := RC_len h1 h4
      have hn : n = c.len real := Nat.eq_of_mul_eq_mul_right h2 (h5.symm.trans hl)
      subst hn
      refine ⟨c, ds, e, h, hc, rfl, rfl, h4, h1, h2, ad, cap, rfl, h5, h6, fun hn => ?_⟩
      obtain ⟨a, ha, hs⟩ := h7 hn
      exact ⟨a, ha, hs.2⟩
    · exact (Look.run_no h).elim
  · rename_i k
    have h' := Look.run_look h
    clear h
    obtain ⟨ab, hab, h⟩ := h'
    split at h
    · rename_i T e' c
      split at h
      · rename_i hee he
        have hee := beq_nat hee
        subst hee
        obtain ⟨h1, h2⟩ := isE_spec he
        obtain ⟨v0, n, cs, h3, h4, h5⟩ := row_cells hb.mem hab
        simp only [RV, CR] at hv
        obtain ⟨v1, h6, h7, _⟩ := hv
        rw [h3] at h6; cases h6
        simp only [List.cons.injEq, and_true] at h7
        subst h7
        have hl := RC_len h1 h5
        have hn : n = c.len real := Nat.eq_of_mul_eq_mul_right h2 (h4.1.symm.trans hl)
        subst hn
        exact ⟨c, cs, e, h, hc, rfl, rfl, h5, h1, h2, row_slice h4⟩
      · exact (Look.run_no h).elim
    · exact (Look.run_no h).elim
  · rename_i k g o e' a n
    split at h
    · rename_i hee
      have hee := beq_nat hee
      subst hee
      have h' := Look.run_look h
      clear h
      obtain ⟨ab, hab, h⟩ := h'
      simp only [RV, CR] at hv
      obtain ⟨v0, ad, cap, h6, h7, h8, h9, h10⟩ := hv
      simp only [List.cons.injEq, and_true] at h7
      subst h7
      split at h
      · rename_i T e2 c
        split at h
        · rename_i he2
          have he2 := beq_nat he2
          subst he2
          split at h
          · rename_i d hd
            obtain ⟨e1, g1, rfl⟩ := Look.run_more h
            obtain ⟨he, hcut⟩ := cut_isE hd
            obtain ⟨h1, h2⟩ := isE_spec he
            obtain ⟨v1, n1, cs, h3, h4, h5⟩ := row_cells hb.mem hab
            rw [h3] at h6; cases h6
            have hle : a + n ≤ c.len real := hc.1
            obtain ⟨r1, r2, r3⟩ := RC_cut hcut h1 h5 hle
            have hlen := RC_len h1 h5
            have hmul : n * e0 + a * e0 ≤ c.len real * e0 := by rw [← Nat.add_mul]; exact Nat.mul_le_mul_right _ (by omega)
            subst r3
            refine ⟨d, _, e1, g1, hc.2, rfl, rfl, r1, r2, h2, ad, cap, rfl, by rw [List.length_take, List.length_drop]; omega, h8, fun hn => ?_⟩
            obtain ⟨gb, k1, k2⟩ := h9 (by omega)
            refine ⟨_, k2, fun j x hx => ?_⟩
            obtain ⟨g', o', cap', cur, fz, pre, rest, rfl, q1, q2, q3, q4, q5, q6, q7, q8⟩ := row_open h4 (i := a * e0) (by have := Nat.mul_pos hn h2; omega)
            rw [blk_slice q4] at k1
            simp only [Option.some.injEq] at k1
            subst k1
            have := cells_at q1 q7 q8 (a * e0 + j) x (by
              rw [List.getElem?_take] at hx
              split at hx
              · rw [List.getElem?_drop] at hx; exact hx
              · cases hx)
            rw [add_at] at this ⊢
            simp only [bof]
            rw [show o' + (0 + a * e0) + j = o' + (a * e0 + j) by omega]; exact this
          · exact (Look.run_no h).elim
        · exact (Look.run_no h).elim
      · rename_i T segs
        split at h
        · rename_i n0 c hs
          split at h
          · rename_i d hd
            obtain ⟨e1, g1, rfl⟩ := Look.run_more h
            obtain ⟨he, hcut⟩ := cut_isE hd
            obtain ⟨h1, h2⟩ := isE_spec he
            obtain ⟨gb, cs, fz, h3, h4, h4b, h5⟩ := bk_cells hb.mem hab
            rw [h3] at h6; cases h6
            obtain ⟨pre, mid, post, hcs, hpre, hmid, hrc⟩ := segAt_sound g o segs _ c cs.toList hs h5
            have hle : a + n ≤ c.len real := hc.1
            obtain ⟨r1, r2, r3⟩ := RC_cut hcut h1 hrc hle
            have hlen := RC_len h1 hrc
            subst r3
            refine ⟨d, _, e1, g1, hc.2, rfl, rfl, r1, r2, h2, ad, cap, rfl, by rw [List.length_take, List.length_drop]; omega, h8, fun hn => ?_⟩
            obtain ⟨gb', k1, k2⟩ := h9 (by omega)
            simp only [blk, Option.some.injEq] at k1
            subst k1
            refine ⟨_, k2, fun j x hx => ?_⟩
            have := cells_at h4 hcs hpre (a + j) x (by
              rw [List.getElem?_take] at hx
              split at hx
              · rw [List.getElem?_drop] at hx; simpa using hx
              · cases hx)
            rw [add_at] at this ⊢
            simp only [bof]
            rw [show 0 + (o + a * 1) + j = o + (a + j) by omega]; exact this
          · exact (Look.run_no h).elim
        · exact (Look.run_no h).elim
      · exact (Look.run_no h).elim
    · exact (Look.run_no h).elim
  · exact (Look.run_no h).elim

theorem run_lenOf {P : Program} {v : Value} {e n : Nat} {cs : List Value} (h : SliceCells w v e n cs) (w' : World) : (Builtin.lenOf v).run P w' = .ok n w' := by
  obtain ⟨ad, cap, rfl, h1, _⟩ := h
  simp [Builtin.lenOf]
theorem run_firstOf {P : Program} {v : Value} {e n : Nat} {cs : List Value} (h : SliceCells w v e n cs) {k : Nat} (hk : k ≤ n) (w' : World) (hw : w'.heap = w.heap) :
    (Builtin.firstCells e k v).run P w' = .ok (cs.take (k * e)).toArray w' := by
  obtain ⟨ad, cap, rfl, h1, h2, h3⟩ := h
  have hm : k * e ≤ n * e := Nat.mul_le_mul_right _ hk
  by_cases hn : 0 < n
  · obtain ⟨a, rfl, hc⟩ := h3 hn
    exact run_firstCells_some w' e k a n cap (cs.take (k * e)) (by rw [List.length_take]; omega) (fun j x hx => by
      have : w'.cell? (a.add j) = w.cell? (a.add j) := by simp [World.cell?, hw]
      rw [this]
      rw [List.getElem?_take] at hx
      split at hx
      · exact hc j x hx
      · cases hx)
  · have hk0 : k = 0 := by omega
    subst hk0
    cases ad with
    | none => simp [Builtin.firstCells]
    | some a => simpa using run_firstCells_some (P := P) w' e 0 a n cap [] (by simp) (by simp)
end

/-! ## append -/
/-- what is appended: its number and its cells, in this world and behind a draw -/
structure Src (P : Program) (w : World) (x : Value) (e n : Nat) (news : List Value) : Prop where
  len : ∀ w', (Builtin.lenOf x).run P w' = .ok n w'
  first : ∀ w', w'.heap = w.heap → (Builtin.firstCells e n x).run P w' = .ok news.toArray w'
  size : news.length = n * e
  one : ∀ v ∈ news, v.oneCell' = true
theorem Src.of_slice {P : Program} {w : World} {v : Value} {e n : Nat} {cs : List Value} (h : SliceCells w v e n cs) (h1 : ∀ v ∈ cs, v.oneCell' = true) : Src P w v e n cs := by
  have hl : cs.length = n * e := by obtain ⟨_, _, _, h, _⟩ := h; exact h
  exact ⟨fun w' => run_lenOf h w', fun w' hw => by have := run_firstOf (P := P) h (Nat.le_refl _) w' hw; rwa [← hl, List.take_length] at this, hl, h1⟩
theorem Src.of_string {P : Program} (w : World) (xs : List UInt8) : Src P w (.string ⟨xs.toArray⟩) 1 xs.length (xs.map E8) := by
  refine ⟨fun w' => by simp [Builtin.lenOf, ByteArray.size], fun w' _ => ?_, by simp, fun v hv => by obtain ⟨x, _, rfl⟩ := List.mem_map.1 hv; rfl⟩
  simp only [Builtin.firstCells, Sem.run_pure]
  congr 1
  have : (⟨xs.toArray⟩ : ByteArray).extract 0 xs.length = ⟨xs.toArray⟩ := by
    apply ByteArray.ext
    simp
  rw [this]
  simp
theorem Src.of_nil {P : Program} (w : World) (e : Nat) (ad : Option Addr) : Src P w (.slice ad 0 0) e 0 [] :=
  ⟨fun w' => by simp [Builtin.lenOf], fun w' _ => by
    cases ad with
    | none => simp [Builtin.firstCells]
    | some a => simpa using run_firstCells_some (P := P) w' e 0 a 0 0 [] (by simp) (by simp), by simp, by simp⟩

theorem zeroCells_size (z : Array Value) (n : Nat) : (Builtin.zeroCells z n).size = n * z.size := by simp [Builtin.zeroCells]

/-- what an append has come to -/
def Appended (w w' : World) (v v' : Value) (need : Nat) : Prop :=
  (∃ c, capOf v = some c ∧ need ≤ c ∧ w'.heap.size = w.heap.size ∧ blk v' = blk v ∧ ∀ b, blk v ≠ some b → w'.heap[b]? = w.heap[b]?) ∨
  (∃ c, capOf v = some c ∧ c < need ∧ w'.heap.size = w.heap.size + 1 ∧ blk v' = some w.heap.size ∧ ∀ b, b < w.heap.size → w'.heap[b]? = w.heap[b]?)

theorem run_append_row {P : Program} {w : World} {t t2 te e : Nat} {ty : Nat} {i : TypeInfo} {z : Value} {d2 : TypeDesc} (ht : P.underlying t = some (.slice te)) (ht2 : P.underlying t2 = some d2)
    (hd2 : (∃ e2, d2 = .slice e2) ∨ d2 = .string) (hi : P.info? te = some i) (hsize : i.size = e) (hz : i.zero = some z) (hzc : z.cells.size = e)
    {v x : Value} {n m : Nat} {cs news : List Value} (ho : OwnRow w te e v n cs) (hs : Src P w x e m news) (hcap : (n + m) * i.bytes ≤ 140737488355328) (hmax : n + m ≤ 4611686018427387904) :
    ∃ v' w', (Builtin.append_ #[t, t2] ty #[v, x]).run P w = .ok v' w' ∧ OwnRow w' te e v' (n + m) (cs ++ news) ∧ v'.oneCell' = true ∧ Appended w w' v v' (n + m) ∧ w'.os = w.os ∧ w'.tape = w.tape ∧ w'.output = w.output := by
  have hl := ho.1
  have hnl := hs.size
  have hlen : (cs ++ news).length = (n + m) * e := by rw [List.length_append, hl, hnl, Nat.add_mul]
  have hu := run_underlying ht
  have hu2 := run_underlying ht2
  have grow : ∀ (old : Nat), old < n + m → n ≤ old → (base : Option Addr) → v = .slice base n old → (∀ w', w'.heap = w.heap → (Builtin.firstCells e n v).run P w' = .ok cs.toArray w') →
      ∃ v' w', (Builtin.append_ #[t, t2] ty #[v, x]).run P w = .ok v' w' ∧ OwnRow w' te e v' (n + m) (cs ++ news) ∧ v'.oneCell' = true ∧ Appended w w' v v' (n + m) ∧ w'.os = w.os ∧ w'.tape = w.tape ∧ w'.output = w.output := by
    intro old hold hno base hv hf
    have hn : ¬ (n + m ≤ old) := by omega
    have h63' : ¬ (9223372036854775807 < ((n : Int) + (m : Int))) := by omega
    have h48' : ¬ (281474976710656 < Builtin.nextslicecap (n + m) old * i.bytes) := by
      have := growslice_fits (bytes := i.bytes) hold hcap; omega
    have hge := grownCap_ge w (n + m) old te
    have hcm : grownCap w (n + m) old te ≤ maxLen := grownCap_le_maxLen w _ old te (by unfold maxLen; omega)
    refine ⟨.slice (some ⟨w.heap.size, 0, none⟩) (n + m) (grownCap w (n + m) old te),
      w.drew.alloc (.cells (cs.toArray ++ news.toArray ++ Builtin.zeroCells z.cells (grownCap w (n + m) old te - (n + m))) te), ?_, ?_, rfl, .inr ⟨old, by rw [hv]; rfl, hold, by simp, blk_slice (by omega), fun b hb => Below.heap_alloc w.drew _ b hb⟩, rfl, rfl, rfl⟩
    · have hf0 := hf w.drew rfl
      have hs0 := hs.first w.drew rfl
      rw [hv] at hf0 ⊢
      rcases hd2 with ⟨e2, rfl⟩ | rfl <;> simp [Builtin.append_, hu, hu2, sizeOf, typeInfo, zeroValue, hi, hz, hsize, hs.len, hn, h63', h48', Question.forced, hf0, hs0, newRow, grownCap]
      all_goals (congr 2; apply Array.ext'; simp [List.append_assoc])
    · refine ⟨hlen, .inr ⟨w.heap.size, 0, _, _, (0, 0), rfl, heap_alloc_new w.drew _, thawed_none _, hge, by omega, hcm, ?_, ?_⟩⟩
      · simp only [Array.size_append, List.size_toArray, zeroCells_size, hl, hnl, hzc, Nat.zero_add]
        rw [← Nat.add_mul, ← Nat.add_mul]
        exact Nat.le_of_eq (by congr 1; omega)
      · simp only [Array.toList_append, List.append_assoc, List.drop_zero]
        rw [← List.append_assoc, ← hlen]
        exact List.take_left
  rcases ho.2 with ⟨ad, rfl, rfl⟩ | ⟨g, o, cap, cur, fz, rfl, h1, h2, h3, h4, h5, h6, h7⟩
  · have hcs : cs = [] := List.eq_nil_of_length_eq_zero (by omega)
    subst hcs
    by_cases hm : m = 0
    · subst hm
      have hnw : news = [] := List.eq_nil_of_length_eq_zero (by omega)
      subst hnw
      refine ⟨.slice ad 0 0, w, ?_, ⟨by simp, .inl ⟨ad, rfl, by simp⟩⟩, rfl, .inl ⟨0, rfl, by omega, rfl, rfl, fun _ _ => rfl⟩, rfl, rfl, rfl⟩
      have hs0 := hs.first w rfl
      have hs1 := hs.len
      rcases hd2 with ⟨e2, rfl⟩ | rfl <;> cases ad <;> simp [Builtin.append_, hu, hu2, sizeOf, typeInfo, hi, hsize, hs1, hs0, storeCells]
    · exact grow 0 (by omega) (by omega) ad rfl (fun w' _ => (Src.of_nil w e ad).first w' (by assumption))
  · have hcell := (row_slice ⟨hl, .inr ⟨g, o, cap, cur, fz, rfl, h1, h2, h3, h4, h5, h6, h7⟩⟩ : SliceCells w _ e n cs)
    by_cases hroom : n + m ≤ cap
    · have hmul : n * e + m * e ≤ cap * e := by rw [← Nat.add_mul]; exact Nat.mul_le_mul_right _ hroom
      obtain ⟨q1, q2, q3, q4, q5, q6⟩ := setCells_block news (o + n * e) w cur h1 (by omega)
      refine ⟨.slice (some ⟨g, o, none⟩) (n + m) cap, w.setCells g (o + n * e) news, ?_, ⟨hlen, .inr ⟨g, o, cap, _, fz, rfl, q1, ?_, hroom, h4, h5, ?_, ?_⟩⟩, rfl, .inl ⟨cap, rfl, hroom, q2, by rw [blk_slice h4, blk_slice h4], fun b hb => q3 b (fun e => hb (by rw [e, blk_slice h4]))⟩, q4, q5, q6⟩
      · have hst := run_storeCells_block (P := P) (o := o + n * e) h1 h2 (by omega) hs.one
        have hs0 := hs.first w rfl
        have hadd : (⟨g, o, none⟩ : Addr).add (n * e) = ⟨g, o + n * e, none⟩ := by rw [add_at]
        rcases hd2 with ⟨e2, rfl⟩ | rfl <;> simp [Builtin.append_, hu, hu2, sizeOf, typeInfo, hi, hsize, hs.len, hroom, hs0, hst, hadd]
      · refine h2.len ?_; simp; omega
      · simp; omega
      · show List.take ((n + m) * e) (List.drop o (cur.toList.take (o + n * e) ++ news ++ cur.toList.drop (o + n * e + news.length))) = _
        have hcz : cur.toList.length = cur.size := by simp
        have e1 : List.drop o (cur.toList.take (o + n * e)) = cs := by
          rw [List.drop_take, ← h7]; congr 1; omega
        rw [List.append_assoc, List.drop_append_of_le_length (by rw [List.length_take]; omega), e1, ← List.append_assoc, ← hlen]
        exact List.take_left
    · exact grow cap (by omega) h3 (some ⟨g, o, none⟩) rfl (fun w' hw => by
        have := run_firstOf (P := P) hcell (Nat.le_refl _) w' hw
        rwa [← hl, List.take_length] at this)

/-- so many noughts -/
theorem run_append_zeros {P : Program} {w : World} {t t2 te e : Nat} {ty : Nat} {i : TypeInfo} {z : Value} {kk k0 : IntKind} (ht : P.underlying t = some (.slice te)) (ht2 : P.underlying t2 = some (.int kk))
    (hi : P.info? te = some i) (hsize : i.size = e) (hz : i.zero = some z) (hzc : z.cells.size = e) (hz1 : ∀ v ∈ z.cells.toList, v.oneCell' = true)
    {v : Value} {n m : Nat} {cs news : List Value} (hm1 : m ≤ 4611686018427387904) (hm2 : m * i.bytes ≤ 281474976710656) (hnews : news.toArray = Builtin.zeroCells z.cells m)
    (ho : OwnRow w te e v n cs) (hcap : (n + m) * i.bytes ≤ 140737488355328) (hmax : n + m ≤ 4611686018427387904) :
    ∃ v' w', (Builtin.append_ #[t, t2] ty #[v, .int k0 (m : Int)]).run P w = .ok v' w' ∧ OwnRow w' te e v' (n + m) (cs ++ news) ∧ v'.oneCell' = true ∧ Appended w w' v v' (n + m) ∧ w'.os = w.os ∧ w'.tape = w.tape ∧ w'.output = w.output := by
  have hl := ho.1
  have hnl : news.length = m * e := by
    have := congrArg Array.size hnews
    simpa [zeroCells_size, hzc] using this
  have hlen : (cs ++ news).length = (n + m) * e := by rw [List.length_append, hl, hnl, Nat.add_mul]
  have hnone : ∀ v ∈ news, v.oneCell' = true := by
    intro v hv
    have hv' : v ∈ (Builtin.zeroCells z.cells m).toList := by rw [← hnews]; simpa using hv
    simp only [Builtin.zeroCells, Array.toList_map, List.mem_map] at hv'
    obtain ⟨j, hj, rfl⟩ := hv'
    have hpos : 0 < z.cells.size := by
      simp only [Array.toList_range, List.mem_range] at hj
      rcases Nat.eq_zero_or_pos z.cells.size with h | h
      · rw [h] at hj; simp at hj
      · exact h
    have hlt : j % z.cells.size < z.cells.size := Nat.mod_lt _ hpos
    rw [getElem!_pos z.cells _ hlt]
    exact hz1 _ (by simp)
  have hu := run_underlying ht
  have hu2 := run_underlying ht2
  have hw : IntKind.i64.wrap (m : Int) = (m : Int) := IntWalk.i64_in _ (by omega)
  have hneg : ¬ ((m : Int) < 0) := by omega
  have h48 : ¬ (281474976710656 < (m : Int) * (i.bytes : Int)) := by
    have : ((m * i.bytes : Nat) : Int) ≤ 281474976710656 := by omega
    rw [Int.natCast_mul] at this
    omega
  have happ : ∀ w' : World, ((if m * e = 0 then pure #[] else pure (Builtin.zeroCells z.cells m) : Sem (Array Value))).run P w' = .ok news.toArray w' := by
    intro w'
    by_cases h0 : m * e = 0
    · rw [if_pos h0]
      have : news = [] := List.eq_nil_of_length_eq_zero (by omega)
      rw [this]; rfl
    · rw [if_neg h0, hnews]; rfl
  have grow : ∀ (old : Nat), old < n + m → n ≤ old → (base : Option Addr) → v = .slice base n old → (∀ w', w'.heap = w.heap → (Builtin.firstCells e n v).run P w' = .ok cs.toArray w') →
      ∃ v' w', (Builtin.append_ #[t, t2] ty #[v, .int k0 m]).run P w = .ok v' w' ∧ OwnRow w' te e v' (n + m) (cs ++ news) ∧ v'.oneCell' = true ∧ Appended w w' v v' (n + m) ∧ w'.os = w.os ∧ w'.tape = w.tape ∧ w'.output = w.output := by
    intro old hold hno base hv hf
    have hn : ¬ (n + m ≤ old) := by omega
    have h63' : ¬ (9223372036854775807 < ((n : Int) + (m : Int))) := by omega
    have h48' : ¬ (281474976710656 < Builtin.nextslicecap (n + m) old * i.bytes) := by
      have := growslice_fits (bytes := i.bytes) hold hcap; omega
    have hge := grownCap_ge w (n + m) old te
    have hcm : grownCap w (n + m) old te ≤ maxLen := grownCap_le_maxLen w _ old te (by unfold maxLen; omega)
    refine ⟨.slice (some ⟨w.heap.size, 0, none⟩) (n + m) (grownCap w (n + m) old te),
      w.drew.alloc (.cells (cs.toArray ++ news.toArray ++ Builtin.zeroCells z.cells (grownCap w (n + m) old te - (n + m))) te), ?_, ?_, rfl, .inr ⟨old, by rw [hv]; rfl, hold, by simp, blk_slice (by omega), fun b hb => Below.heap_alloc w.drew _ b hb⟩, rfl, rfl, rfl⟩
    · have hf0 := hf w.drew rfl
      have happ0 := happ w.drew
      rw [hv] at hf0 ⊢
      simp [Builtin.append_, hu, hu2, sizeOf, typeInfo, zeroValue, hi, hz, hsize, asInt, asIntOf, hw, hneg, h48, hn, h63', h48', Question.forced, hf0, newRow, grownCap]
      split
      · have hn0 : news = [] := List.eq_nil_of_length_eq_zero (by omega)
        rw [hn0]; simp
      · rw [← hnews]
        congr 3
        apply Array.ext'
        simp
    · refine ⟨hlen, .inr ⟨w.heap.size, 0, _, _, (0, 0), rfl, heap_alloc_new w.drew _, thawed_none _, hge, by omega, hcm, ?_, ?_⟩⟩
      · simp only [Array.size_append, List.size_toArray, zeroCells_size, hl, hnl, hzc, Nat.zero_add]
        rw [← Nat.add_mul, ← Nat.add_mul]
        exact Nat.le_of_eq (by congr 1; omega)
      · simp only [Array.toList_append, List.append_assoc, List.drop_zero]
        rw [← List.append_assoc, ← hlen]
        exact List.take_left
  rcases ho.2 with ⟨ad, rfl, rfl⟩ | ⟨g, o, cap, cur, fz, rfl, h1, h2, h3, h4, h5, h6, h7⟩
  · have hcs : cs = [] := List.eq_nil_of_length_eq_zero (by omega)
    subst hcs
    by_cases hm : m = 0
    · subst hm
      have hnw : news = [] := List.eq_nil_of_length_eq_zero (by omega)
      subst hnw
      refine ⟨.slice ad 0 0, w, ?_, ⟨by simp, .inl ⟨ad, rfl, by simp⟩⟩, rfl, .inl ⟨0, rfl, by omega, rfl, rfl, fun _ _ => rfl⟩, rfl, rfl, rfl⟩
      have hw0 : IntKind.i64.wrap 0 = 0 := rfl
      cases ad <;> simp [Builtin.append_, hu, hu2, sizeOf, typeInfo, hi, hsize, asInt, asIntOf, hw0, storeCells]
    · exact grow 0 (by omega) (by omega) ad rfl (fun w' _ => (Src.of_nil w e ad).first w' (by assumption))
  · have hcell := (row_slice ⟨hl, .inr ⟨g, o, cap, cur, fz, rfl, h1, h2, h3, h4, h5, h6, h7⟩⟩ : SliceCells w _ e n cs)
    by_cases hroom : n + m ≤ cap
    · have hmul : n * e + m * e ≤ cap * e := by rw [← Nat.add_mul]; exact Nat.mul_le_mul_right _ hroom
      obtain ⟨q1, q2, q3, q4, q5, q6⟩ := setCells_block news (o + n * e) w cur h1 (by omega)
      refine ⟨.slice (some ⟨g, o, none⟩) (n + m) cap, w.setCells g (o + n * e) news, ?_, ⟨hlen, .inr ⟨g, o, cap, _, fz, rfl, q1, ?_, hroom, h4, h5, ?_, ?_⟩⟩, rfl, .inl ⟨cap, rfl, hroom, q2, by rw [blk_slice h4, blk_slice h4], fun b hb => q3 b (fun e => hb (by rw [e, blk_slice h4]))⟩, q4, q5, q6⟩
      · have hst := run_storeCells_block (P := P) (o := o + n * e) h1 h2 (by omega) hnone
        have happ0 := happ w
        have hadd : (⟨g, o, none⟩ : Addr).add (n * e) = ⟨g, o + n * e, none⟩ := by rw [add_at]
        simp [Builtin.append_, hu, hu2, sizeOf, typeInfo, zeroValue, hi, hz, hsize, asInt, asIntOf, hw, hneg, h48, hroom]
        split
        · have hn0 : news = [] := List.eq_nil_of_length_eq_zero (by omega)
          rw [hn0]; simp [storeCells, World.setCells]
        · rw [← hnews, hadd]
          simp [hst]
      · refine h2.len ?_; simp; omega
      · simp; omega
      · show List.take ((n + m) * e) (List.drop o (cur.toList.take (o + n * e) ++ news ++ cur.toList.drop (o + n * e + news.length))) = _
        have hcz : cur.toList.length = cur.size := by simp
        have e1 : List.drop o (cur.toList.take (o + n * e)) = cs := by
          rw [List.drop_take, ← h7]; congr 1; omega
        rw [List.append_assoc, List.drop_append_of_le_length (by rw [List.length_take]; omega), e1, ← List.append_assoc, ← hlen]
        exact List.take_left
    · exact grow cap (by omega) h3 (some ⟨g, o, none⟩) rfl (fun w' hw => by
        have := run_firstOf (P := P) hcell (Nat.le_refl _) w' hw
        rwa [← hl, List.take_length] at this)
end Go.Vc
set_option linter.unusedVariables false
set_option linter.unusedSimpArgs false
namespace Go.Vc
open Go Go.RowKit

section
variable {P : Program} {tt : TT} {m : Hd} {w : World} {me : Mem} {kb : Nat}

/-- a new row under a new name -/
theorem own_lt {w : World} {T e n : Nat} {v : Value} {cs : List Value} (ho : OwnRow w T e v n cs) : ∀ b, blk v = some b → b < w.heap.size := by
  intro b hbl
  rcases ho.2 with ⟨ad, rfl, _⟩ | ⟨g, o, cap, cur, fz, rfl, h2, _, _, h4, _⟩
  · rw [blk_slice0] at hbl; cases hbl
  · rw [blk_slice h4] at hbl
    simp only [Option.some.injEq] at hbl
    subst hbl
    exact (Array.getElem?_eq_some_iff.1 h2).1
theorem own_clip {w : World} {T e n : Nat} {v : Value} {cs : List Value} (ho : OwnRow w T e v n cs) : OwnRow w T e (clipV v) n cs ∧ capOf (clipV v) = some n ∧ ∀ b, blk (clipV v) = some b → blk v = some b := by
  rcases ho.2 with ⟨ad, rfl, rfl⟩ | ⟨g, o, cap, cur, fz, rfl, h1, h2, h3, h4, h5, h6, h7⟩
  · exact ⟨ho, rfl, fun _ h => h⟩
  · refine ⟨⟨ho.1, ?_⟩, rfl, fun b hb => ?_⟩
    · by_cases h0 : n = 0
      · subst h0; exact .inl ⟨_, rfl, rfl⟩
      · refine .inr ⟨g, o, n, cur, fz, rfl, h1, h2, Nat.le_refl _, by omega, by omega, ?_, h7⟩
        have : n * e ≤ cap * e := Nat.mul_le_mul_right _ h3
        omega
    · simp only [clipV] at hb
      by_cases h0 : n = 0
      · subst h0; rw [blk_slice0] at hb; cases hb
      · rw [blk_slice (by omega)] at hb; rw [blk_slice h4]; exact hb
theorem Base.newRow (hb : Base m w me kb) {w' : World} {T e n : Nat} {v : Value} {c : AC} {cs : List Value} (ho : OwnRow w' T e v n cs) (hrc : RC m w c cs) (h1 : v.oneCell' = true)
    (hs : w.heap.size ≤ w'.heap.size) (hv : ∀ b, blk v = some b → w.heap.size ≤ b) (hold : ∀ b, b < w.heap.size → w'.heap[b]? = w.heap[b]?)
    (os : w'.os = w.os) (tape : w'.tape = w.tape) (output : w'.output = w.output) : OkE m w me kb (.rw kb) [(kb, .row T e c)] v (hput m kb v) w' := by
  have hk := hb.fresh kb (Nat.le_refl _) (by omega)
  have htr := tr_new (v := v) hk hs hv hold os tape output
  refine hb.new hs hv (own_lt ho) hold os tape output ⟨v, n, cs, by simp [hput_apply], ho, RC_mono htr.pres _ _ hrc⟩ ?_
  simp only [RV, CR]
  exact ⟨v, by simp [hput_apply], rfl, h1⟩
/-- a row that takes the place of another -/
theorem Base.replRow (hb : Base m w me kb) {w' : World} {k te e e0 T0 n' : Nat} {c0 c : AC} {v0 vs v' : Value} {cs : List Value} {need : Nat} (hab : mlook me k = some (.row T0 e0 c0)) (h2 : m k = some v0) (hvs : ∀ b, blk vs = some b → blk v0 = some b)
    (ha : Appended w w' vs v' need) (ho : OwnRow w' te e v' n' cs) (g3 : v'.oneCell' = true) (r1 : RC m w c cs) (g5 : w'.os = w.os) (g6 : w'.tape = w.tape) (g7 : w'.output = w.output) :
    OkE m w me kb (.rw kb) [(kb, .row te e c), (k, .dead)] v' (hput m kb v') w' := by
  have hk := hb.fresh kb (Nat.le_refl _) (by omega)
  have hne : kb ≠ k := fun e => by rw [← e, hk] at h2; cases h2
  have hnew : ∀ b, blk v' = some b → blk v0 = some b ∨ w.heap.size ≤ b := by
    intro b hbb
    rcases ha with ⟨_, _, _, _, q2, _⟩ | ⟨_, _, _, _, q2, _⟩
    · rw [q2] at hbb; exact .inl (hvs b hbb)
    · rw [q2] at hbb; cases hbb; exact .inr (Nat.le_refl _)
  have hsize : w.heap.size ≤ w'.heap.size := by rcases ha with ⟨_, _, _, h1, _⟩ | ⟨_, _, _, h1, _⟩ <;> omega
  have hold : ∀ b, b < w.heap.size → blk v0 ≠ some b → w'.heap[b]? = w.heap[b]? := by
    rcases ha with ⟨_, _, _, _, _, q3⟩ | ⟨_, _, _, _, _, q3⟩
    · exact fun b _ hb2 => q3 b (fun e => hb2 (hvs b e))
    · exact fun b hb1 _ => q3 b hb1
  have hlt := own_lt ho
  have htr : Tr m w (hput m kb v') w' := by
    refine ⟨fun t u htu => ?_, rfl, fun _ h => h, fun _ h => .inl h, hsize, fun b hb1 hb2 => hold b hb1 (fun e => hb2.elim (fun hp => hb.mem.live k _ v0 b hab rfl h2 e hp) (fun h => h k v0 h2 e)), fun t u b htu hub => ?_, g5, g6, g7⟩
    · rw [hput_apply]; rw [if_neg (fun e => by rw [e, hk] at htu; cases htu)]; exact htu
    · rw [hput_apply] at htu
      split at htu
      · cases htu
        rcases hnew b hub with q | q
        · exact .inl ⟨k, v0, h2, q⟩
        · exact .inr q
      · exact .inl ⟨t, u, htu, hub⟩
  refine ⟨htr, ?_, ⟨fun t a ha => ?_, fun t t' a a' u u' b ha ha' hla hla' hnn hu hu' hbb hbb' => ?_, fun b hpb => Nat.lt_of_lt_of_le (hb.mem.pubs b hpb) hsize, fun t a u b ha hla hu hbb hpb => ?_, fun t a u b ha hla hu hbb => ?_, fun b hb' => hb.mem.okn b (Nat.le_trans hsize hb')⟩, fun t ht' => ?_, fun t u b htu hub => ?_⟩
  · simp only [RV, CR]; exact ⟨v', by simp [hput_apply], rfl, g3⟩
  · simp only [mputs, mlook_cons] at ha
    split at ha
    · rename_i e; subst e; cases ha
      exact ⟨v', _, _, by simp [hput_apply], ho, RC_mono htr.pres _ _ r1⟩
    · split at ha
      · cases ha; trivial
      · rename_i e1 e2
        cases hla : a.live with
        | false => cases a <;> simp [AB.live] at hla; trivial
        | true =>
          refine ABR_keep (hb.mem.at_ t a ha) (htr.mu t) (fun u b hu hbu => hold b (hb.bd t u b hu hbu) (fun e3 => ?_)) htr.pres
          exact hb.mem.apart k t _ a v0 u b hab ha rfl hla e2 h2 hu e3 hbu
  · simp only [mputs, mlook_cons] at ha ha'
    by_cases e1 : kb = t
    · subst e1
      rw [if_pos rfl] at ha
      rw [if_neg hnn] at ha'
      rw [hput_apply] at hu hu'
      rw [if_pos rfl] at hu
      rw [if_neg (fun e => hnn e.symm)] at hu'
      cases hu
      by_cases e2 : k = t'
      · subst e2; rw [if_pos rfl] at ha'; cases ha'; simp [AB.live] at hla'
      · rw [if_neg e2] at ha'
        rcases hnew b hbb with q | q
        · exact hb.mem.apart k t' _ a' v0 u' b hab ha' rfl hla' e2 h2 hu' q hbb'
        · have := hb.bd t' u' b hu' hbb'; omega
    · rw [if_neg e1] at ha
      rw [hput_apply] at hu hu'
      rw [if_neg (fun e => e1 e.symm)] at hu
      by_cases e2 : k = t
      · subst e2; rw [if_pos rfl] at ha; cases ha; simp [AB.live] at hla
      · rw [if_neg e2] at ha
        by_cases e3 : kb = t'
        · subst e3
          rw [if_pos rfl] at hu'
          cases hu'
          rcases hnew b hbb' with q | q
          · exact hb.mem.apart k t _ a v0 u b hab ha rfl hla e2 h2 hu q hbb
          · have := hb.bd t u b hu hbb; omega
        · rw [if_neg e3] at ha'
          rw [if_neg (fun e => e3 e.symm)] at hu'
          by_cases e4 : k = t'
          · subst e4; rw [if_pos rfl] at ha'; cases ha'; simp [AB.live] at hla'
          · rw [if_neg e4] at ha'
            exact hb.mem.apart t t' a a' u u' b ha ha' hla hla' hnn hu hu' hbb hbb'
  · simp only [mputs, mlook_cons] at ha
    rw [hput_apply] at hu
    by_cases e1 : kb = t
    · subst e1
      rw [if_pos rfl] at hu
      cases hu
      rcases hnew b hbb with q | q
      · exact hb.mem.live k _ v0 b hab rfl h2 q hpb
      · have h9 : b < w.heap.size := hb.mem.pubs b hpb
        omega
    · rw [if_neg e1] at ha
      rw [if_neg (fun e => e1 e.symm)] at hu
      split at ha
      · cases ha; cases hla
      · exact hb.mem.live t a u b ha hla hu hbb hpb
  · simp only [mputs, mlook_cons] at ha
    rw [hput_apply] at hu
    by_cases e1 : kb = t
    · subst e1
      rw [if_pos rfl] at hu
      cases hu
      rcases hnew b hbb with q | q
      · exact hb.mem.okl k _ v0 b hab rfl h2 q
      · exact hb.mem.okn b q
    · rw [if_neg e1] at ha
      rw [if_neg (fun e => e1 e.symm)] at hu
      split at ha
      · cases ha; cases hla
      · exact hb.mem.okl t a u b ha hla hu hbb
  · rw [hput_apply] at ht'
    split at ht'
    · rename_i e; exact .inr ⟨by omega, by omega⟩
    · exact .inl ht'
  · rw [hput_apply] at htu
    split at htu
    · cases htu; exact hlt b hub
    · have := hb.bd t u b htu hub; omega

theorem some1_pos {c : AC} (h : c.some1 = true) : 0 < c.len real := by
  unfold AC.some1 at h
  split at h
  · rename_i sh a r
    show 0 < (a :: r).length
    exact Nat.succ_pos _
  · cases h
theorem append_core (hb : Base m w me kb) {te es by_ mm : Nat} {s : AV} {vs : Value} {d : AC} {news : List Value} {e : Eff} {R : Value → Value → World → Prop}
    (hrun : ∀ (v : Value) (n : Nat) (cs : List Value), OwnRow w te es v n cs → (n + mm) * by_ ≤ 140737488355328 → n + mm ≤ 4611686018427387904 →
      ∃ v' w', R v v' w' ∧ OwnRow w' te es v' (n + mm) (cs ++ news) ∧ v'.oneCell' = true ∧ Appended w w' v v' (n + mm) ∧ w'.os = w.os ∧ w'.tape = w.tape ∧ w'.output = w.output)
    (hs : RV m w s vs) (hd : RC m w d news) (hmm : d.len real = mm) (hc : e.c) (h : (appendK real kb te es by_ s d).run me = some e) :
    ∃ v m' w', R vs v w' ∧ OkE m w me kb e.v e.puts v m' w' := by
  have onto0 : ∀ ad, vs = .slice ad 0 0 → real.pCap (d.len real) by_ → ∃ v m' w', R vs v w' ∧ OkE m w me kb (.rw kb) [(kb, .row te es d)] v m' w' := by
    rintro ad rfl hc
    have hc1 : d.len real * by_ ≤ 140737488355328 := hc.1
    have hc2 : d.len real ≤ 4611686018427387904 := hc.2
    obtain ⟨v', w', g1, g2, g3, g4, g5, g6, g7⟩ := hrun (.slice ad 0 0) 0 [] ⟨by simp, .inl ⟨ad, rfl, rfl⟩⟩ (by rw [Nat.zero_add, ← hmm]; exact hc1) (by omega)
    rw [List.nil_append] at g2
    refine ⟨v', _, w', g1, hb.newRow g2 hd g3 ?_ ?_ ?_ g5 g6 g7⟩
    · rcases g4 with ⟨_, _, _, h1, _⟩ | ⟨_, _, _, h1, _⟩ <;> omega
    · intro b hbb
      rcases g4 with ⟨_, _, _, _, h2, _⟩ | ⟨_, _, _, _, h2, _⟩
      · rw [h2, blk_slice0] at hbb; cases hbb
      · rw [h2] at hbb; cases hbb; omega
    · rcases g4 with ⟨_, _, _, _, _, h3⟩ | ⟨_, _, _, _, _, h3⟩
      · exact fun b _ => h3 b (by rw [blk_slice0]; exact fun h => by cases h)
      · exact h3
  unfold appendK at h
  split at h
  · -- onto nil
    split at h
    · simp only [Look.run, Option.some.injEq] at h
      subst h
      simp only [RV, CR, List.cons.injEq, and_true] at hs
      exact onto0 none hs hc
    · exact (Look.run_no h).elim
  · split at h
    · simp only [Look.run, Option.some.injEq] at h
      subst h
      simp only [RV, CR, List.cons.injEq, and_true] at hs
      obtain ⟨ad, hs⟩ := hs
      exact onto0 ad hs hc
    · exact (Look.run_no h).elim
  · -- onto a clipped row
    rename_i k
    have h' := Look.run_look h
    clear h
    obtain ⟨ab, hab, h⟩ := h'
    split at h
    · rename_i te' e2 c
      split at h
      · rename_i e1 e2 e3 e4
        have e1 := beq_nat e1
        have e2 := beq_nat e2
        subst e1; subst e2
        obtain ⟨f1, f2⟩ := isE_spec e4
        obtain ⟨v0, n, cs, h2, h3, h4⟩ := row_cells hb.mem hab
        simp only [RV, CR] at hs
        obtain ⟨v1, h5, h6, h6b⟩ := hs
        rw [h2] at h5; cases h5
        simp only [List.cons.injEq, and_true] at h6
        subst h6
        have hcl := RC_len f1 h4
        have hn : n = c.len real := Nat.eq_of_mul_eq_mul_right f2 (h3.1.symm.trans hcl)
        obtain ⟨o1, o2, o3⟩ := own_clip h3
        split at h
        · rename_i c' happ hsome
          simp only [Look.run, Option.some.injEq] at h
          subst h
          obtain ⟨r1, _⟩ := RC_app happ h4 hd
          have hc1 : (c.len real + d.len real) * by_ ≤ 140737488355328 := hc.1.1
          have hc2 : c.len real + d.len real ≤ 4611686018427387904 := hc.1.2
          have hpos := some1_pos hsome
          obtain ⟨v', w', g1, g2, g3, g4, g5, g6, g7⟩ := hrun _ n cs o1 (by rw [hn, ← hmm]; exact hc1) (by omega)
          rcases g4 with ⟨cc, q1, q2, _⟩ | ⟨cc, q1, q2, q3, q4, q5⟩
          · rw [o2] at q1; cases q1; omega
          · exact ⟨v', _, w', g1, hb.newRow g2 r1 g3 (by omega) (fun b hbb => by rw [q4] at hbb; cases hbb; omega) q5 g5 g6 g7⟩
        · rename_i c' happ hsome
          simp only [Look.run, Option.some.injEq] at h
          subst h
          obtain ⟨r1, _⟩ := RC_app happ h4 hd
          have hc1 : (c.len real + d.len real) * by_ ≤ 140737488355328 := hc.1
          have hc2 : c.len real + d.len real ≤ 4611686018427387904 := hc.2
          obtain ⟨v', w', g1, g2, g3, g4, g5, g6, g7⟩ := hrun _ n cs o1 (by rw [hn, ← hmm]; exact hc1) (by omega)
          exact ⟨v', _, w', g1, hb.replRow hab h2 o3 g4 g2 g3 r1 g5 g6 g7⟩
        · exact (Look.run_no h).elim
      · exact (Look.run_no h).elim
    · exact (Look.run_no h).elim
  · -- onto a row of the call's own
    rename_i k
    have h' := Look.run_look h
    clear h
    obtain ⟨ab, hab, h⟩ := h'
    split at h
    · rename_i te' e2 c
      split at h
      · rename_i e1 e2 e3 e4
        have e1 := beq_nat e1
        have e2 := beq_nat e2
        subst e1; subst e2
        obtain ⟨f1, f2⟩ := isE_spec e4
        split at h
        · rename_i c' happ
          simp only [Look.run, Option.some.injEq] at h
          subst h
          obtain ⟨v0, n, cs, h2, h3, h4⟩ := row_cells hb.mem hab
          simp only [RV, CR] at hs
          obtain ⟨v1, h5, h6, h6b⟩ := hs
          rw [h2] at h5; cases h5
          simp only [List.cons.injEq, and_true] at h6
          subst h6
          obtain ⟨r1, _⟩ := RC_app happ h4 hd
          have hcl := RC_len f1 h4
          have hn : n = c.len real := Nat.eq_of_mul_eq_mul_right f2 (h3.1.symm.trans hcl)
          have hc1 : (c.len real + d.len real) * by_ ≤ 140737488355328 := hc.1
          have hc2 : c.len real + d.len real ≤ 4611686018427387904 := hc.2
          obtain ⟨v', w', g1, g2, g3, g4, g5, g6, g7⟩ := hrun _ n cs h3 (by rw [hn, ← hmm]; exact hc1) (by omega)
          exact ⟨v', _, w', g1, hb.replRow hab h2 (fun _ h => h) g4 g2 g3 r1 g5 g6 g7⟩
        · exact (Look.run_no h).elim
      · exact (Look.run_no h).elim
    · exact (Look.run_no h).elim
  · exact (Look.run_no h).elim

theorem append_sound (ht : TTok P tt) (hb : Base m w me kb) {T U : Nat} {ty : Nat} {s x : AV} {vs vx : Value} {d2 : TypeDesc} {e : Eff}
    (hU : P.underlying U = some d2) (hd2 : (∃ e2, d2 = .slice e2) ∨ d2 = .string) (hs : RV m w s vs) (hx : RV m w x vx)
    (h : (appendEv real tt kb T s x).run me = some e) (hc : e.c) :
    ∃ v m' w', (Builtin.append_ #[T, U] ty #[vs, vx]).run P w = .ok v w' ∧ OkE m w me kb e.v e.puts v m' w' := by
  unfold appendEv at h
  split at h
  · rename_i te _ _ _ _ hl
    have hT : P.underlying T = some (.slice te) := (ht.look hl).k
    split at h
    · rename_i kk es by_ z0 ek hl2
      obtain ⟨i, z, hi, hsz, hby, hz, hzs, _, hek⟩ := (ht.look hl2).i
      have hsz : i.size = es := hsz
      have hby : i.bytes = by_ := hby
      have hzs : z.cells.size = es := hzs
      have core : ∀ {d : AC} {news : List Value} {mm : Nat} {e : Eff}, Src P w vx es mm news → RC m w d news → d.len real = mm → e.c → (appendK real kb te es by_ s d).run me = some e →
          ∃ v m' w', (Builtin.append_ #[T, U] ty #[vs, vx]).run P w = .ok v w' ∧ OkE m w me kb e.v e.puts v m' w' := by
        intro d news mm e hsrc hd hmm hc h
        exact append_core (R := fun v v' w' => (Builtin.append_ #[T, U] ty #[v, vx]).run P w = .ok v' w') hb (fun v n cs ho h1 h2 => run_append_row hT hU hd2 hi hsz hz hzs ho hsrc (by rw [hby]; exact h1) h2) hs hd hmm hc h
      have hnil : ∀ ad, vx = .slice ad 0 0 → (match Nat.beq es ek.esz with
          | true => appendK real kb te es by_ s ek.nil
          | false => .no : Look).run me = some e → ∃ v m' w', (Builtin.append_ #[T, U] ty #[vs, vx]).run P w = .ok v w' ∧ OkE m w me kb e.v e.puts v m' w' := by
        rintro ad rfl h
        split at h
        · refine core (d := ek.nil) (news := []) (Src.of_nil w es ad) ?_ ?_ hc h
          · cases ek <;> simp [EK.nil, RC]
          · cases ek <;> rfl
        · exact (Look.run_no h).elim
      split at h
      · rename_i xs
        split at h
        · simp only [RV, CR, List.cons.injEq, and_true] at hx
          subst hx
          exact core (d := .bt xs) (news := xs.map E8) (Src.of_string w xs) (by simp [RC]) rfl hc h
        · exact (Look.run_no h).elim
      · simp only [RV, CR, List.cons.injEq, and_true] at hx
        exact hnil none hx h
      · simp only [RV, CR, List.cons.injEq, and_true] at hx
        obtain ⟨ad, hx⟩ := hx
        exact hnil ad hx h
      · obtain ⟨d, news, e0, h1, h2, h3, h4, h5, h6, h6b, h7⟩ := content_sound hb hx h hc
        rw [← h3, ← h4]
        exact core (Src.of_slice h7 (RC_one _ _ h5)) h5 rfl h2 h1
    · exact (Look.run_no h).elim
  · exact (Look.run_no h).elim
theorem zero_cells {z : Value} (n : Nat) (hz : 0 < z.cells.size) : (List.replicate n z.cells.toList).flatten.toArray = Builtin.zeroCells z.cells n := by
  apply Array.ext'
  simp only [Builtin.zeroCells, Array.toList_map, Array.toList_range]
  have hlen : ∀ (j : Nat) (d : List Value), (List.replicate n z.cells.toList)[j]? = some d → d.length = z.cells.size := by
    intro j d hd
    rw [List.getElem?_replicate] at hd
    split at hd
    · cases hd; simp
    · cases hd
  apply List.ext_getElem?
  intro j
  rw [List.getElem?_map]
  by_cases hj : j < n * z.cells.size
  · have h1 : j / z.cells.size < n := by rw [Nat.div_lt_iff_lt_mul hz]; exact hj
    have h2 : j % z.cells.size < z.cells.size := Nat.mod_lt _ hz
    have h3 : (List.replicate n z.cells.toList)[j / z.cells.size]? = some z.cells.toList := by rw [List.getElem?_replicate, if_pos h1]
    have h4 : z.cells.toList[j % z.cells.size]? = some (z.cells[j % z.cells.size]) := by simp [h2]
    have h5 := flat_get hlen _ _ h3 _ _ h4
    rw [show j / z.cells.size * z.cells.size + j % z.cells.size = j by rw [Nat.mul_comm]; exact Nat.div_add_mod j _] at h5
    rw [h5, List.getElem?_range hj]
    simp only [Option.map_some]
    rw [getElem!_pos z.cells (j % z.cells.size) h2]
  · have h6 : (List.replicate n z.cells.toList).flatten.length = n * z.cells.size := by rw [flat_len hlen]; simp
    rw [List.getElem?_eq_none (by omega), List.getElem?_eq_none (by simp; omega)]
    rfl
theorem appendZ_sound (ht : TTok P tt) (hb : Base m w me kb) {T U : Nat} {ty : Nat} {s x : AV} {vs vx : Value} {kk0 : IntKind} {e : Eff}
    (hU : P.underlying U = some (.int kk0)) (hs : RV m w s vs) (hx : RV m w x vx)
    (h : (appendZEv real tt kb T s x).run me = some e) (hc : e.c) :
    ∃ v m' w', (Builtin.append_ #[T, U] ty #[vs, vx]).run P w = .ok v w' ∧ OkE m w me kb e.v e.puts v m' w' := by
  unfold appendZEv at h
  split at h
  · rename_i te _ _ _ _ hl
    have hT : P.underlying T = some (.slice te) := (ht.look hl).k
    split at h
    · rename_i kk by_ z0 ek hl2
      obtain ⟨i, z, hi, hsz, hby, hz, hzs, _, hek⟩ := (ht.look hl2).i
      obtain ⟨hesz, hz1, hrep⟩ := hek ek rfl
      have hsz : i.size = 1 := hsz
      have hby : i.bytes = by_ := hby
      have hzs : z.cells.size = 1 := hzs
      split at h
      · rename_i nI
        simp only [RV, CR, List.cons.injEq, and_true] at hx
        subst hx
        obtain ⟨e0, h1, rfl⟩ := Look.run_more h
        obtain ⟨⟨c1, c2, c3, c4⟩, hc⟩ := hc
        have c1 : 0 ≤ nI := c1
        have c3 : nI * (by_ : Int) ≤ 281474976710656 := c3
        have c4 : nI ≤ 4611686018427387904 := c4
        obtain ⟨q, rfl⟩ : ∃ q : Nat, nI = q := ⟨nI.toNat, by omega⟩
        have hq : real.nat (q : Int) = q := by simp [real]
        rw [hq] at h1
        have h3 : q * i.bytes ≤ 281474976710656 := by
          have : ((q * i.bytes : Nat) : Int) ≤ 281474976710656 := by rw [Int.natCast_mul, hby]; exact c3
          omega
        refine append_core (e := e0) (R := fun v v' w' => (Builtin.append_ #[T, U] ty #[v, .int .i64 (q : Int)]).run P w = .ok v' w') (mm := q) hb (fun v n cs ho g1 g2 => run_append_zeros hT hU hi hsz hz hzs hz1 (by omega) h3 (zero_cells q (by omega)) ho (by rw [hby]; exact g1) g2) hs (hrep m w q) ?_ hc h1
        cases ek <;> simp [EK.rep, AC.len, real]
      · exact (Look.run_no h).elim
    · exact (Look.run_no h).elim
  · exact (Look.run_no h).elim
end
end Go.Vc
set_option linter.unusedVariables false
set_option linter.unusedSimpArgs false
namespace Go.Vc
open Go Go.RowKit

section
variable {P : Program} {tt : TT} {m : Hd} {w : World} {me : Mem} {kb : Nat}

/-! ## copy -/
theorem run_copy {T U te ty es q : Nat} {i : TypeInfo} {n cap : Nat} {base : Option Addr} {x : Value} {news : List Value} (hT : P.underlying T = some (.slice te)) (hi : P.info? te = some i) (hsz : i.size = es)
    (hl : (Builtin.lenOf x).run P w = .ok q w) (hf : (Builtin.firstCells es (min q n) x).run P w = .ok news.toArray w) :
    (Builtin.copy_ #[T, U] ty #[.slice base n cap, x]).run P w =
      ((match base with
        | some a => storeCells a news
        | none => pure ()).run P w).andThen fun _ w' => .ok (.int .i64 ((min q n : Nat) : Int)) w' := by
  have hmin : Nat.min q n = min q n := rfl
  cases base <;> simp [Builtin.copy_, run_underlying hT, hl, sizeOf, typeInfo, hi, hsz, hmin, hf, goInt]

/-- nothing is written -/
theorem Base.rename (hb : Base m w me kb) {k : Nat} {ab ab' : AB} {av : AV} {v1 v : Value} (hl0 : mlook me k = some ab) (hlive : ab.live = true) (hk : m k = some v) (hab : ABR m w k ab') (hrv : RV m w av v1) : OkE m w me kb av [(k, ab')] v1 m w := by
  have := hb.same (av := av) hrv
  refine ⟨this.tr, this.rv, ⟨fun t x hx => ?_, fun t t' x x' u u' b hx hx' hlx hlx' hne hu hu' hbb => ?_, hb.mem.pubs, fun t x u b hx hlx hu hbb => ?_, fun t x u b hx hlx hu hbb => ?_, hb.mem.okn⟩, this.keys, this.bd⟩
  · simp only [mputs, mlook_cons] at hx
    split at hx
    · rename_i e; subst e; cases hx; exact hab
    · exact hb.mem.at_ t x hx
  · simp only [mputs, mlook_cons] at hx hx'
    by_cases e1 : k = t
    · subst e1
      rw [if_neg hne] at hx'
      exact hb.mem.apart k t' ab x' u u' b hl0 hx' hlive hlx' hne hu hu' hbb
    · rw [if_neg e1] at hx
      by_cases e2 : k = t'
      · subst e2
        exact hb.mem.apart t k x ab u u' b hx hl0 hlx hlive hne hu hu' hbb
      · rw [if_neg e2] at hx'
        exact hb.mem.apart t t' x x' u u' b hx hx' hlx hlx' hne hu hu' hbb
  · simp only [mputs, mlook_cons] at hx
    split at hx
    · rename_i e; subst e; exact hb.mem.live k ab u b hl0 hlive hu hbb
    · exact hb.mem.live t x u b hx hlx hu hbb
  · simp only [mputs, mlook_cons] at hx
    split at hx
    · rename_i e; subst e; exact hb.mem.okl k ab u b hl0 hlive hu hbb
    · exact hb.mem.okl t x u b hx hlx hu hbb

theorem copy_core {T U te ty es : Nat} (hb : Base m w me kb) {i : TypeInfo} {s : AV} {vs vx : Value} {d : AC} {news : List Value} {e : Eff}
    (hT : P.underlying T = some (.slice te)) (hi : P.info? te = some i) (hsz : i.size = es)
    (hs : RV m w s vs) (hd : RC m w d news) (hd1 : d.esz = some es) (hpos : 0 < es) (hlen : (Builtin.lenOf vx).run P w = .ok (d.len real) w)
    (hf : ∀ k, k ≤ d.len real → (Builtin.firstCells es k vx).run P w = .ok (news.take (k * es)).toArray w) (hc : e.c) (h : (copyK real es s d).run me = some e) :
    ∃ v w', (Builtin.copy_ #[T, U] ty #[vs, vx]).run P w = .ok v w' ∧ OkE m w me kb e.v e.puts v m w' := by
  have hdl := RC_len hd1 hd
  have hone := RC_one d news hd
  -- what is laid over: the first elements
  have cut0 : ∀ {d' : AC} {q : Nat}, d.cutE real es 0 (real.minn (d.len real) q) = some d' → RC m w d' (news.take (min (d.len real) q * es)) := by
    intro d' q hcut
    obtain ⟨he, hcut⟩ := cut_isE hcut
    obtain ⟨r1, _⟩ := RC_cut hcut hd1 hd (by show 0 + min _ _ ≤ _; omega)
    rw [Nat.zero_mul, List.drop_zero] at r1
    exact r1
  have hll : ∀ q, (news.take (min (d.len real) q * es)).length = min (d.len real) q * es := by
    intro q
    rw [List.length_take, hdl]
    have : min (d.len real) q * es ≤ d.len real * es := Nat.mul_le_mul_right _ (by omega)
    omega
  have hvi : ∀ (w' : World) (q : Nat), RV m w' (.i (real.int (real.minn (d.len real) q))) (.int .i64 ((min (d.len real) q : Nat) : Int)) := fun w' q => by
    simp only [RV, CR]; rfl
  unfold copyK at h
  split at h
  · rename_i k g o e' a n
    split at h
    · exact (Look.run_no h).elim
    · rename_i hee
      have hee := beq_nat hee
      subst hee
      have h' := Look.run_look h
      clear h
      obtain ⟨ab, hab, h⟩ := h'
      simp only [RV, CR] at hs
      obtain ⟨v0, ad, cap, h6, h7, h8, h9, h10⟩ := hs
      simp only [List.cons.injEq, and_true] at h7
      subst h7
      have hr := run_copy (P := P) (U := U) (ty := ty) (n := n) (cap := cap) (base := ad) hT hi hsz hlen (hf _ (by omega))
      refine ⟨.int .i64 ((min (d.len real) n : Nat) : Int), ?_⟩
      split at h
      · rename_i B segs
        split at h
        · rename_i q c hseg
          split at h
          · rename_i d' hcut
            split at h
            · rename_i c' hsp
              split at h
              · rename_i segs' hput
                simp only [Look.run, Option.some.injEq] at h
                subst h
                have hle : a + n ≤ q := hc
                have r1 := cut0 hcut
                have hl1 := hll n
                obtain ⟨gb, cs, fz, h2, h3, h4, h5⟩ := bk_cells hb.mem hab
                rw [h2] at h6; cases h6
                obtain ⟨pre0, mid0, post0, hcs0, hpre0, hmid0, hrc0⟩ := segAt_sound g o segs q c cs.toList hseg h5
                obtain ⟨ce, hce⟩ := splice_esz hsp
                obtain ⟨t1, t2, t3⟩ := RC_splice hsp hce hrc0 r1
                have hce1 : ce = 1 := by
                  have hd' := (RC_cut (cut_isE hcut).2 hd1 hd (by show 0 + min _ _ ≤ _; omega)).2.1
                  rw [t2] at hd'; cases hd'; rfl
                subst hce1
                have hl' : (mid0.take (a * 1) ++ news.take (min (d.len real) n * 1) ++ mid0.drop (a * 1 + (news.take (min (d.len real) n * 1)).length)).length = q := by
                  rw [List.length_append, List.length_append, hl1, List.length_take, List.length_drop, hmid0]; omega
                obtain ⟨pre, mid, post, hcs, hpre, hmid, hrc, hs'⟩ := segPut_look hseg hput h5 t1 hl'
                have epre : pre0 = pre := by
                  have := congrArg (List.take o) (hcs0.symm.trans hcs)
                  rw [List.append_assoc, List.append_assoc, ← hpre, List.take_left] at this
                  rw [hpre, ← hpre0, List.take_left] at this
                  exact this
                subst epre
                have emid : mid0 = mid := by
                  have h9 := congrArg (fun l => (List.drop o l).take q) (hcs0.symm.trans hcs)
                  simp only [List.append_assoc] at h9
                  rw [← hpre0, List.drop_left, List.drop_left] at h9
                  rw [← hmid, List.take_left] at h9
                  rw [hmid, ← hmid0, List.take_left] at h9
                  exact h9
                subst emid
                by_cases hz : min (d.len real) n = 0
                · refine ⟨w, ?_, ?_⟩
                  · rw [hr, hz]
                    cases ad with
                    | none => simp
                    | some x => simp [storeCells]
                  · have hsame : mid0.take (a * 1) ++ news.take (min (d.len real) n * 1) ++ mid0.drop (a * 1 + (news.take (min (d.len real) n * 1)).length) = mid0 := by rw [hz]; simp
                    rw [hsame, ← hcs] at hs'
                    exact hb.rename hab rfl h2 ⟨gb, cs, fz, h2, h3, h4, hs'⟩ (hvi w n)
                · obtain ⟨gb', k1, rfl⟩ := h9 (by omega)
                  simp only [blk, Option.some.injEq] at k1
                  subst k1
                  have hsz2 := hs_len hcs
                  obtain ⟨q1, q2, q3, q4, q5, q6⟩ := setCells_block (news.take (min (d.len real) n * 1)) (o + a * 1) w cs h3 (by omega)
                  have e1 : (cs.toList.take (o + a * 1) ++ news.take (min (d.len real) n * 1) ++ cs.toList.drop (o + a * 1 + (news.take (min (d.len real) n * 1)).length)) =
                      pre0 ++ (mid0.take (a * 1) ++ news.take (min (d.len real) n * 1) ++ mid0.drop (a * 1 + (news.take (min (d.len real) n * 1)).length)) ++ post := by
                    rw [hcs, show pre0 ++ mid0 ++ post = pre0 ++ (mid0 ++ post) by simp, ← hpre, List.take_length_add_append,
                      show pre0.length + a * 1 + (news.take (min (d.len real) n * 1)).length = pre0.length + (a * 1 + (news.take (min (d.len real) n * 1)).length) by omega, List.drop_length_add_append,
                      List.take_append_of_le_length (by omega), List.drop_append_of_le_length (by omega)]
                    simp
                  rw [e1] at q1
                  have htr := tr_write (w' := w.setCells gb (o + a * 1) (news.take (min (d.len real) n * 1))) (hb.mem.live k _ _ gb hab rfl h2 rfl) h2 rfl q2 q3 q4 q5 q6
                  refine ⟨w.setCells gb (o + a * 1) (news.take (min (d.len real) n * 1)), ?_, hb.write hab rfl h2 rfl q2 q3 q4 q5 q6 ⟨gb, _, fz, h2, q1, ?_, SegsR_mono htr.pres _ _ hs'⟩ (hvi _ n)⟩
                  · rw [hr]
                    simp only [bof, Nat.zero_add]
                    rw [run_storeCells_block (o := o + a * 1) h3 h4 (by omega) (fun v hv => hone v (List.mem_of_mem_take hv))]
                    rfl
                  · refine h4.len ?_
                    simp; omega
              · exact (Look.run_no h).elim
            · exact (Look.run_no h).elim
          · exact (Look.run_no h).elim
        · exact (Look.run_no h).elim
      · rename_i B e2 c
        split at h
        · rename_i he2 hE
          have he2 := beq_nat he2
          subst he2
          obtain ⟨f1, f2⟩ := isE_spec hE
          split at h
          · rename_i d' hcut
            split at h
            · rename_i c' hsp
              simp only [Look.run, Option.some.injEq] at h
              subst h
              have hle : a + n ≤ c.len real := hc
              have r1 := cut0 hcut
              have hl1 := hll n
              obtain ⟨v1, n1, cs, h2, h3, h4⟩ := row_cells hb.mem hab
              rw [h2] at h6; cases h6
              obtain ⟨t1, t2, t3⟩ := RC_splice hsp f1 h4 r1
              have hcl := RC_len f1 h4
              have hm1 : a * e2 + n * e2 ≤ c.len real * e2 := by rw [← Nat.add_mul]; exact Nat.mul_le_mul_right _ hle
              have hm2 : min (d.len real) n * e2 ≤ n * e2 := Nat.mul_le_mul_right _ (by omega)
              by_cases hz : min (d.len real) n = 0
              · refine ⟨w, ?_, ?_⟩
                · rw [hr, hz]
                  cases ad with
                  | none => simp
                  | some x => simp [storeCells]
                · rw [hz] at t1
                  simp only [Nat.zero_mul, List.take_zero, List.append_nil, List.length_nil, Nat.add_zero, List.take_append_drop] at t1
                  exact hb.rename hab rfl h2 ⟨v0, n1, cs, h2, h3, t1⟩ (hvi w n)
              · obtain ⟨gb', k1, rfl⟩ := h9 (by omega)
                obtain ⟨gb, q1, w', q2, q3⟩ := hb.writeRow (P := P) (a := a * e2) (ds := news.take (min (d.len real) n * e2)) (c' := c') hab h2 h3 (by omega) (by rw [hl1]; exact Nat.mul_pos (by omega) f2) t1 (fun v hv => hone v (List.mem_of_mem_take hv)) (fun w' _ => hvi w' n)
                rw [k1] at q1; cases q1
                refine ⟨w', ?_, q3⟩
                rw [hr]
                simp only [Nat.zero_add]
                rw [q2]
                rfl
            · exact (Look.run_no h).elim
          · exact (Look.run_no h).elim
        · exact (Look.run_no h).elim
      · exact (Look.run_no h).elim
  · rename_i k
    have h' := Look.run_look h
    clear h
    obtain ⟨ab, hab, h⟩ := h'
    split at h
    · rename_i B e2 c
      split at h
      · rename_i he2 hE
        have he2 := beq_nat he2
        subst he2
        obtain ⟨f1, f2⟩ := isE_spec hE
        split at h
        · rename_i d' hcut
          split at h
          · rename_i c' hsp
            simp only [Look.run, Option.some.injEq] at h
            subst h
            simp only [RV, CR] at hs
            obtain ⟨v0, h6, h7, h7b⟩ := hs
            simp only [List.cons.injEq, and_true] at h7
            subst h7
            obtain ⟨v1, n1, cs, h2, h3, h4⟩ := row_cells hb.mem hab
            rw [h2] at h6; cases h6
            have r1 := cut0 hcut
            have hl1 := hll (c.len real)
            have hcl := RC_len f1 h4
            have hn1 : n1 = c.len real := Nat.eq_of_mul_eq_mul_right f2 (h3.1.symm.trans hcl)
            obtain ⟨ad, cap, rfl, hn2, hn3, hn4⟩ := row_slice h3
            have hr := run_copy (P := P) (U := U) (ty := ty) (n := n1) (cap := cap) (base := ad) hT hi hsz hlen (hf _ (by omega))
            obtain ⟨t1, t2, t3⟩ := RC_splice hsp f1 h4 r1
            have hm2 : min (d.len real) (c.len real) * e2 ≤ c.len real * e2 := Nat.mul_le_mul_right _ (by omega)
            refine ⟨.int .i64 ((min (d.len real) (c.len real) : Nat) : Int), ?_⟩
            rw [hn1] at hr
            by_cases hz : min (d.len real) (c.len real) = 0
            · refine ⟨w, ?_, ?_⟩
              · rw [hn1, hr, hz]
                cases ad with
                | none => simp
                | some x => simp [storeCells]
              · rw [hz] at t1
                simp only [Nat.zero_mul, List.take_zero, List.append_nil, List.nil_append, List.length_nil, Nat.add_zero, List.drop_zero] at t1
                exact hb.rename hab rfl h2 ⟨_, n1, cs, h2, h3, t1⟩ (hvi w _)
            · obtain ⟨gb, q1, w', q2, q3⟩ := hb.writeRow (P := P) (a := 0) (ds := news.take (min (d.len real) (c.len real) * e2)) (c' := c') hab h2 h3 (by omega) (by rw [hl1]; exact Nat.mul_pos (by omega) f2) (by rw [Nat.zero_mul] at t1; exact t1) (fun v hv => hone v (List.mem_of_mem_take hv)) (fun w' _ => hvi w' _)
              have hcap : 0 < cap := by omega
              obtain ⟨a, rfl, _⟩ := hn4 (by omega)
              obtain ⟨g', o', cap', cur, fz, pre, rest, hv, _⟩ := row_open h3 (i := 0) (by rw [hcl]; exact Nat.mul_pos (by omega) f2)
              cases hv
              rw [blk_slice hcap] at q1
              simp only [Option.some.injEq] at q1
              subst q1
              refine ⟨w', ?_, q3⟩
              rw [hn1, hr]
              simp only [bof, Nat.add_zero] at q2
              simp only []
              rw [q2]
              rfl
          · exact (Look.run_no h).elim
        · exact (Look.run_no h).elim
      · exact (Look.run_no h).elim
    · exact (Look.run_no h).elim
  · exact (Look.run_no h).elim

theorem copy_sound (ht : TTok P tt) (hb : Base m w me kb) {T U : Nat} {ty : Nat} {s x : AV} {vs vx : Value} {e : Eff} (hs : RV m w s vs) (hx : RV m w x vx)
    (h : (copyEv real tt T s x).run me = some e) (hc : e.c) :
    ∃ v w', (Builtin.copy_ #[T, U] ty #[vs, vx]).run P w = .ok v w' ∧ OkE m w me kb e.v e.puts v m w' := by
  unfold copyEv at h
  split at h
  · rename_i te _ _ _ _ hl
    have hT : P.underlying T = some (.slice te) := (ht.look hl).k
    split at h
    · rename_i kk es by_ z0 ek hl2
      obtain ⟨i, z, hi, hsz, _⟩ := (ht.look hl2).i
      have hsz : i.size = es := hsz
      split at h
      · rename_i xs
        split at h
        · simp only [RV, CR, List.cons.injEq, and_true] at hx
          subst hx
          refine copy_core hb hT hi hsz hs (d := .bt xs) (news := xs.map E8) (by simp [RC]) rfl (by omega) ((Src.of_string w xs).len w) (fun k hk => ?_) hc h
          simp only [Builtin.firstCells, Sem.run_pure, Nat.mul_one]
          congr 1
          apply Array.ext'
          simp
        · exact (Look.run_no h).elim
      · split at h
        · rename_i hE
          have hx' : RV m w (.rb es ek.nil) vx := by
            simp only [RV, CR, List.cons.injEq, and_true] at hx
            subst hx
            simp only [RV, CR]
            exact ⟨none, 0, 0, [], rfl, by cases ek <;> simp [EK.nil, RC], by simp, Nat.le_refl _, fun h0 => absurd h0 (by omega)⟩
          have h' : (withContent real (.rb es ek.nil) es fun d => copyK real es s d).run me = some e := by
            simp only [withContent, hE, Nat.beq_refl]
            exact h
          obtain ⟨d, news, e0, h1, h2, h3, h4, h5, h6, h6b, h7⟩ := content_sound hb hx' h' hc
          rw [← h3, ← h4]
          exact copy_core hb hT hi hsz hs h5 h6 h6b (run_lenOf h7 w) (fun k hk => run_firstOf h7 hk w rfl) h2 h1
        · exact (Look.run_no h).elim
      · obtain ⟨d, news, e0, h1, h2, h3, h4, h5, h6, h6b, h7⟩ := content_sound hb hx h hc
        rw [← h3, ← h4]
        exact copy_core hb hT hi hsz hs h5 h6 h6b (run_lenOf h7 w) (fun k hk => run_firstOf h7 hk w rfl) h2 h1
    · exact (Look.run_no h).elim
  · exact (Look.run_no h).elim
end
end Go.Vc
set_option linter.unusedVariables false
set_option linter.unusedSimpArgs false
namespace Go.Vc
open Go Go.RowKit

section
variable {P : Program} {tt : TT} {m : Hd} {w : World} {me : Mem} {kb : Nat}

/-! ## Operands -/
theorem ofNatK_sound (k : IntKind) (n : Nat) : RV m w (ofNatK real k n) (.int k (Int.ofNat n)) := by
  unfold ofNatK
  split
  · split
    · rename_i h
      simp only [RV, CR, real, ← ofI_u8, wrap_u8, List.cons.injEq, and_true, Value.int.injEq, true_and]
      simp only [Int.ofNat_eq_natCast]; omega
    · simp [RV]
  · split
    · rename_i h
      simp only [RV, CR, real, ← ofI_u16, wrap_u16, List.cons.injEq, and_true, Value.int.injEq, true_and]
      simp only [Int.ofNat_eq_natCast]; omega
    · simp [RV]
  · split
    · rename_i h
      simp only [RV, CR, real, ← ofI_u32, wrap_u32, List.cons.injEq, and_true, Value.int.injEq, true_and]
      simp only [Int.ofNat_eq_natCast]; omega
    · simp [RV]
  · split
    · rename_i h
      simp only [RV, CR, real, ← ofI_u64, wrap_u64, List.cons.injEq, and_true, Value.int.injEq, true_and]
      simp only [Int.ofNat_eq_natCast]; omega
    · simp [RV]
  · simp only [RV, CR, real]; rfl
  · simp [RV]
theorem ofValue_sound (v : Value) : RV m w (ofValue real v) v := by
  unfold ofValue
  split
  · split
    · exact ofNatK_sound _ _
    · split
      · simp only [RV, CR, real]
      · simp [RV]
  · simp [RV, CR]
  · simp [RV, CR, real]
  · simp [RV, CR]
  · simp [RV, CR]
  · simp [RV]
def SlR (m : Hd) (w : World) (sl : List (Nat × AV)) (a : Act) : Prop := ∀ t, RV m w (sget sl t) (a.tmps.getD t undef)
theorem oget_sound {sl : List (Nat × AV)} {a : Act} (h : SlR m w sl a) (x : Operand) : RV m w (oget real sl x) (a.eval x) := by
  cases x with
  | tmp t => exact h t
  | const v => exact ofValue_sound v
  | global g => simp [oget, RV]
  | func f => simp [oget, RV]

/-! ## Slices -/
def OptR (m : Hd) (w : World) : Option AV → Option Value → Prop
  | none, none => True
  | some a, some v => RV m w a v
  | _, _ => False
theorem run_sliceBound {k : IntKind} {i : Int} {y : Nat} {code : BoundsCode} (h0 : 0 ≤ i) (h : i.toNat ≤ y) : (Instr.sliceBound (.int k i) y code).run P w = .ok i.toNat w := by
  have : 0 ≤ i ∧ i ≤ (y : Int) := ⟨h0, by omega⟩
  simp [Instr.sliceBound, asIntOf, this]
theorem optNum_sound {a : Option AV} {v : Option Value} {n : Option Int} (h : bounds.optNum real a = some n) (hv : OptR m w a v) :
    (a = none ∧ v = none ∧ n = none) ∨ ∃ b k i, a = some b ∧ v = some (.int k i) ∧ n = some i := by
  unfold bounds.optNum at h
  split at h
  · cases h
    cases v with
    | none => exact .inl ⟨rfl, rfl, rfl⟩
    | some x => simp [OptR] at hv
  · rename_i b
    split at h
    · rename_i i hi
      cases h
      cases v with
      | none => simp [OptR] at hv
      | some x =>
        obtain ⟨k, rfl⟩ := num_int hi hv
        exact .inr ⟨b, k, i, rfl, rfl, rfl⟩
    · cases h
theorem bounds_sound {n cap : Nat} (hn : n ≤ cap) {lo hi mx : Option AV} {vlo vhi vmx : Option Value} {c : Prop} {l h : Nat} {isS : Bool} (hb : bounds real n lo hi mx = some (c, l, h)) (hc : c)
    (hlo : OptR m w lo vlo) (hhi : OptR m w hi vhi) (hmx : OptR m w mx vmx) :
    ∃ mm, (Instr.sliceBounds isS n cap vlo vhi vmx).run P w = .ok (l, h, mm) w ∧ l ≤ h ∧ h ≤ n ∧ h ≤ mm ∧ mm ≤ cap ∧ (lo = none → l = 0) ∧ (∀ b q, mx = some b → b.num real = some q → mm = q.toNat) := by
  unfold bounds at hb
  split at hb
  · rename_i nl nh nm e1 e2 e3
    simp only [Option.some.injEq, Prod.mk.injEq] at hb
    obtain ⟨h1, h2, h3⟩ := hb
    subst h1
    have key : ∀ b q, mx = some b → b.num real = some q → nm = some q := by
      intro b q hb hq
      subst hb
      simp only [bounds.optNum, hq, Option.some.injEq] at e3
      exact e3.symm
    rcases optNum_sound e1 hlo with ⟨rfl, rfl, rfl⟩ | ⟨bl, kl, il, rfl, rfl, rfl⟩ <;>
    rcases optNum_sound e2 hhi with ⟨rfl, rfl, rfl⟩ | ⟨bh, kh, ih, rfl, rfl, rfl⟩ <;>
    rcases optNum_sound e3 hmx with ⟨rfl, rfl, rfl⟩ | ⟨bm, km, im, rfl, rfl, rfl⟩ <;>
    simp only [real] at h2 h3 hc <;> subst h2 <;> subst h3 <;> first | (exfalso; exact hc.2.2) | skip
    · exact ⟨cap, by simp [Instr.sliceBounds], by omega, by omega, by omega, by omega, fun _ => rfl, fun b q hb => by cases hb⟩
    · obtain ⟨-, ⟨a1, a2⟩, -⟩ := hc
      refine ⟨cap, ?_, by omega, by omega, by omega, by omega, fun _ => rfl, fun b q hb => by cases hb⟩
      cases isS <;> simp [Instr.sliceBounds, run_sliceBound a1 (show ih.toNat ≤ cap by omega)]
    · obtain ⟨-, ⟨a1, a2⟩, b1, b2, b3⟩ := hc
      refine ⟨im.toNat, ?_, by omega, by omega, by omega, by omega, fun _ => rfl, fun b q hb hq => by have := key b q hb hq; simp only [Option.some.injEq] at this; rw [this]⟩
      cases isS <;> simp [Instr.sliceBounds, run_sliceBound b1 (show im.toNat ≤ cap by omega), run_sliceBound a1 b2]
    · obtain ⟨⟨a1, a2⟩, -, -⟩ := hc
      refine ⟨cap, ?_, by omega, by omega, by omega, by omega, (fun h => (by cases h)), fun b q hb => by cases hb⟩
      cases isS <;> simp [Instr.sliceBounds, run_sliceBound a1 a2]
    · obtain ⟨⟨a1, a2⟩, ⟨b1, b2⟩, -⟩ := hc
      refine ⟨cap, ?_, by omega, by omega, by omega, by omega, (fun h => (by cases h)), fun b q hb => by cases hb⟩
      cases isS <;> simp [Instr.sliceBounds, run_sliceBound a1 a2, run_sliceBound b1 (show ih.toNat ≤ cap by omega)]
    · obtain ⟨⟨a1, a2⟩, ⟨b1, b2⟩, c1, c2, c3⟩ := hc
      refine ⟨im.toNat, ?_, by omega, by omega, by omega, by omega, (fun h => (by cases h)), fun b q hb hq => by have := key b q hb hq; simp only [Option.some.injEq] at this; rw [this]⟩
      cases isS <;> simp [Instr.sliceBounds, run_sliceBound a1 a2, run_sliceBound b1 c2, run_sliceBound c1 (show im.toNat ≤ cap by omega)]
  · cases hb

theorem span_eq {lo : Option AV} {l h : Nat} (hl : lo = none → l = 0) : span real lo l h = h - l := by
  unfold span
  cases lo with
  | none => rw [hl rfl]; rfl
  | some a => rfl

/-- a slice expression over a slice -/
theorem run_slice_slice {T te : Nat} {i : TypeInfo} {ad : Option Addr} {n cap l h mm : Nat} {vlo vhi vmx : Option Value} (hT : P.underlying T = some (.slice te)) (hi : P.info? te = some i)
    (hb : (Instr.sliceBounds true n cap vlo vhi vmx).run P w = .ok (l, h, mm) w) :
    (Instr.sliceAt T (.slice ad n cap) vlo vhi vmx).run P w = .ok (.slice (if mm = l then ad else ad.map (·.add (l * i.size))) (h - l) (mm - l)) w := by
  simp [Instr.sliceAt, Instr.slice, run_underlying hT, hb, sizeOf, typeInfo, hi]

theorem slice_sound (ht : TTok P tt) (hb : Base m w me kb) {T : Nat} {x : AV} {lo hi mx : Option AV} {vx : Value} {vlo vhi vmx : Option Value} {e : Eff} (hx : RV m w x vx)
    (hlo : OptR m w lo vlo) (hhi : OptR m w hi vhi) (hmx : OptR m w mx vmx) (h : (sliceEv real tt T x lo hi mx).run me = some e) (hc : e.c) :
    ∃ v, (Instr.sliceAt T vx vlo vhi vmx).run P w = .ok v w ∧ OkE m w me kb e.v e.puts v m w := by
  unfold sliceEv at h
  split at h
  · -- a string
    rename_i xs
    simp only [RV, CR, List.cons.injEq, and_true] at hx
    subst hx
    split at h
    · exact (Look.run_no h).elim
    · split at h
      · rename_i hl
        have hT : P.underlying T = some .string := (ht.look hl).k
        split at h
        · rename_i c l hh hbd
          have := Look.run_pure1 h
          subst this
          have hvm : vmx = none := by
            cases vmx with
            | none => rfl
            | some x => simp [OptR] at hmx
          subst hvm
          have hsz : (⟨xs.toArray⟩ : ByteArray).size = xs.length := by simp [ByteArray.size]
          obtain ⟨mm, r1, r2, r3, r4, r5, r6, r7⟩ := bounds_sound (P := P) (isS := false) (Nat.le_refl (real.lenB xs)) hbd hc hlo hhi hmx
          have r1' : (Instr.sliceBounds false xs.length xs.length vlo vhi none).run P w = .ok (l, hh, mm) w := r1
          refine ⟨.string ((⟨xs.toArray⟩ : ByteArray).extract l hh), ?_, hb.same ?_⟩
          · simp [Instr.sliceAt, Instr.slice, run_underlying hT, hsz, r1']
          · rw [span_eq r6]
            simp only [RV, CR, real, List.cons.injEq, and_true, Value.string.injEq]
            apply ByteArray.ext
            have h9 : hh ≤ xs.length := r3
            simp [ByteArray.data_extract, List.extract_eq_take_drop]
        · exact (Look.run_no h).elim
      · exact (Look.run_no h).elim
  · -- what stays
    rename_i e' d
    split at h
    · rename_i te _ _ _ _ hl
      have hT : P.underlying T = some (.slice te) := (ht.look hl).k
      split at h
      · rename_i kk es by_ lay ek hl2
        obtain ⟨i, z, hii, hsz, _⟩ := (ht.look hl2).i
        have hsz : i.size = es := hsz
        split at h
        · rename_i hbe
          have := beq_nat hbe
          subst this
          split at h
          · rename_i n hlen
            unfold AC.lenE at hlen
            split at hlen
            · rename_i hE
              cases hlen
              obtain ⟨he1, he2⟩ := isE_spec hE
              split at h
              · rename_i c l hh hbd
                split at h
                · rename_i d' hcut
                  have := Look.run_pure1 h
                  subst this
                  simp only [RV, CR] at hx
                  obtain ⟨ad, n, cap, ds, h1, h2, h3, h4, h5⟩ := hx
                  simp only [List.cons.injEq, and_true] at h1
                  subst h1
                  have hdl := RC_len he1 h2
                  have hn : n = d.len real := by
                    rw [h3] at hdl
                    exact Nat.eq_of_mul_eq_mul_right he2 hdl
                  subst hn
                  obtain ⟨mm, r1, r2, r3, r4, r5, r6, r7⟩ := bounds_sound (P := P) (isS := true) h4 hbd hc hlo hhi hmx
                  rw [span_eq r6] at hcut
                  obtain ⟨q1, q2, q3⟩ := RC_cut hcut he1 h2 (by omega)
                  refine ⟨_, run_slice_slice hT hii r1, hb.same ?_⟩
                  simp only [RV, CR]
                  refine ⟨_, hh - l, mm - l, _, rfl, q1, ?_, by omega, fun hpos => ?_⟩
                  · rw [List.length_take, List.length_drop, h3]
                    have : (hh - l) * e' + l * e' ≤ d.len real * e' := by rw [← Nat.add_mul]; exact Nat.mul_le_mul_right _ (by omega)
                    omega
                  · obtain ⟨a, rfl, hst⟩ := h5 (by omega)
                    rw [if_neg (by omega)]
                    refine ⟨_, rfl, ?_, fun j y hy => ?_⟩
                    · rw [add_block]; exact hst.1
                    · rw [add_add_at, hsz]
                      rw [List.getElem?_take] at hy
                      split at hy
                      · rw [List.getElem?_drop] at hy; exact hst.2 _ y hy
                      · cases hy
                · exact (Look.run_no h).elim
              · exact (Look.run_no h).elim
            · cases hlen
          · exact (Look.run_no h).elim
        · exact (Look.run_no h).elim
      · exact (Look.run_no h).elim
    · exact (Look.run_no h).elim
  · -- a row
    rename_i k
    split at h
    · rename_i te _ _ _ _ hl
      have hT : P.underlying T = some (.slice te) := (ht.look hl).k
      split at h
      · rename_i kk es by_ lay ek hl2
        obtain ⟨i, z, hii, hsz, _⟩ := (ht.look hl2).i
        have hsz : i.size = es := hsz
        obtain ⟨ab, hab, hnew⟩ := Look.run_look h
        clear h
        have h := hnew
        clear hnew
        split at h
        · rename_i B e' d
          split at h
          · rename_i hbe
            have := beq_nat hbe
            subst this
            split at h
            · rename_i n hlen
              unfold AC.lenE at hlen
              split at hlen
              · rename_i hE
                cases hlen
                obtain ⟨he1, he2⟩ := isE_spec hE
                split at h
                · rename_i c l hh hbd
                  simp only [RV, CR] at hx
                  obtain ⟨v0, h1, h2, h2b⟩ := hx
                  simp only [List.cons.injEq, and_true] at h2
                  subst h2
                  obtain ⟨v1, n, cs, h3, h4, h5⟩ := row_cells hb.mem hab
                  rw [h3] at h1; cases h1
                  have hdl := RC_len he1 h5
                  have hn : n = d.len real := by
                    rw [h4.1] at hdl
                    exact Nat.eq_of_mul_eq_mul_right he2 hdl
                  subst hn
                  have hshape : ∃ ad cap, vx = .slice ad (d.len real) cap ∧ d.len real ≤ cap ∧ (0 < cap → ∃ g o, ad = some ⟨g, o, none⟩ ∧ blk vx = some g) := by
                    rcases h4.2 with ⟨ad, rfl, h6⟩ | ⟨g, o, cap, cur, fz, rfl, h6, h7, h8, h9, _⟩
                    · exact ⟨ad, 0, by rw [h6], by omega, fun h => by omega⟩
                    · exact ⟨_, cap, rfl, h8, fun _ => ⟨g, o, rfl, blk_slice h9⟩⟩
                  obtain ⟨ad, cap, rfl, h6, h7⟩ := hshape
                  have fin : ∀ {mm : Nat}, l ≤ hh → hh ≤ mm → mm ≤ cap → RV m w (.sl k 0 0 e' l (hh - l)) (.slice (if mm = l then ad else ad.map (·.add (l * i.size))) (hh - l) (mm - l)) := by
                    intro mm r2 r4 r5
                    simp only [RV, CR]
                    refine ⟨_, _, mm - l, h3, rfl, by omega, fun hpos => ?_, fun c hc => ?_⟩
                    · obtain ⟨g, o, rfl, g1⟩ := h7 (by omega)
                      refine ⟨g, g1, ?_⟩
                      rw [if_neg (by omega), Option.map_some, add_at, hsz, Nat.zero_add]
                      rfl
                    · simp only [capOf, Option.some.injEq] at hc; omega
                  split at h
                  · rename_i q1 q2 hv2 mv2
                    split at h
                    · rename_i qn hqn
                      have := Look.run_pure1 h
                      subst this
                      obtain ⟨hc, hc2, hc3⟩ := hc
                      have hc2 : hh = d.len real := hc2
                      have hc3 : qn.toNat = d.len real := hc3
                      obtain ⟨mm, r1, r2, r3, r4, r5, r6, r7⟩ := bounds_sound (P := P) (isS := true) h6 hbd hc hlo hhi hmx
                      have hl0 := r6 rfl
                      have hmm : mm = d.len real := by rw [r7 _ qn rfl hqn]; exact hc3
                      subst hl0
                      refine ⟨_, run_slice_slice hT hii r1, hb.same ?_⟩
                      simp only [RV, CR]
                      refine ⟨_, h3, ?_, rfl⟩
                      simp only [clipV, hmm, hc2, Nat.sub_zero, Nat.zero_mul]
                      congr 1
                      congr 1
                      split
                      · rfl
                      · cases ad <;> simp [Addr.add]
                    · exact (Look.run_no h).elim
                  · have := Look.run_pure1 h
                    subst this
                    obtain ⟨mm, r1, r2, r3, r4, r5, r6, r7⟩ := bounds_sound (P := P) (isS := true) h6 hbd hc hlo hhi hmx
                    refine ⟨_, run_slice_slice hT hii r1, hb.same ?_⟩
                    rw [span_eq r6]
                    exact fin r2 r4 r5
                · exact (Look.run_no h).elim
              · cases hlen
            · exact (Look.run_no h).elim
          · exact (Look.run_no h).elim
        · exact (Look.run_no h).elim
      · exact (Look.run_no h).elim
    · exact (Look.run_no h).elim
  · -- a slice of the call's own
    rename_i k g o e' a n
    split at h
    · rename_i te _ _ _ _ hl
      have hT : P.underlying T = some (.slice te) := (ht.look hl).k
      split at h
      · rename_i kk es by_ lay ek hl2
        obtain ⟨i, z, hii, hsz, _⟩ := (ht.look hl2).i
        have hsz : i.size = es := hsz
        split at h
        · rename_i hbe
          have := beq_nat hbe
          subst this
          split at h
          · rename_i c l hh hbd
            have := Look.run_pure1 h
            subst this
            simp only [RV, CR] at hx
            obtain ⟨v0, ad, cap, h1, h2, h3, h4, h5⟩ := hx
            simp only [List.cons.injEq, and_true] at h2
            subst h2
            obtain ⟨mm, r1, r2, r3, r4, r5, r6, r7⟩ := bounds_sound (P := P) (isS := true) h3 hbd hc hlo hhi hmx
            refine ⟨_, run_slice_slice hT hii r1, hb.same ?_⟩
            rw [span_eq r6]
            simp only [RV, CR]
            refine ⟨v0, _, mm - l, h1, rfl, by omega, fun hpos => ?_, fun c hc => ?_⟩
            · obtain ⟨gb, g1, rfl⟩ := h4 (by omega)
              refine ⟨gb, g1, ?_⟩
              rw [if_neg (by omega), Option.map_some, add_at, hsz]
              cases lo with
              | none => rw [r6 rfl]; simp
              | some b =>
                have e2 : real.addn a l = a + l := rfl
                simp only [e2, Nat.add_mul]
                congr 2
                omega
            · have := h5 c hc
              cases lo with
              | none => have := r6 rfl; simp only; omega
              | some b => have e2 : real.addn a l = a + l := rfl; simp only [e2]; omega
          · exact (Look.run_no h).elim
        · exact (Look.run_no h).elim
      · exact (Look.run_no h).elim
    · exact (Look.run_no h).elim
  · -- an array
    rename_i k g o
    split at h
    · rename_i n te _ _ _ _ hl
      have hT : P.underlying T = some (.array n te) := (ht.look hl).k
      split at h
      · rename_i kk es by_ lay ek hl2
        obtain ⟨i, z, hii, hsz, _⟩ := (ht.look hl2).i
        have hsz : i.size = es := hsz
        split at h
        · rename_i c l hh hbd
          have := Look.run_pure1 h
          subst this
          simp only [RV, CR] at hx
          obtain ⟨gb, h1, h2⟩ := hx
          simp only [List.cons.injEq, and_true] at h2
          subst h2
          obtain ⟨mm, r1, r2, r3, r4, r5, r6, r7⟩ := bounds_sound (P := P) (isS := false) (Nat.le_refl n) hbd hc hlo hhi hmx
          refine ⟨.slice (some (if mm = l then ⟨gb, o, none⟩ else (⟨gb, o, none⟩ : Addr).add (l * i.size))) (hh - l) (mm - l), ?_, hb.same ?_⟩
          · simp [Instr.sliceAt, run_underlying hT, Instr.sureAddr, r1, sizeOf, typeInfo, hii]
          · rw [span_eq r6]
            simp only [RV, CR]
            refine ⟨_, _, mm - l, h1, rfl, by omega, fun hpos => ⟨gb, rfl, ?_⟩, fun c hc => by cases hc⟩
            rw [if_neg (by omega), add_at, hsz]
            simp [bof]
        · exact (Look.run_no h).elim
      · exact (Look.run_no h).elim
    · exact (Look.run_no h).elim
  · -- an array in a row of arrays
    rename_i k g o e' ix
    split at h
    · rename_i n te _ _ _ _ hl
      have hT : P.underlying T = some (.array n te) := (ht.look hl).k
      split at h
      · rename_i kk es by_ lay ek hl2
        obtain ⟨i, z, hii, hsz, _⟩ := (ht.look hl2).i
        have hsz : i.size = es := hsz
        split at h
        · rename_i hbe
          have hbe := beq_nat hbe
          have hbe : n * es = e' := hbe
          subst hbe
          split at h
          · rename_i c l hh hbd
            have h' := Look.run_look h
            clear h
            obtain ⟨ab, hab, h⟩ := h'
            split at h
            · rename_i B segs
              have := Look.run_pure1 h
              subst this
              obtain ⟨g1, cs, fz, b1, _⟩ := hb.mem.at_ k _ hab
              simp only [RV, CR] at hx
              obtain ⟨v, gb, h1, h2, h3⟩ := hx
              rw [b1] at h1; cases h1
              simp only [blk, Option.some.injEq] at h2
              subst h2
              simp only [List.cons.injEq, and_true, bof, Nat.zero_add] at h3
              subst h3
              obtain ⟨mm, r1, r2, r3, r4, r5, r6, r7⟩ := bounds_sound (P := P) (isS := false) (Nat.le_refl n) hbd hc hlo hhi hmx
              refine ⟨.slice (some (if mm = l then ⟨g1, o + ix * (n * es), none⟩ else (⟨g1, o + ix * (n * es), none⟩ : Addr).add (l * i.size))) (hh - l) (mm - l), ?_, hb.same ?_⟩
              · simp [Instr.sliceAt, run_underlying hT, Instr.sureAddr, r1, sizeOf, typeInfo, hii]
              · rw [span_eq r6]
                simp only [RV, CR]
                refine ⟨_, _, mm - l, b1, rfl, by omega, fun hpos => ⟨g1, rfl, ?_⟩, fun c hc => by cases hc⟩
                rw [if_neg (by omega), add_at, hsz]
                have hm : ix * (n * es) + l * es = (ix * n + l) * es := by rw [Nat.add_mul, Nat.mul_assoc]
                cases lo with
                | none =>
                  have := r6 rfl
                  subst this
                  have e2 : real.muln ix n = ix * n := rfl
                  simp only [e2, bof, Nat.zero_mul, Nat.add_zero, Nat.zero_add, Nat.mul_assoc]
                | some b =>
                  have e2 : real.addn (real.muln ix n) l = ix * n + l := rfl
                  simp only [e2, bof, Nat.zero_add]
                  congr 2
                  omega
            · exact (Look.run_no h).elim
          · exact (Look.run_no h).elim
        · exact (Look.run_no h).elim
      · exact (Look.run_no h).elim
    · exact (Look.run_no h).elim
  · -- nil
    split at h
    · rename_i te _ _ _ _ hl
      have hT : P.underlying T = some (.slice te) := (ht.look hl).k
      split at h
      · rename_i kk es by_ lay ek hl2
        obtain ⟨i, z, hii, hsz, _⟩ := (ht.look hl2).i
        split at h
        · rename_i c l hh hbd
          have := Look.run_pure1 h
          subst this
          simp only [RV, CR, List.cons.injEq, and_true] at hx
          subst hx
          obtain ⟨mm, r1, r2, r3, r4, r5, r6, r7⟩ := bounds_sound (P := P) (isS := true) (Nat.le_refl 0) hbd hc hlo hhi hmx
          refine ⟨_, run_slice_slice hT hii r1, hb.same ?_⟩
          simp only [RV, CR]
          have e1 : mm = 0 := by omega
          have e2 : l = 0 := by omega
          have e3 : hh = 0 := by omega
          subst e1; subst e2; subst e3
          simp
        · exact (Look.run_no h).elim
      · exact (Look.run_no h).elim
    · exact (Look.run_no h).elim
  · exact (Look.run_no h).elim
theorem slice0_sound (ht : TTok P tt) (hb : Base m w me kb) {T : Nat} {x : AV} {vx : Value} {k1 k2 : IntKind} {e : Eff} (hx : RV m w x vx) (h : (slice0Ev tt T x).run me = some e) :
    ∃ v, (Instr.sliceAt T vx none (some (.int k1 (Int.ofNat 0))) (some (.int k2 (Int.ofNat 0)))).run P w = .ok v w ∧ OkE m w me kb e.v e.puts v m w := by
  unfold slice0Ev at h
  split at h
  · rename_i te _ _ _ _ hl
    have hT : P.underlying T = some (.slice te) := (ht.look hl).k
    split at h
    · rename_i ti hl2
      obtain ⟨i, z, hii, hsz, _⟩ := (ht.look hl2).i
      have key : ∀ ad n cap, vx = .slice ad n cap → e = ⟨True, .z, []⟩ → ∃ v, (Instr.sliceAt T vx none (some (.int k1 (Int.ofNat 0))) (some (.int k2 (Int.ofNat 0)))).run P w = .ok v w ∧ OkE m w me kb e.v e.puts v m w := by
        rintro ad n cap rfl rfl
        have hbd : (Instr.sliceBounds true n cap none (some (.int k1 (Int.ofNat 0))) (some (.int k2 (Int.ofNat 0)))).run P w = .ok (0, 0, 0) w := by
          simp [Instr.sliceBounds, Instr.sliceBound, asIntOf]
        refine ⟨_, run_slice_slice hT hii hbd, hb.same ?_⟩
        simp only [RV, CR]
        exact ⟨ad, by simp⟩
      split at h
      · simp only [RV, CR] at hx
        obtain ⟨ad, n, cap, ds, h1, _⟩ := hx
        simp only [List.cons.injEq, and_true] at h1
        exact key _ _ _ h1 (Look.run_pure1 h)
      · rename_i k
        have h' := Look.run_look h
        clear h
        obtain ⟨ab, hab, h⟩ := h'
        split at h
        · simp only [RV, CR] at hx
          obtain ⟨v0, h1, h2, _⟩ := hx
          simp only [List.cons.injEq, and_true] at h2
          subst h2
          obtain ⟨v1, n, cs, h3, h4, h5⟩ := row_cells hb.mem hab
          rw [h3] at h1; cases h1
          obtain ⟨ad, cap, rfl, _⟩ := row_slice h4
          exact key _ _ _ rfl (Look.run_pure1 h)
        · exact (Look.run_no h).elim
      · simp only [RV, CR] at hx
        obtain ⟨_, ad, cap, _, h1, _⟩ := hx
        simp only [List.cons.injEq, and_true] at h1
        exact key _ _ _ h1 (Look.run_pure1 h)
      · simp only [RV, CR, List.cons.injEq, and_true] at hx
        exact key _ _ _ hx (Look.run_pure1 h)
      · simp only [RV, CR, List.cons.injEq, and_true] at hx
        obtain ⟨ad, hx⟩ := hx
        exact key _ _ _ hx (Look.run_pure1 h)
      · rename_i k
        have h' := Look.run_look h
        clear h
        obtain ⟨ab, hab, h⟩ := h'
        split at h
        · simp only [RV, CR] at hx
          obtain ⟨v0, h1, h2, _⟩ := hx
          simp only [List.cons.injEq, and_true] at h2
          subst h2
          obtain ⟨v1, n, cs, h3, h4, h5⟩ := row_cells hb.mem hab
          rw [h3] at h1; cases h1
          obtain ⟨ad, cap, rfl, _⟩ := row_slice h4
          exact key _ _ _ rfl (Look.run_pure1 h)
        · exact (Look.run_no h).elim
      · exact (Look.run_no h).elim
    · exact (Look.run_no h).elim
  · exact (Look.run_no h).elim
end
end Go.Vc
set_option linter.unusedVariables false
set_option linter.unusedSimpArgs false
namespace Go.Vc
open Go Go.RowKit

section
variable {P : Program} {tt : TT} {m : Hd} {w : World} {me : Mem} {kb : Nat}

theorem oneEff_run {r : Option (Prop × AV)} {e : Eff} (h : (oneEff r).run me = some e) : ∃ c v, r = some (c, v) ∧ e = ⟨c, v, []⟩ := by
  unfold oneEff at h
  split at h
  · exact ⟨_, _, rfl, Look.run_pure1 h⟩
  · exact (Look.run_no h).elim

/-! ## Numbers -/
theorem unEv_sound {op : UnOp} {x : AV} {vx : Value} {c : Prop} {r : AV} (h : unEv real op x = some (c, r)) (hx : RV m w x vx) :
    ∃ v, (Op.unary op vx).run P w = .ok v w ∧ RV m w r v := by
  unfold unEv at h
  split at h <;> cases h <;> simp only [RV, CR, List.cons.injEq, and_true] at hx <;> subst hx
  · exact ⟨_, rfl, by simp [RV, CR, real]⟩
  · exact ⟨_, rfl, by simp [RV, CR, real]⟩
  · exact ⟨_, rfl, by simp [RV, CR, real]⟩
  · exact ⟨_, rfl, by simp [RV, CR, real]⟩
  · rename_i a; exact ⟨_, rfl, by have := sub_u8 0 a; simpa [RV, CR, real] using this⟩
  · rename_i a; exact ⟨_, rfl, by have := sub_u16 0 a; simpa [RV, CR, real] using this⟩
  · rename_i a; exact ⟨_, rfl, by have := sub_u32 0 a; simpa [RV, CR, real] using this⟩
  · rename_i a; exact ⟨_, rfl, by have := sub_u64 0 a; simpa [RV, CR, real] using this⟩
  · rename_i a; exact ⟨_, rfl, by simp only [RV, CR, real]; rw [← not_u8]; rfl⟩
  · rename_i a; exact ⟨_, rfl, by simp only [RV, CR, real]; rw [← not_u16]; rfl⟩
  · rename_i a; exact ⟨_, rfl, by simp only [RV, CR, real]; rw [← not_u32]; rfl⟩
  · rename_i a; exact ⟨_, rfl, by simp only [RV, CR, real]; rw [← not_u64]; rfl⟩
theorem intTo_sound {k : IntKind} {n : Int} {v : AV} (h : intTo real k n = some v) : RV m w v (.int k (k.wrap n)) := by
  unfold intTo at h
  split at h <;> cases h
  · simp [RV, CR, real]
  · simp only [RV, CR, real, ofI_u8]
  · simp only [RV, CR, real, ofI_u16]
  · simp only [RV, CR, real, ofI_u32]
  · simp only [RV, CR, real, ofI_u64]

/-! ## Conversions -/
theorem run_conv_int {src dst : Nat} {j k : IntKind} {n : Int} (hd : P.underlying dst = some (.int k)) {ds : TypeDesc} (hs : P.underlying src = some ds) : (convert src dst (.int j n)).run P w = .ok (.int k (k.wrap n)) w := by
  cases ds <;> simp [convert, run_underlying hd, run_underlying hs, Conv.intToInt]
theorem markStringish_run {w : World} {g : Nat} {cs : Array Value} {T : Nat} {fz : Nat × Nat} (h : w.heap[g]? = some (.cells cs T fz)) :
    (markStringish ⟨g, 0, none⟩).run P w = .ok () (w.freeze ⟨g, cs.size, none⟩ 1) := by
  simp [markStringish, World.shape?, h]
theorem bytes_loop (f : Value → ByteArray → Sem (ForInStep ByteArray)) (hf : ∀ (x : UInt8) s, f (E8 x) s = pure (ForInStep.yield (s.push x))) (xs : List UInt8) : ∀ (acc : List UInt8) (w : World),
    (forIn (xs.map E8) (⟨acc.toArray⟩ : ByteArray) f).run P w = .ok ⟨(acc ++ xs).toArray⟩ w := by
  induction xs with
  | nil => intro acc w; simp
  | cons x r ih =>
    intro acc w
    simp only [List.map_cons, List.forIn_cons, hf, Sem.run_bind, Sem.run_pure, Result.andThen_ok]
    have e : (⟨acc.toArray⟩ : ByteArray).push x = ⟨(acc ++ [x]).toArray⟩ := by
      apply ByteArray.ext; simp
    rw [e]
    have := ih (acc ++ [x]) w
    simpa using this
theorem run_bytesToString {v : Value} {n : Nat} {xs : List UInt8} (h : SliceCells w v 1 n (xs.map E8)) : (Conv.bytesToString v).run P w = .ok (.string ⟨xs.toArray⟩) w := by
  obtain ⟨ad, cap, rfl, h1, h2, h3⟩ := h
  rw [Nat.mul_one] at h1
  have hl : xs.length = n := by simpa using h1
  cases ad with
  | none =>
    have : n = 0 := by
      rcases Nat.eq_zero_or_pos n with h | h
      · exact h
      · obtain ⟨a, ha, _⟩ := h3 h; cases ha
    subst this
    have : xs = [] := List.eq_nil_of_length_eq_zero hl
    subst this
    rfl
  | some a =>
    have hld : (loadCells a n).run P w = .ok (xs.map E8).toArray w := by
      rcases Nat.eq_zero_or_pos n with h | h
      · subst h
        have : xs = [] := List.eq_nil_of_length_eq_zero hl
        subst this
        simpa using run_loadCells_list (P := P) w a [] (by simp)
      · obtain ⟨a', ha, hc⟩ := h3 h
        cases ha
        have := run_loadCells_list (P := P) w a (xs.map E8) hc
        rw [h1] at this
        exact this
    simp only [Conv.bytesToString, Sem.run_bind, hld, Result.andThen_ok, List.forIn_toArray]
    have e : ByteArray.empty = (⟨([] : List UInt8).toArray⟩ : ByteArray) := rfl
    rw [e, bytes_loop (P := P) _ (fun x s => by simp) xs [] w]
    simp
end
end Go.Vc
set_option linter.unusedVariables false
set_option linter.unusedSimpArgs false
namespace Go.Vc
open Go Go.RowKit

section
variable {P : Program} {tt : TT} {m : Hd} {w : World} {me : Mem} {kb : Nat}

theorem freeze_heap {w : World} {g n : Nat} {cs : Array Value} {T : Nat} (h : w.heap[g]? = some (.cells cs T (0, 0))) :
    (w.freeze ⟨g, n, none⟩ 1).heap[g]? = some (.cells cs T (n, n + 1)) := by
  simp [World.freeze, Array.getElem?_modify, h]
theorem markStringish_run2 {w : World} {g o T : Nat} {cs : Array Value} {fz : Nat × Nat} (h : w.heap[g]? = some (.cells cs T fz)) : (markStringish ⟨g, o, none⟩).run P w = .ok () (w.freeze ⟨g, cs.size, none⟩ 1) := by
  have hs : w.shape? g = some (T, cs.size) := by
    unfold World.shape?
    rw [h]
  unfold markStringish
  simp [hs]
/-- the mark behind a row's last cell -/
def markFz (fz : Nat × Nat) (n : Nat) : Nat × Nat := if fz.1 == fz.2 then (n, n + 1) else (min fz.1 n, max fz.2 (n + 1))
theorem freeze_heap2 {w : World} {g n T : Nat} {cs : Array Value} {fz : Nat × Nat} (h : w.heap[g]? = some (.cells cs T fz)) :
    (w.freeze ⟨g, n, none⟩ 1).heap[g]? = some (.cells cs T (markFz fz n)) := by
  obtain ⟨a, b⟩ := fz
  simp [World.freeze, Array.getElem?_modify, h, markFz]
theorem markFz_thawed {fz : Nat × Nat} {n : Nat} (h : Thawed fz n) : Thawed (markFz fz n) n := by
  unfold markFz
  split
  · exact .inr (Nat.le_refl _)
  · rename_i hne
    rcases h with h | h
    · exact absurd (by simpa using h) hne
    · exact .inr (by show n ≤ min fz.1 n; omega)
theorem freeze_other {w : World} {g n b : Nat} (hb : b ≠ g) : (w.freeze ⟨g, n, none⟩ 1).heap[b]? = w.heap[b]? := by
  simp only [World.freeze, Nat.one_ne_zero, if_false, Array.getElem?_modify]
  rw [if_neg (fun e => hb e.symm)]
theorem run_stringToBytes {w : World} {te : Nat} {xs : List UInt8} (hl : xs.length ≤ 4611686018427387904) :
    ∃ w' cap, (Conv.stringToBytes te ⟨xs.toArray⟩).run P w = .ok (.slice (some ⟨w.heap.size, 0, none⟩) xs.length cap) w' ∧
      OwnRow w' te 1 (.slice (some ⟨w.heap.size, 0, none⟩) xs.length cap) xs.length (xs.map E8) ∧ (∀ b, blk (.slice (some ⟨w.heap.size, 0, none⟩) xs.length cap) = some b → b = w.heap.size) ∧ w'.heap.size = w.heap.size + 1 ∧ (∀ b, b < w.heap.size → w'.heap[b]? = w.heap[b]?) ∧
      w'.os = w.os ∧ w'.tape = w.tape ∧ w'.output = w.output := by
  have hs : (⟨xs.toArray⟩ : ByteArray).size = xs.length := by simp [ByteArray.size]
  have hge := grownCap_ge w xs.length 0 te
  have hle : grownCap w xs.length 0 te ≤ maxLen := grownCap_le_maxLen w _ 0 te (by unfold maxLen; omega)
  let arr : Array Value := (xs.map E8).toArray ++ Array.replicate (grownCap w xs.length 0 te - xs.length) (.int .u8 0)
  have harr : arr.size = grownCap w xs.length 0 te := by simp [arr]; omega
  have hnew : (w.drew.alloc (.cells arr te)).heap[w.heap.size]? = some (.cells arr te (0, 0)) := heap_alloc_new w.drew _
  have hown : OwnRow ((w.drew.alloc (.cells arr te)).freeze ⟨w.heap.size, arr.size, none⟩ 1) te 1 (.slice (some ⟨w.heap.size, 0, none⟩) xs.length (grownCap w xs.length 0 te)) xs.length (xs.map E8) := by
    refine ⟨by simp, ?_⟩
    by_cases h0 : grownCap w xs.length 0 te = 0
    · exact .inl ⟨_, by rw [h0, show xs.length = 0 by omega], by omega⟩
    · exact .inr ⟨w.heap.size, 0, _, arr, (arr.size, arr.size + 1), rfl, freeze_heap hnew, .inr (Nat.le_refl _), hge, by omega, hle, by omega, by simp [arr]⟩
  refine ⟨(w.drew.alloc (.cells arr te)).freeze ⟨w.heap.size, arr.size, none⟩ 1, grownCap w xs.length 0 te, ?_, hown, fun b hb => ?_, ?_, fun b hb => ?_, rfl, rfl, rfl⟩
  · have hm := markStringish_run (P := P) hnew
    have e : (⟨xs.toArray⟩ : ByteArray).data.map (fun b => Value.int .u8 (b.toNat : Int)) = (xs.map E8).toArray := by simp
    unfold Conv.stringToBytes
    simp only [Sem.run_bind, run_choose, Question.forced, Bool.false_eq_true, if_false, Result.andThen_ok, hs, newRow, run_newObj, Sem.run_pure]
    have e2 : ({ ({ w with drawn := w.drawn + 1 } : World) with heap := ({ w with drawn := w.drawn + 1 } : World).heap.push (.cells ((⟨xs.toArray⟩ : ByteArray).data.map (fun b => Value.int .u8 (b.toNat : Int)) ++ Array.replicate ((Question.appendCap xs.length 0 te).cut (w.tape w.drawn (Question.appendCap xs.length 0 te)) - xs.length) (.int .u8 0)) te) } : World) = w.drew.alloc (.cells arr te) := by
      rw [e]; rfl
    rw [e2]
    have hm' : (markStringish ⟨({ w with drawn := w.drawn + 1 } : World).heap.size, 0, none⟩).run P (w.drew.alloc (.cells arr te)) = .ok () ((w.drew.alloc (.cells arr te)).freeze ⟨w.heap.size, arr.size, none⟩ 1) := hm
    rw [hm']
    rfl
  · by_cases h0 : grownCap w xs.length 0 te = 0
    · rw [h0, blk_slice0] at hb; cases hb
    · rw [blk_slice (by omega)] at hb; cases hb; rfl
  · simp [World.freeze]
  · rw [freeze_other (by omega)]
    exact Below.heap_alloc w.drew _ b hb

theorem conv_sound (ht : TTok P tt) (hb : Base m w me kb) {src dst : Nat} {x : AV} {vx : Value} {e : Eff} (hx : RV m w x vx) (h : (convEv real tt kb src dst x).run me = some e) (hc : e.c) :
    ∃ v m' w', (convert src dst vx).run P w = .ok v w' ∧ OkE m w me kb e.v e.puts v m' w' := by
  unfold convEv at h
  split at h
  · -- to a whole number
    rename_i k _ _ _ _ hl
    have hd : P.underlying dst = some (.int k) := (ht.look hl).k
    split at h
    · rename_i n j _ _ _ _ hn hl2
      have hs : P.underlying src = some (.int j) := (ht.look hl2).k
      obtain ⟨k0, rfl⟩ := num_int hn hx
      split at h
      · rename_i v hv
        have := Look.run_pure1 h
        subst this
        exact ⟨_, _, _, run_conv_int hd hs, hb.same (intTo_sound hv)⟩
      · exact (Look.run_no h).elim
    · exact (Look.run_no h).elim
  · -- to a text
    rename_i hl
    have hd : P.underlying dst = some .string := (ht.look hl).k
    split at h
    · rename_i hl2
      have hs : P.underlying src = some .string := (ht.look hl2).k
      split at h
      · rename_i xs
        have := Look.run_pure1 h
        subst this
        simp only [RV, CR, List.cons.injEq, and_true] at hx
        subst hx
        exact ⟨.string ⟨xs.toArray⟩, m, w, by simp [convert, run_underlying hd, run_underlying hs], hb.same (by simp [RV, CR])⟩
      · exact (Look.run_no h).elim
    · rename_i te _ _ _ _ hl2
      have hs : P.underlying src = some (.slice te) := (ht.look hl2).k
      split at h
      · rename_i hl3
        have hte : P.underlying te = some (.int .u8) := (ht.look hl3).k
        have hrun : ∀ ad n cap, (convert src dst (.slice ad n cap)).run P w = (Conv.bytesToString (.slice ad n cap)).run P w := fun ad n cap => by
          simp [convert, run_underlying hd, run_underlying hs, run_underlying hte]
        split at h
        · have := Look.run_pure1 h
          subst this
          simp only [RV, CR, List.cons.injEq, and_true] at hx
          subst hx
          exact ⟨_, _, _, by rw [hrun]; rfl, hb.same (by simp [RV, CR]; rfl)⟩
        · have := Look.run_pure1 h
          subst this
          simp only [RV, CR, List.cons.injEq, and_true] at hx
          obtain ⟨ad, rfl⟩ := hx
          refine ⟨.string ⟨([] : List UInt8).toArray⟩, _, _, by rw [hrun]; exact run_bytesToString (P := P) (n := 0) (xs := []) ⟨ad, 0, rfl, rfl, Nat.le_refl _, fun h => by omega⟩, hb.same (by simp [RV, CR])⟩
        · obtain ⟨c, cs, e0, h1, h2, h3, h4, h5, h6, h6b, h7⟩ := content_sound hb hx h hc
          rw [← h3, ← h4]
          split at h1
          · rename_i xs
            have := Look.run_pure1 h1
            subst this
            simp only [RC] at h5
            subst h5
            have hr := run_bytesToString (P := P) h7
            obtain ⟨ad, cap, rfl, _⟩ := h7
            exact ⟨_, _, _, by rw [hrun]; exact hr, hb.same (by simp [RV, CR])⟩
          · exact (Look.run_no h1).elim
      · exact (Look.run_no h).elim
    · exact (Look.run_no h).elim
  · -- to bytes
    rename_i te _ _ _ _ hl
    have hd : P.underlying dst = some (.slice te) := (ht.look hl).k
    split at h
    · rename_i hl2
      have hte : P.underlying te = some (.int .u8) := (ht.look hl2).k
      split at h
      · rename_i xs _ _ _ _ hl3
        have hs : P.underlying src = some .string := (ht.look hl3).k
        simp only [Look.run, Option.some.injEq] at h
        subst h
        simp only [RV, CR, List.cons.injEq, and_true] at hx
        subst hx
        have hcap : xs.length ≤ 4611686018427387904 := hc.2
        obtain ⟨w', cap, g1, g2, g2b, g3, g4, g5, g6, g7⟩ := run_stringToBytes (P := P) (w := w) (te := te) hcap
        refine ⟨_, _, w', ?_, hb.newRow g2 (by simp [RC]) rfl (by omega) (fun b hb' => Nat.le_of_eq (g2b b hb').symm) g4 g5 g6 g7⟩
        simp [convert, run_underlying hd, run_underlying hs, run_underlying hte, g1]
      · rename_i k _ _ _ _ _ hl3
        split at h
        · rename_i hsd
          have hsd := beq_nat hsd
          subst hsd
          have h' := Look.run_look h
          clear h
          obtain ⟨ab, hab, h⟩ := h'
          split at h
          · rename_i T e c
            split at h
            · rename_i hE
              simp only [Look.run, Option.some.injEq] at h
              subst h
              obtain ⟨v0, n, cs, h1, h2, h3⟩ := row_cells hb.mem hab
              simp only [RV, CR, List.cons.injEq, and_true] at hx
              obtain ⟨v1, h4, h5, h6⟩ := hx
              subst h5
              rw [h1] at h4; cases h4
              obtain ⟨he1, he2⟩ := isE_spec hE
              have hlen := RC_len he1 h3
              have hpos : 0 < c.len real := hc
              rcases h2.2 with ⟨ad, _, hn0⟩ | ⟨g, o, cap, cur, fz, rfl, q1, q2, q3, q4, q5, q6, q7⟩
              · exfalso
                have := h2.1
                rw [hn0, Nat.zero_mul] at this
                have : 0 < c.len real * e := Nat.mul_pos hpos he2
                omega
              · have hm : (markStringish ⟨g, o, none⟩).run P w = .ok () (w.freeze ⟨g, cur.size, none⟩ 1) := markStringish_run2 q1
                have hfs : (w.freeze ⟨g, cur.size, none⟩ 1).heap.size = w.heap.size := by simp [World.freeze]
                have hw2 := freeze_heap2 (n := cur.size) q1
                refine ⟨.slice (some ⟨g, o, none⟩) n cap, m, w.freeze ⟨g, cur.size, none⟩ 1, ?_, hb.write hab rfl h1 (blk_slice q4) hfs (fun b hb' => freeze_other hb') rfl rfl rfl
                  ⟨_, n, cs, h1, ⟨h2.1, .inr ⟨g, o, cap, cur, _, rfl, hw2, markFz_thawed q2, q3, q4, q5, q6, q7⟩⟩, ?_⟩ ?_⟩
                · simp [convert, run_underlying hd, run_underlying hte, hm]
                · have htr := tr_write (w' := w.freeze ⟨g, cur.size, none⟩ 1) (hb.mem.live k _ _ g hab rfl h1 (blk_slice q4)) h1 (blk_slice q4) hfs (fun b hb' => freeze_other hb') rfl rfl rfl
                  exact RC_mono htr.pres c cs h3
                · simp only [RV, CR, List.cons.injEq, and_true]
                  exact ⟨_, h1, rfl, rfl⟩
            · exact (Look.run_no h).elim
          · exact (Look.run_no h).elim
        · exact (Look.run_no h).elim
      · exact (Look.run_no h).elim
    · exact (Look.run_no h).elim
  · exact (Look.run_no h).elim

/-! ## make -/
theorem madeCells_flat (z : Array Value) (hz : 0 < z.size) (n : Nat) : (madeCells z (n * z.size)).toList = (List.replicate n z.toList).flatten := by
  have hlen : ∀ (j : Nat) (d : List Value), (List.replicate n z.toList)[j]? = some d → d.length = z.size := by
    intro j d hd
    rw [List.getElem?_replicate] at hd
    split at hd
    · cases hd; simp
    · cases hd
  simp only [madeCells]
  apply List.ext_getElem?
  intro j
  simp only [Array.toList_map, Array.toList_range, List.getElem?_map]
  by_cases hj : j < n * z.size
  · have h1 : j / z.size < n := by rw [Nat.div_lt_iff_lt_mul hz]; exact hj
    have h2 : j % z.size < z.size := Nat.mod_lt _ hz
    have h3 : (List.replicate n z.toList)[j / z.size]? = some z.toList := by rw [List.getElem?_replicate, if_pos h1]
    have h4 : z.toList[j % z.size]? = some (z[j % z.size]) := by simp [h2]
    have h5 := flat_get hlen _ _ h3 _ _ h4
    rw [show j / z.size * z.size + j % z.size = j by rw [Nat.mul_comm]; exact Nat.div_add_mod j _] at h5
    rw [h5, List.getElem?_range hj]
    simp [h2]
  · have h6 : (List.replicate n z.toList).flatten.length = n * z.size := by rw [flat_len hlen]; simp
    rw [List.getElem?_eq_none (l := (List.replicate n z.toList).flatten) (by omega), List.getElem?_eq_none (by simp; omega)]
    rfl
theorem makeSlice_sound (ht : TTok P tt) (hb : Base m w me kb) {T : Nat} {n c : AV} {vn vc : Value} {e : Eff} (hn : RV m w n vn) (hcv : RV m w c vc)
    (h : (makeSliceEv real tt kb T n c).run me = some e) (hc : e.c) : ∃ v m' w', (Instr.makeSlice T vn vc).run P w = .ok v w' ∧ OkE m w me kb e.v e.puts v m' w' := by
  unfold makeSliceEv at h
  split at h
  · rename_i a b
    simp only [RV, CR, List.cons.injEq, and_true] at hn hcv
    subst hn; subst hcv
    split at h
    · rename_i te _ _ _ _ hl
      have hT : P.underlying T = some (.slice te) := (ht.look hl).k
      split at h
      · rename_i kk es by_ z0 ek hl2
        obtain ⟨i, z, hi, hsz, hby, hz, hzs, _, hek⟩ := (ht.look hl2).i
        obtain ⟨hesz, hz1, hrep⟩ := hek ek rfl
        have hsz : i.size = es := hsz
        have hby : i.bytes = by_ := hby
        have hzs : z.cells.size = es := hzs
        split at h
        · rename_i _ hpos
          have hpos : 0 < es := by simp [Nat.blt] at hpos; omega
          simp only [Look.run, Option.some.injEq] at h
          subst h
          obtain ⟨c1, c2, c3, c4, c5⟩ := hc
          have c1 : 0 ≤ a := c1
          have c2 : a ≤ b := c2
          have c4 : b * (by_ : Int) ≤ 281474976710656 := c4
          have c5 : b ≤ 4611686018427387904 := c5
          have hr := run_make (P := P) w T te i z hT hi hz .i64 .i64 a b c1 c2 (by rw [hby, Int.mul_comm]; exact c4) (by omega)
          have hlenz : ∀ q (j : Nat) (d : List Value), (List.replicate q z.cells.toList)[j]? = some d → d.length = es := by
            intro q j d hd
            rw [List.getElem?_replicate] at hd
            split at hd
            · cases hd; simpa using hzs
            · cases hd
          have hmc := madeCells_flat z.cells (by omega) b.toNat
          rw [hzs] at hmc
          rw [hsz] at hr
          have hmsz : (madeCells z.cells (b.toNat * es)).size = b.toNat * es := by rw [size_madeCells]
          have hown : OwnRow (w.alloc (.cells (madeCells z.cells (b.toNat * es)) te)) te es (.slice (some ⟨w.heap.size, 0, none⟩) a.toNat b.toNat) a.toNat (List.replicate a.toNat z.cells.toList).flatten := by
            refine ⟨by rw [flat_len (hlenz _)]; simp, ?_⟩
            by_cases h0 : b.toNat = 0
            · exact .inl ⟨_, by rw [h0, show a.toNat = 0 by omega], by omega⟩
            · refine .inr ⟨w.heap.size, 0, b.toNat, _, (0, 0), rfl, heap_alloc_new w _, thawed_none _, by omega, by omega, by unfold maxLen; omega, by omega, ?_⟩
              rw [List.drop_zero, hmc, flat_take (hlenz _), List.take_replicate]
              congr 2; omega
          have hbl : ∀ x, blk (.slice (some ⟨w.heap.size, 0, none⟩) a.toNat b.toNat) = some x → w.heap.size ≤ x := by
            intro x hx
            by_cases h0 : b.toNat = 0
            · rw [h0, blk_slice0] at hx; cases hx
            · rw [blk_slice (by omega)] at hx; cases hx; exact Nat.le_refl _
          exact ⟨_, _, _, hr, hb.newRow hown (hrep m w _) rfl (by simp) hbl (fun x hx => Below.heap_alloc w _ x hx) rfl rfl rfl⟩
        · exact (Look.run_no h).elim
      · exact (Look.run_no h).elim
    · exact (Look.run_no h).elim
  · exact (Look.run_no h).elim

/-! ## Parts -/
def PartsR (m : Hd) (w : World) : List (Nat × AV) → List (Nat × Value) → Prop
  | [], [] => True
  | (i, a) :: r, (j, v) :: s => i = j ∧ RV m w a v ∧ PartsR m w r s
  | _, _ => False
theorem sets_list (off : Nat) : ∀ (l : List Value) (k : Nat) (cs : Array Value), off + k + l.length ≤ cs.size →
    ((l.zipIdx k).foldl (fun cs (p : Value × Nat) => cs.setIfInBounds (off + p.2) p.1) cs).toList = cs.toList.take (off + k) ++ l ++ cs.toList.drop (off + k + l.length)
  | [], k, cs, h => by simp
  | v :: r, k, cs, h => by
    simp only [List.length_cons] at h
    simp only [List.zipIdx_cons, List.foldl_cons]
    rw [sets_list off r (k + 1) _ (by simp; omega)]
    have e := list_seg_step cs.toList (off + k) v r (by simp; omega)
    simp only [Array.toList_setIfInBounds, List.length_cons]
    rw [show off + (k + 1) = off + k + 1 by omega, e]
theorem ifill_step {place : Nat → Option (Nat × Nat)} {cs : Array Value} {i off size : Nat} {v : Value} {r : List (Nat × Value)} (hp : place i = some (off, size)) (h : v.cells.size = size) (hi : off + size ≤ cs.size) :
    Instr.fill place cs ((i, v) :: r) = Instr.fill place (cs.toList.take off ++ v.cells.toList ++ cs.toList.drop (off + size)).toArray r := by
  have h1 : ¬ (v.cells.size ≠ size || off + v.cells.size > cs.size) = true := by simp [h]; omega
  simp only [Instr.fill, hp]
  rw [if_neg h1]
  congr 1
  apply Array.ext'
  have h2 := sets_list off v.cells.toList 0 cs (by simp; omega)
  simp only [Nat.add_zero] at h2
  rw [List.toList_toArray]
  have h3 : v.cells.toList.length = size := by simpa using h
  rw [h3] at h2
  rw [← h2]
  rw [← Array.foldl_toList, Array.toList_zipIdx]
/-- the values of parts, all of which fit a layout -/
theorem CVs_of {lay : Lay} : ∀ (l : List AV) (vs : List Value), allFit lay l = true → RVs m w l vs → CVs m w l vs ∧ ∀ v ∈ vs, v.cells.size = lay.cells
  | [], vs, h, hv => by simp only [RVs] at hv; subst hv; exact ⟨rfl, by simp⟩
  | a :: l, vs, h, hv => by
    simp only [allFit] at h
    split at h
    · rename_i hf
      simp only [RVs] at hv
      obtain ⟨v, r, rfl, h1, h2⟩ := hv
      obtain ⟨g1, g2⟩ := CVs_of l r h h2
      obtain ⟨q1, q2⟩ := fit_cells hf h1
      exact ⟨⟨v, r, rfl, q1, h1, g1⟩, fun x hx => by
        rcases List.mem_cons.1 hx with rfl | hx
        · exact q2
        · exact g2 x hx⟩
    · cases h
theorem RVs_len : ∀ (l : List AV) (vs : List Value), RVs m w l vs → vs.length = l.length
  | [], vs, h => by simp only [RVs] at h; subst h; rfl
  | a :: l, vs, h => by simp only [RVs] at h; obtain ⟨v, r, rfl, _, h2⟩ := h; simp [RVs_len l r h2]
theorem cellsOf_len {e : Nat} : ∀ (vs : List Value), (∀ v ∈ vs, v.cells.size = e) → (cellsOf vs).length = vs.length * e
  | [], _ => by simp [cellsOf]
  | v :: r, h => by
    have h1 : v.cells.toList.length = e := by simpa using h v (by simp)
    simp only [cellsOf, List.length_append, List.length_cons, h1, cellsOf_len r (fun x hx => h x (by simp [hx])), Nat.succ_mul]; omega
/-- parts in order, all there -/
theorem fill_order {lay : Lay} {e : Nat} (he : lay.cells = e) : ∀ (l : List AV) (parts : List (Nat × AV)) (vparts : List (Nat × Value)) (i : Nat) (cs : Array Value), inOrder i parts = some l → PartsR m w parts vparts → allFit lay l = true →
    (i + l.length) * e ≤ cs.size → ∃ vs, RVs m w l vs ∧ Instr.fill (fun i => some (i * e, e)) cs vparts = some ((cs.toList.take (i * e) ++ cellsOf vs ++ cs.toList.drop ((i + l.length) * e)).toArray)
  | l, [], vparts, i, cs, h, hp, hk, hl => by
    simp only [inOrder, Option.some.injEq] at h
    subst h
    cases vparts with
    | nil => exact ⟨[], by simp [RVs], by simp [Instr.fill, cellsOf]⟩
    | cons _ _ => simp [PartsR] at hp
  | l, (j, a) :: r, vparts, i, cs, h, hp, hk, hl => by
    simp only [inOrder] at h
    split at h
    · rename_i hb
      have := beq_nat hb
      subst this
      split at h
      · rename_i l' hl'
        cases h
        cases vparts with
        | nil => simp [PartsR] at hp
        | cons p s =>
          obtain ⟨j, v⟩ := p
          simp only [PartsR] at hp
          obtain ⟨rfl, hv, hp⟩ := hp
          simp only [allFit] at hk
          split at hk
          · rename_i hf
            obtain ⟨q1, q2⟩ := fit_cells hf hv
            simp only [List.length_cons] at hl
            have hle : i * e + e ≤ (i + (l'.length + 1)) * e := by rw [← Nat.succ_mul]; exact Nat.mul_le_mul_right _ (by omega)
            have hcl : v.cells.toList.length = e := by simp; omega
            have hcz : cs.toList.length = cs.size := by simp
            have hlen : (cs.toList.take (i * e) ++ v.cells.toList ++ cs.toList.drop (i * e + e)).length = cs.size := by
              simp only [List.length_append, List.length_take, List.length_drop, hcl]; omega
            obtain ⟨vs, g1, g2⟩ := fill_order he l' r s (i + 1) (cs.toList.take (i * e) ++ v.cells.toList ++ cs.toList.drop (i * e + e)).toArray hl' hp hk (by
              rw [List.size_toArray, hlen]
              rw [show i + 1 + l'.length = i + (l'.length + 1) by omega]; exact hl)
            refine ⟨v :: vs, by simp only [RVs]; exact ⟨v, vs, rfl, hv, g1⟩, ?_⟩
            rw [ifill_step (off := i * e) (size := e) rfl (by omega) (by omega), g2]
            simp only [List.toList_toArray, cellsOf, List.length_cons]
            congr 2
            have e1 : (i + 1) * e = i * e + e := by rw [Nat.succ_mul]
            have e2 : (i + 1 + l'.length) * e = (i + (l'.length + 1)) * e := by congr 1; omega
            have e3 : (i + (l'.length + 1)) * e = i * e + e + l'.length * e := by rw [Nat.add_mul, Nat.succ_mul]; omega
            have t1 : List.take ((i + 1) * e) (cs.toList.take (i * e) ++ v.cells.toList ++ cs.toList.drop (i * e + e)) = cs.toList.take (i * e) ++ v.cells.toList := by
              rw [e1]
              have : (cs.toList.take (i * e) ++ v.cells.toList).length = i * e + e := by simp only [List.length_append, List.length_take, hcl]; omega
              rw [← this, List.take_left]
            have t2 : List.drop ((i + 1 + l'.length) * e) (cs.toList.take (i * e) ++ v.cells.toList ++ cs.toList.drop (i * e + e)) = cs.toList.drop ((i + (l'.length + 1)) * e) := by
              rw [e2, e3]
              have : (cs.toList.take (i * e) ++ v.cells.toList).length = i * e + e := by simp only [List.length_append, List.length_take, hcl]; omega
              rw [← this, List.drop_length_add_append, List.drop_drop, this]
            rw [t1, t2]
            simp
          · cases hk
      · cases h
    · cases h
theorem inOrder_len : ∀ (parts : List (Nat × AV)) (i : Nat) (l : List AV), inOrder i parts = some l → l.length = buildEv.plen parts
  | [], i, l, h => by simp only [inOrder, Option.some.injEq] at h; subst h; rfl
  | (j, a) :: r, i, l, h => by
    simp only [inOrder] at h
    split at h
    · split at h
      · rename_i l' hl'
        cases h
        simp [buildEv.plen, inOrder_len r _ l' hl']
      · cases h
    · cases h
theorem buildSlice_sound (ht : TTok P tt) (hb : Base m w me kb) {T len : Nat} {parts : List (Nat × AV)} {vparts : Array (Nat × Value)} {e : Eff} (hp : PartsR m w parts vparts.toList)
    (h : (buildSliceEv tt kb T len parts).run me = some e) : ∃ v m' w', (Instr.buildSlice T len vparts).run P w = .ok v w' ∧ OkE m w me kb e.v e.puts v m' w' := by
  unfold buildSliceEv at h
  split at h
  · rename_i te _ _ _ _ hl
    have hT : P.underlying T = some (.slice te) := (ht.look hl).k
    split at h
    · rename_i kk es by_ lay ek hl2
      obtain ⟨i, z, hi, hsz, hby, hz, hzs, _, hek⟩ := (ht.look hl2).i
      obtain ⟨hesz, hz1, hrep⟩ := hek ek rfl
      have hsz : i.size = es := hsz
      have hcells : lay.cells = es := (ht.look hl2).cells
      split at h
      · rename_i hlen hmax _ hpos
        have hlen := beq_nat hlen
        have hmax := ble_nat hmax
        have hpos : 0 < es := by simp [Nat.blt] at hpos; omega
        split at h
        · rename_i l hl3
          split at h
          · rename_i c hc hfit
            simp only [Look.run, Option.some.injEq] at h
            subst h
            have hll := inOrder_len parts 0 l hl3
            have hmade : ∀ (a : Array Value), a.size = len * es → ∃ vs, RVs m w l vs ∧ Instr.fill (fun i => some (i * es, es)) a vparts.toList = some (cellsOf vs).toArray := by
              intro a ha
              obtain ⟨vs, g1, g2⟩ := fill_order hcells l parts vparts.toList 0 a hl3 hp hfit (by rw [ha, Nat.zero_add, hll, hlen]; exact Nat.le_refl _)
              refine ⟨vs, g1, ?_⟩
              rw [g2, Nat.zero_mul, List.take_zero, List.nil_append, Nat.zero_add, hll, hlen, List.drop_of_length_le (by simp; omega), List.append_nil]
            obtain ⟨vs, g1, g2⟩ := hmade ((Array.range (len * es)).map (((if len * es = 0 then #[] else z.cells) : Array Value)[· % ((if len * es = 0 then #[] else z.cells) : Array Value).size]!)) (by simp)
            have hvl := RVs_len l vs g1
            obtain ⟨cv1, cv2⟩ := CVs_of l vs hfit g1
            obtain ⟨r1, r2⟩ := ofAVs_sound hc cv1
            have hcl : (cellsOf vs).length = len * es := by rw [cellsOf_len vs cv2, hvl, hll, hlen, hcells]
            have hown : OwnRow (w.alloc (.cells (cellsOf vs).toArray te)) te es (.slice (some ⟨w.heap.size, 0, none⟩) len len) len (cellsOf vs) := by
              refine ⟨hcl, ?_⟩
              by_cases h0 : len = 0
              · exact .inl ⟨_, by rw [h0], h0⟩
              · refine .inr ⟨w.heap.size, 0, len, _, (0, 0), rfl, heap_alloc_new w _, thawed_none _, Nat.le_refl _, by omega, ?_, by simp; omega, ?_⟩
                · have : len * 1 ≤ len * es := Nat.mul_le_mul_left _ hpos
                  unfold maxLen; omega
                · show List.take (len * es) (List.drop 0 (cellsOf vs)) = cellsOf vs
                  rw [List.drop_zero, List.take_of_length_le (by omega)]
            have hbl : ∀ x, blk (.slice (some ⟨w.heap.size, 0, none⟩) len len) = some x → w.heap.size ≤ x := by
              intro x hx
              by_cases h0 : len = 0
              · rw [h0, blk_slice0] at hx; cases hx
              · rw [blk_slice (by omega)] at hx; cases hx; exact Nat.le_refl _
            refine ⟨.slice (some ⟨w.heap.size, 0, none⟩) len len, _, w.alloc (.cells (cellsOf vs).toArray te), ?_, hb.newRow hown r1 rfl (by simp) hbl (fun x hx => Below.heap_alloc w _ x hx) rfl rfl rfl⟩
            have hbig : ¬ (len * es > 2 ^ 24) := by omega
            unfold Instr.buildSlice
            simp only [Sem.run_bind, run_underlying hT, Result.andThen_ok, sizeOf, typeInfo, run_program, hi, Sem.run_pure, hsz]
            rw [if_neg hbig]
            by_cases h0 : len * es = 0
            · rw [if_pos h0] at g2
              simp only [h0, if_true, Sem.run_pure, Sem.run_bind, Result.andThen_ok] at g2 ⊢
              rw [g2]
              simp [newRow]
            · rw [if_neg h0] at g2
              simp only [h0, if_false, Sem.run_bind, zeroValue, typeInfo, run_program, Result.andThen_ok, hi, hz, Sem.run_pure] at g2 ⊢
              rw [g2]
              simp [newRow]
          · exact (Look.run_no h).elim
        · exact (Look.run_no h).elim
      · exact (Look.run_no h).elim
    · exact (Look.run_no h).elim
  · exact (Look.run_no h).elim
end
end Go.Vc
set_option linter.unusedVariables false
set_option linter.unusedSimpArgs false
namespace Go.Vc
open Go Go.RowKit

section
variable {P : Program} {tt : TT} {m : Hd} {w : World} {me : Mem} {kb : Nat}

/-! ## build -/
mutual
theorem zav_sound : ∀ (lay : Lay) (s : List Seg) (cs : List Value), SegsR m w (lay.segs ++ s) cs → ∃ c1 c2, cs = c1 ++ c2 ∧ CR m w lay.zav c1 ∧ c1.length = lay.cells ∧ SegsR m w s c2
  | .one z, s, cs, h => by
    simp only [Lay.segs, List.cons_append, List.nil_append, SegsR, RC, LR] at h
    obtain ⟨c1, c2, rfl, h1, ⟨d1, d2, rfl, h2, rfl⟩, h3⟩ := h
    exact ⟨d1, c2, by simp, h2, by simpa [Lay.cells] using h1, h3⟩
  | .arr n z, s, cs, h => by
    simp only [Lay.segs, List.cons_append, List.nil_append, SegsR] at h
    obtain ⟨c1, c2, rfl, h1, h2, h3⟩ := h
    exact ⟨c1, c2, rfl, by simp only [Lay.zav, CR]; exact ⟨h1, h2⟩, by simp [Lay.cells, h1], h3⟩
  | .st l, s, cs, h => by
    simp only [Lay.segs] at h
    obtain ⟨c1, c2, h1, h2, h3, h4⟩ := lzavs_sound l s cs h
    exact ⟨c1, c2, h1, by simp only [Lay.zav, CR, RC]; exact ⟨h3, h2⟩, h3, h4⟩
theorem lzavs_sound : ∀ (l : List Lay) (s : List Seg) (cs : List Value), SegsR m w (lsegs l ++ s) cs → ∃ c1 c2, cs = c1 ++ c2 ∧ LR m w (lzavs l) c1 ∧ c1.length = lcells l ∧ SegsR m w s c2
  | [], s, cs, h => ⟨[], cs, rfl, by simp [lzavs, LR], rfl, h⟩
  | a :: l, s, cs, h => by
    simp only [lsegs, List.append_assoc] at h
    obtain ⟨c1, c2, rfl, h1, h2, h3⟩ := zav_sound a (lsegs l ++ s) cs h
    obtain ⟨d1, d2, rfl, g1, g2, g3⟩ := lzavs_sound l s c2 h3
    refine ⟨c1 ++ d1, d2, by simp, ?_, by simp [lcells, h2, g2], g3⟩
    simp only [lzavs, LR]
    exact ⟨c1, d1, rfl, h1, g1⟩
end
/-- values of these widths -/
def wids : List Lay → List AV → Prop
  | [], l => l = []
  | a :: r, l => ∃ x q, l = x :: q ∧ x.wid = a.cells ∧ wids r q
theorem lzavs_wids : ∀ (l : List Lay) (cs : List Value), SegsR m w (lsegs l) cs → wids l (lzavs l)
  | [], cs, h => by simp [wids, lzavs]
  | a :: l, cs, h => by
    simp only [lsegs] at h
    obtain ⟨c1, c2, _, h1, h2, h3⟩ := zav_sound a (lsegs l) cs h
    simp only [wids, lzavs]
    exact ⟨_, _, rfl, by rw [← CR_wid h1, h2], lzavs_wids l c2 h3⟩
theorem LR_set : ∀ (lays : List Lay) (l : List AV) (i c : Nat) (off : Nat) (lay : Lay) (v : AV) (cs ds : List Value), wids lays l → (layOffs c lays)[i]? = some (c + off, lay.cells) → stParts.nth lays i = some lay → LR m w l cs → CR m w v ds → v.wid = lay.cells →
    LR m w (lset l i v) (cs.take off ++ ds ++ cs.drop (off + lay.cells)) ∧ wids lays (lset l i v) ∧ off + lay.cells ≤ cs.length
  | [], l, i, c, off, lay, v, cs, ds, hw, ho, hn, hl, hv, hwd => by simp [stParts.nth] at hn
  | a :: r, l, 0, c, off, lay, v, cs, ds, hw, ho, hn, hl, hv, hwd => by
    simp only [stParts.nth, Option.some.injEq] at hn
    subst hn
    simp only [layOffs, List.getElem?_cons_zero, Option.some.injEq, Prod.mk.injEq] at ho
    have hoff : off = 0 := by omega
    subst hoff
    obtain ⟨x, q, rfl, h1, h2⟩ := hw
    simp only [LR] at hl
    obtain ⟨c1, c2, rfl, g1, g2⟩ := hl
    have g3 := CR_wid g1
    refine ⟨?_, ⟨v, q, rfl, hwd, h2⟩, by simp; omega⟩
    simp only [lset, LR]
    refine ⟨ds, c2, ?_, hv, g2⟩
    rw [List.take_zero, List.nil_append, Nat.zero_add, List.drop_left' (by omega)]
  | a :: r, l, i + 1, c, off, lay, v, cs, ds, hw, ho, hn, hl, hv, hwd => by
    obtain ⟨x, q, rfl, h1, h2⟩ := hw
    simp only [stParts.nth] at hn
    simp only [layOffs, List.getElem?_cons_succ] at ho
    simp only [LR] at hl
    obtain ⟨c1, c2, rfl, g1, g2⟩ := hl
    have g3 := CR_wid g1
    have hge : a.cells ≤ off := by
      have : ∀ (ls : List Lay) (c : Nat) (i : Nat) (p : Nat × Nat), (layOffs c ls)[i]? = some p → c ≤ p.1 := by
        intro ls
        induction ls with
        | nil => intro c i p h; simp [layOffs] at h
        | cons b t ih =>
          intro c i p h
          cases i with
          | zero => simp only [layOffs, List.getElem?_cons_zero, Option.some.injEq] at h; subst h; exact Nat.le_refl _
          | succ i => have := ih _ i p (by simpa [layOffs] using h); omega
      have := this r (c + a.cells) i _ ho
      simp only at this; omega
    obtain ⟨off', rfl⟩ : ∃ o, off = a.cells + o := ⟨off - a.cells, by omega⟩
    obtain ⟨k1, k2, k3⟩ := LR_set r q i (c + a.cells) off' lay v c2 ds h2 (by rw [ho]; congr 2; omega) hn g2 hv hwd
    refine ⟨?_, ⟨x, _, rfl, h1, k2⟩, by simp; omega⟩
    simp only [lset, LR]
    refine ⟨c1, c2.take off' ++ ds ++ c2.drop (off' + lay.cells), ?_, g1, k1⟩
    have e1 : a.cells = c1.length := by omega
    rw [e1, List.take_length_add_append, show c1.length + off' + lay.cells = c1.length + (off' + lay.cells) by omega, List.drop_length_add_append]
    simp
theorem stParts_sound (lays : List Lay) : ∀ (parts : List (Nat × AV)) (vparts : List (Nat × Value)) (l l' : List AV) (cs : Array Value), stParts lays l parts = some l' → PartsR m w parts vparts → LR m w l cs.toList → wids lays l →
    ∃ ds : Array Value, Instr.fill (fun i => (layOffs 0 lays)[i]?) cs vparts = some ds ∧ LR m w l' ds.toList ∧ ds.size = cs.size
  | [], vparts, l, l', cs, h, hp, hl, hw => by
    simp only [stParts, Option.some.injEq] at h
    subst h
    cases vparts with
    | nil => exact ⟨cs, rfl, hl, rfl⟩
    | cons _ _ => simp [PartsR] at hp
  | (i, a) :: r, vparts, l, l', cs, h, hp, hl, hw => by
    simp only [stParts] at h
    split at h
    · rename_i lay hn
      split at h
      · rename_i hf
        cases vparts with
        | nil => simp [PartsR] at hp
        | cons q s =>
          obtain ⟨j, v⟩ := q
          simp only [PartsR] at hp
          obtain ⟨rfl, hv, hp⟩ := hp
          obtain ⟨q1, q2⟩ := fit_cells hf hv
          have hwd : a.wid = lay.cells := by rw [← CR_wid q1]; simpa using q2
          have hoff : ∀ (ls : List Lay) (c i : Nat) (lay : Lay), stParts.nth ls i = some lay → ∃ o, (layOffs c ls)[i]? = some (c + o, lay.cells) := by
            intro ls
            induction ls with
            | nil => intro c i lay h; simp [stParts.nth] at h
            | cons b t ih =>
              intro c i lay h
              cases i with
              | zero => simp only [stParts.nth, Option.some.injEq] at h; subst h; exact ⟨0, rfl⟩
              | succ i =>
                obtain ⟨o, ho⟩ := ih (c + b.cells) i lay (by simpa [stParts.nth] using h)
                exact ⟨b.cells + o, by simp only [layOffs, List.getElem?_cons_succ, ho]; congr 2; omega⟩
          obtain ⟨off, hoff⟩ := hoff lays 0 i lay hn
          obtain ⟨k1, k2, k3⟩ := LR_set lays l i 0 off lay a cs.toList v.cells.toList hw hoff hn hl q1 hwd
          have k3' : off + lay.cells ≤ cs.size := by simpa using k3
          rw [Nat.zero_add] at hoff
          obtain ⟨ds, g1, g2, g3⟩ := stParts_sound lays r s (lset l i a) l' (cs.toList.take off ++ v.cells.toList ++ cs.toList.drop (off + lay.cells)).toArray h hp (by simpa using k1) k2
          refine ⟨ds, ?_, g2, ?_⟩
          · rw [ifill_step hoff (by omega) k3']; exact g1
          · rw [g3, List.size_toArray]
            have : v.cells.toList.length = lay.cells := by simpa using q2
            simp only [List.length_append, List.length_take, List.length_drop, this, Array.length_toList]; omega
      · cases h
    · cases h
theorem setParts_sound {lay : Lay} (n : Nat) : ∀ (parts : List (Nat × AV)) (vparts : List (Nat × Value)) (c c' : AC) (cs : Array Value), setParts real lay c parts = some c' → PartsR m w parts vparts → RC m w c cs.toList → buildEv.allLt real n parts → cs.size = n →
    ∃ ds : Array Value, Instr.fill (fun i => some (i * 1, 1)) cs vparts = some ds ∧ RC m w c' ds.toList ∧ ds.size = n
  | [], vparts, c, c', cs, h, hp, hc, ha, hn => by
    simp only [setParts, Option.some.injEq] at h
    subst h
    cases vparts with
    | nil => exact ⟨cs, rfl, hc, hn⟩
    | cons _ _ => simp [PartsR] at hp
  | (i, a) :: r, vparts, c, c', cs, h, hp, hc, ha, hn => by
    simp only [setParts] at h
    split at h
    · rename_i hf hE
      obtain ⟨he, _⟩ := isE_spec hE
      split at h
      · rename_i c1 hset
        cases vparts with
        | nil => simp [PartsR] at hp
        | cons q s =>
          obtain ⟨j, v⟩ := q
          simp only [PartsR] at hp
          obtain ⟨rfl, hv, hp⟩ := hp
          simp only [buildEv.allLt] at ha
          obtain ⟨q1, q2⟩ := fit_cells hf hv
          have hl := RC_len he hc
          have hi : i < n := ha.1
          have hil : i < c.len real := by rw [Nat.mul_one] at hl; rw [← hl]; simpa using (by omega : i < cs.size)
          obtain ⟨h1, h2, h3, h4⟩ := RC_set hset he hc q1 hil
          have h3' : v.cells.size = 1 := by rw [← h3]; simp
          rw [ifill_step (off := i * 1) (size := 1) rfl h3' (by omega)]
          exact setParts_sound n r s c1 c' _ h hp (by simpa using h1) ha.2 (by
            rw [List.size_toArray]
            simp only [List.length_append, List.length_take, List.length_drop, h3, Array.length_toList]; omega)
      · cases h
    · cases h
theorem run_places {P : Program} {w : World} : ∀ (gs : List Field), (∀ f ∈ gs, P.cellsOf f.type ≠ 0) → (gs.mapM (fun f => (do pure (f.offset, ← sizeOf f.type) : Sem (Nat × Nat)))).run P w = .ok (gs.map fun f => (f.offset, P.cellsOf f.type)) w
  | [], _ => rfl
  | f :: gs, h => by
    have h1 := h f (by simp)
    have ih := run_places (P := P) (w := w) gs (fun g hg => h g (by simp [hg]))
    cases hinfo : P.info? f.type with
    | none => simp [Program.cellsOf, hinfo] at h1
    | some inf =>
      have hc : P.cellsOf f.type = inf.size := by simp [Program.cellsOf, hinfo]
      rw [List.mapM_cons]
      simp only [Sem.run_bind, sizeOf, typeInfo, run_program, Result.andThen_ok, hinfo, Sem.run_pure]
      simp only [sizeOf, typeInfo] at ih
      rw [ih]
      simp [hc]
theorem cellsOf_flat (vs : List Value) : cellsOf vs = (vs.map fun v => v.cells.toList).flatten := by
  induction vs with
  | nil => rfl
  | cons v r ih => simp [cellsOf, ih]
theorem CVs_get : ∀ (l : List AV) (vs : List Value) (j : Nat) (v : Value), CVs m w l vs → vs[j]? = some v → CR m w (lget l j) v.cells.toList
  | [], vs, j, v, h, hj => by simp only [CVs] at h; subst h; simp at hj
  | a :: l, vs, j, v, h, hj => by
    simp only [CVs] at h
    obtain ⟨u, r, rfl, h1, _, h2⟩ := h
    cases j with
    | zero => simp at hj; subst hj; exact h1
    | succ j => simpa [lget] using CVs_get l r j v h2 (by simpa using hj)
theorem build_sound (ht : TTok P tt) (hb : Base m w me kb) {T : Nat} {parts : List (Nat × AV)} {vparts : Array (Nat × Value)} {e : Eff} (hp : PartsR m w parts vparts.toList)
    (h : (buildEv real tt T parts).run me = some e) (hc : e.c) : ∃ v, (Instr.build T vparts).run P w = .ok v w ∧ OkE m w me kb e.v e.puts v m w := by
  unfold buildEv at h
  split at h
  · rename_i n te sz by_ k z ek0 hl
    have hT : P.underlying T = some (.array n te) := (ht.look hl).k
    obtain ⟨i0, z0, hi0, hsz0, hby0, hz0, hzs0, hseg0, _⟩ := (ht.look hl).i
    have hsz0' : k = sz := (ht.look hl).cells
    have hzs0 : z0.cells.size = sz := hzs0
    split at h
    · rename_i kk es by2 lay ek hl2
      obtain ⟨i, z1, hi, hsz, hby, hz, hzs, _, hek⟩ := (ht.look hl2).i
      have hsz : i.size = es := hsz
      have hcells : lay.cells = es := (ht.look hl2).cells
      have hrun : ∀ ds : Array Value, Instr.fill (fun i => some (i * es, es)) z0.cells vparts.toList = some ds → (Instr.build T vparts).run P w = .ok (.agg ds) w := by
        intro ds hds
        unfold Instr.build
        simp only [Sem.run_bind, zeroValue, typeInfo, run_program, Result.andThen_ok, hi0, hz0, Sem.run_pure, run_underlying hT, sizeOf, hi, hsz]
        rw [hds]
        rfl
      split at h
      · split at h
        · rename_i hnk
          have hnk := beq_nat hnk
          split at h
          · rename_i hpl
            have hpl := beq_nat hpl
            split at h
            · rename_i l hl3
              split at h
              · rename_i hfit
                split at h
                · rename_i c hcc
                  have := Look.run_pure1 h
                  subst this
                  have hll := inOrder_len parts 0 l hl3
                  obtain ⟨vs, g1, g2⟩ := fill_order hcells l parts vparts.toList 0 z0.cells hl3 hp hfit (by omega)
                  have hvl := RVs_len l vs g1
                  obtain ⟨cv1, cv2⟩ := CVs_of l vs hfit g1
                  have hcl := cellsOf_len vs cv2
                  cases ek with
                  | none => simp [buildEv.ofK] at hcc
                  | some ek =>
                    obtain ⟨r1, r2⟩ := ofAVs_sound hcc cv1
                    rw [Nat.zero_mul, List.take_zero, List.nil_append, List.drop_of_length_le (by simp; omega), List.append_nil] at g2
                    refine ⟨_, hrun _ g2, hb.same ?_⟩
                    simp only [RV]
                    exact ⟨cellsOf vs, rfl, by rw [hcl, hcells]; omega, r1⟩
                · exact (Look.run_no h).elim
              · exact (Look.run_no h).elim
            · exact (Look.run_no h).elim
          · split at h
            · rename_i c hset
              have := Look.run_pure1 h
              subst this
              have hz3 : RC m w z z0.cells.toList := by
                have := hseg0 m w
                simp only [Lay.segs, SegsR] at this
                obtain ⟨c1, c2, e1, e2, e3, rfl⟩ := this
                rw [e1]; simpa using e3
              obtain ⟨ds, g1, g2, g3⟩ := setParts_sound n parts vparts.toList z c z0.cells hset hp hz3 hc (by omega)
              refine ⟨_, hrun _ g1, hb.same ?_⟩
              simp only [RV]
              exact ⟨ds.toList, by simp, by simpa using g3, g2⟩
            · exact (Look.run_no h).elim
        · exact (Look.run_no h).elim
      · rename_i hne
        split at h
        · rename_i hpos hnk hpl
          have hnk := beq_nat hnk
          have hpl := beq_nat hpl
          split at h
          · rename_i l hl3
            split at h
            · rename_i hfit
              have := Look.run_pure1 h
              subst this
              have hll := inOrder_len parts 0 l hl3
              obtain ⟨vs, g1, g2⟩ := fill_order hcells l parts vparts.toList 0 z0.cells hl3 hp hfit (by rw [hzs0, ← hsz0', ← hnk]; exact Nat.mul_le_mul_right _ (by omega))
              have hvl := RVs_len l vs g1
              obtain ⟨cv1, cv2⟩ := CVs_of l vs hfit g1
              have hcl := cellsOf_len vs cv2
              have hvn : vs.length = n := by omega
              rw [Nat.zero_mul, List.take_zero, List.nil_append, List.drop_of_length_le (by
                simp only [Array.length_toList]; rw [hzs0, ← hsz0', ← hnk]; exact Nat.mul_le_mul_right _ (by omega)), List.append_nil] at g2
              refine ⟨_, hrun _ g2, hb.same ?_⟩
              simp only [RV, RC]
              refine ⟨cellsOf vs, rfl, by rw [hcl, hvn, hcells]; exact hnk, vs.map (fun v => v.cells.toList), by simp [hvn], cellsOf_flat vs, fun j d hd => ?_⟩
              rw [List.getElem?_map] at hd
              cases hv : vs[j]? with
              | none => rw [hv] at hd; cases hd
              | some v =>
                rw [hv] at hd
                simp only [Option.map_some, Option.some.injEq] at hd
                subst hd
                exact ⟨by rw [Array.length_toList, cv2 v (List.mem_of_getElem? hv)]; exact hcells, CVs_get l vs j v cv1 hv⟩
            · exact (Look.run_no h).elim
          · exact (Look.run_no h).elim
        · exact (Look.run_no h).elim
    · exact (Look.run_no h).elim
  · rename_i fs sz by_ lays ek0 hl
    obtain ⟨i0, z0, hi0, hsz0, hby0, hz0, hzs0, hseg0, _⟩ := (ht.look hl).i
    have hzs0 : z0.cells.size = sz := hzs0
    have hcells : lcells lays = sz := (ht.look hl).cells
    obtain ⟨gs, hT, hoffs⟩ := (ht.look hl).st fs lays rfl rfl
    obtain ⟨gs', hT', _, hnz⟩ := (ht.look hl).k
    rw [hT] at hT'; cases hT'
    split at h
    · rename_i l hst
      have := Look.run_pure1 h
      subst this
      have hsg : SegsR m w (lsegs lays ++ []) z0.cells.toList := by rw [List.append_nil]; exact hseg0 m w
      obtain ⟨c1, c2, e1, h1, h2, h3⟩ := lzavs_sound lays [] _ hsg
      simp only [SegsR] at h3
      subst h3
      rw [List.append_nil] at e1
      obtain ⟨ds, g1, g2, g3⟩ := stParts_sound lays parts vparts.toList (lzavs lays) l z0.cells hst hp (by rw [e1]; exact h1) (lzavs_wids lays _ (hseg0 m w))
      refine ⟨.agg ds, ?_, hb.same ?_⟩
      · unfold Instr.build
        simp only [Sem.run_bind, zeroValue, typeInfo, run_program, Result.andThen_ok, hi0, hz0, Sem.run_pure, run_underlying hT]
        rw [Array.mapM_eq_mapM_toList]
        simp only [Sem.run_bind, map_eq_pure_bind]
        have hpl := run_places (P := P) (w := w) gs.toList hnz
        simp only [Sem.run_bind, sizeOf, typeInfo] at hpl ⊢
        rw [hpl]
        simp only [Result.andThen_ok, Sem.run_pure]
        have e2 : (fun (i : Nat) => (gs.toList.map fun f => (f.offset, P.cellsOf f.type)).toArray[i]?) = fun i => (layOffs 0 lays)[i]? := by funext i; rw [hoffs]; simp
        rw [e2, g1]
        rfl
      · simp only [RV, RC]
        exact ⟨ds.toList, by simp, by rw [Array.length_toList, g3, hzs0, hcells], g2⟩
    · exact (Look.run_no h).elim
  · exact (Look.run_no h).elim

/-! ## Places -/
theorem fget_get : ∀ (fs : List (Nat × Nat × Nat)) (f : Nat) (x : Nat × Nat × Nat), fieldAddrEv.fget fs f = some x → fs[f]? = some x
  | [], f, x, h => by simp [fieldAddrEv.fget] at h
  | a :: r, 0, x, h => by simpa [fieldAddrEv.fget] using h
  | a :: r, f + 1, x, h => by simpa using fget_get r f x (by simpa [fieldAddrEv.fget] using h)
theorem fieldAt_add {a : Addr} {f : Field} {n : Nat} (h : P.cellsOf f.type ≠ 0) : (fieldPlace a f).run P w = .ok (a.add f.offset) w := by
  cases hinfo : P.info? f.type with
  | none => simp [Program.cellsOf, hinfo] at h
  | some inf =>
    have hs0 : inf.size ≠ 0 := by simpa [Program.cellsOf, hinfo] using h
    simp [fieldPlace, sizeOf, typeInfo, hinfo, hs0]
theorem fieldAddr_sound (ht : TTok P tt) (hb : Base m w me kb) {T f : Nat} {x : AV} {vx : Value} {e : Eff} (hx : RV m w x vx) (h : (fieldAddrEv tt T x f).run me = some e) :
    ∃ v, (Instr.fieldAt T vx f).run P w = .ok v w ∧ OkE m w me kb e.v e.puts v m w := by
  unfold fieldAddrEv at h
  split at h
  · rename_i fs _ _ _ _ hl
    obtain ⟨gs, h1, h2, h3⟩ := (ht.look hl).k
    split at h
    · rename_i ty gs' cs' hf
      have hff := fget_get fs f _ hf
      have h4 : (gs.toList.map fun f => (f.type, f.offset))[f]? = some (ty, cs') := by rw [h2]; simp [hff]
      rw [List.getElem?_map] at h4
      cases hgf : gs.toList[f]? with
      | none => rw [hgf] at h4; simp at h4
      | some fd =>
        rw [hgf] at h4
        simp only [Option.map_some, Option.some.injEq, Prod.mk.injEq] at h4
        have hnz := h3 fd (List.mem_of_getElem? hgf)
        have hgf' : gs[f]? = some fd := by simpa using hgf
        have hrun : ∀ a : Addr, (Instr.fieldAt T (.pointer (some a)) f).run P w = .ok (.pointer (some (a.add cs'))) w := by
          intro a
          simp [Instr.fieldAt, run_underlying h1, hgf', Instr.sureAddr, fieldAt_add (n := 0) hnz, h4.2]
        split at h
        · rename_i k g o
          have := Look.run_pure1 h
          subst this
          simp only [RV, CR] at hx
          obtain ⟨gb, q1, q2⟩ := hx
          simp only [List.cons.injEq, and_true] at q2
          subst q2
          refine ⟨_, hrun _, hb.same ?_⟩
          simp only [RV, CR]; exact ⟨gb, q1, by rw [add_at]⟩
        · rename_i k g o e' i'
          have := Look.run_pure1 h
          subst this
          simp only [RV, CR] at hx
          obtain ⟨v0, gb, q1, q2, q3⟩ := hx
          simp only [List.cons.injEq, and_true] at q3
          subst q3
          refine ⟨_, hrun _, hb.same ?_⟩
          simp only [RV, CR]; exact ⟨v0, gb, q1, q2, by rw [add_at]⟩
        · rename_i nn l
          split at h
          · rename_i a hfa
            have := Look.run_pure1 h
            subst this
            simp only [RV, CR] at hx
            obtain ⟨ad, ds, q1, ⟨q2, q3⟩, q4⟩ := hx
            simp only [List.cons.injEq, and_true] at q1
            subst q1
            simp only [RC] at q3
            obtain ⟨pre, mid, post, rfl, p1, p2⟩ := fieldAt_sound f cs' l a ds hfa q3
            refine ⟨_, hrun _, hb.same ?_⟩
            simp only [RV, CR]
            refine ⟨_, mid, rfl, p2, by rw [add_block]; exact q4.1, fun j y hy => ?_⟩
            rw [add_add_at]
            exact q4.2 _ y (by rw [List.append_assoc, List.getElem?_append_right (by omega), show cs' + j - pre.length = j by omega, List.getElem?_append_left (List.getElem?_eq_some_iff.1 hy).1]; exact hy)
          · exact (Look.run_no h).elim
        · exact (Look.run_no h).elim
    · exact (Look.run_no h).elim
  · exact (Look.run_no h).elim
theorem part_fit {T : Nat} {lay : Lay} {i : TypeInfo} {a : AV} {pre mid post : List Value} (hf : fits1 lay a = true) (hagg : (P.underlying T).map aggD = some lay.isAgg) (hi : P.info? T = some i) (hsz : lay.cells = i.size) (hc : CR m w a mid) :
    ∃ v, (part T (pre ++ mid ++ post).toArray pre.length).run P w = .ok v w ∧ RV m w a v := by
  rcases fits_kind hf with ⟨h1, h2⟩ | ⟨h1, n, c, rfl, h2⟩
  · obtain ⟨v, rfl⟩ := one_cell h2 hc
    rw [h1] at hagg
    refine ⟨v, ?_, RV_of_CR h2 hc⟩
    simp [part, Sem.run_bind, run_isAgg hagg]
  · rw [h1] at hagg
    have hl := CR_wid hc
    simp only [AV.wid] at hl
    refine ⟨.agg mid.toArray, ?_, RV_ag hc⟩
    simp only [part, Sem.run_bind, run_isAgg hagg, Result.andThen_ok, if_true, sizeOf, typeInfo, run_program, hi, Sem.run_pure]
    congr 2
    apply Array.ext'
    rw [Array.toList_extract]
    simp only [List.extract_eq_take_drop]
    rw [List.append_assoc, List.drop_left, show pre.length + i.size - pre.length = mid.length by omega, List.take_left]
theorem field_sound (ht : TTok P tt) (hb : Base m w me kb) {T f : Nat} {x : AV} {vx : Value} {e : Eff} (hx : RV m w x vx) (h : (fieldEv tt T x f).run me = some e) :
    ∃ v, (Instr.field T vx f).run P w = .ok v w ∧ OkE m w me kb e.v e.puts v m w := by
  unfold fieldEv at h
  split at h
  · rename_i fs _ _ _ _ hl
    obtain ⟨gs, h1, h2, h3⟩ := (ht.look hl).k
    split at h
    · rename_i ft gs' cs' hf
      have hff := fget_get fs f _ hf
      have h4 : (gs.toList.map fun f => (f.type, f.offset))[f]? = some (ft, cs') := by rw [h2]; simp [hff]
      rw [List.getElem?_map] at h4
      cases hgf : gs.toList[f]? with
      | none => rw [hgf] at h4; simp at h4
      | some fd =>
        rw [hgf] at h4
        simp only [Option.map_some, Option.some.injEq, Prod.mk.injEq] at h4
        obtain ⟨h5, h6⟩ := h4
        have hgf' : gs[f]? = some fd := by simpa using hgf
        split at h
        · rename_i nn l
          split at h
          · rename_i kk sz by_ lay ek hl2
            obtain ⟨inf, z, hinf, hsz, _⟩ := (ht.look hl2).i
            have hsz : inf.size = sz := hsz
            have hcells : lay.cells = sz := (ht.look hl2).cells
            have hagg : (P.underlying ft).map aggD = some lay.isAgg := (ht.look hl2).agg
            split at h
            · rename_i a hfa
              split at h
              · rename_i hfit
                have := Look.run_pure1 h
                subst this
                simp only [RV] at hx
                obtain ⟨cs, rfl, q1, q2⟩ := hx
                simp only [RC] at q2
                obtain ⟨pre, mid, post, rfl, p1, p2⟩ := fieldAt_sound f cs' l a cs hfa q2
                obtain ⟨v, g1, g2⟩ := part_fit (P := P) (pre := pre) (post := post) hfit hagg hinf (by omega) p2
                refine ⟨v, ?_, hb.same g2⟩
                unfold Instr.field
                simp only [Sem.run_bind, run_underlying h1, Result.andThen_ok, hgf', asAgg, Sem.run_pure, h5, h6]
                rw [← p1]; exact g1
              · exact (Look.run_no h).elim
            · exact (Look.run_no h).elim
          · exact (Look.run_no h).elim
        · exact (Look.run_no h).elim
    · exact (Look.run_no h).elim
  · exact (Look.run_no h).elim
theorem idxAddr_sound (ht : TTok P tt) (hb : Base m w me kb) {T : Nat} {x ix : AV} {vx vi : Value} {e : Eff} (hx : RV m w x vx) (hi : RV m w ix vi) (h : (idxAddrEv real tt T x ix).run me = some e) (hc : e.c) :
    ∃ v, (Instr.indexAt T vx vi).run P w = .ok v w ∧ OkE m w me kb e.v e.puts v m w := by
  unfold idxAddrEv at h
  split at h
  · exact (Look.run_no h).elim
  · rename_i i hin
    obtain ⟨k0, rfl⟩ := num_int hin hi
    split at h
    · rename_i n te _ _ _ _ hl
      have hT : P.underlying T = some (.array n te) := (ht.look hl).k
      split at h
      · rename_i kk es by_ lay ek hl2
        obtain ⟨inf, z, hinf, hsz, _⟩ := (ht.look hl2).i
        have hsz : inf.size = es := hsz
        split at h
        · rename_i k g o
          have := Look.run_pure1 h
          subst this
          have hc1 : 0 ≤ i ∧ i < (n : Int) := hc
          simp only [RV, CR] at hx
          obtain ⟨gb, q1, q2⟩ := hx
          simp only [List.cons.injEq, and_true] at q2
          subst q2
          refine ⟨.pointer (some ⟨gb, o + i.toNat * es, none⟩), ?_, hb.same ?_⟩
          · simp [Instr.indexAt, asIntOf, run_underlying hT, Instr.sureAddr, hc1, sizeOf, typeInfo, hinf, hsz, add_at]
          · simp only [RV, CR]; exact ⟨_, gb, q1, rfl, by simp [bof, real]⟩
        · rename_i k g o e' j
          split at h
          · rename_i hbe
            have hbe := beq_nat hbe
            have hbe : n * es = e' := hbe
            subst hbe
            have := Look.run_pure1 h
            subst this
            have hc1 : 0 ≤ i ∧ i < (n : Int) := hc
            simp only [RV, CR] at hx
            obtain ⟨v, gb, q0, q1, q2⟩ := hx
            simp only [List.cons.injEq, and_true] at q2
            subst q2
            refine ⟨.pointer (some ⟨gb, bof v + (o + j * (n * es)) + i.toNat * es, none⟩), ?_, hb.same ?_⟩
            · simp [Instr.indexAt, asIntOf, run_underlying hT, Instr.sureAddr, hc1, sizeOf, typeInfo, hinf, hsz, add_at]
            · simp only [RV, CR]
              refine ⟨v, gb, q0, q1, ?_⟩
              have e1 : real.addn (real.muln j n) (real.nat i) = j * n + i.toNat := rfl
              rw [e1, Nat.add_mul, Nat.mul_assoc]
              simp only [List.cons.injEq, and_true, Value.pointer.injEq, Option.some.injEq, Addr.mk.injEq, true_and]
              omega
          · exact (Look.run_no h).elim
        · exact (Look.run_no h).elim
      · exact (Look.run_no h).elim
    · rename_i te _ _ _ _ hl
      have hT : P.underlying T = some (.slice te) := (ht.look hl).k
      split at h
      · rename_i kk es by_ lay ek hl2
        obtain ⟨inf, z, hinf, hsz, _⟩ := (ht.look hl2).i
        have hsz : inf.size = es := hsz
        have hrun : ∀ (a : Addr) (n cap : Nat), 0 ≤ i → i < (n : Int) → (Instr.indexAt T (.slice (some a) n cap) (.int k0 i)).run P w = .ok (.pointer (some (a.add (i.toNat * es)))) w := by
          intro a n cap h1 h2
          simp [Instr.indexAt, asIntOf, run_underlying hT, h1, h2, sizeOf, typeInfo, hinf, hsz]
        split at h
        · rename_i e' c
          split at h
          · rename_i hbe
            have := beq_nat hbe
            subst this
            split at h
            · rename_i a hga
              have := Look.run_pure1 h
              subst this
              have hc1 : 0 ≤ i ∧ i < (c.len real : Int) := hc
              unfold AC.getE at hga
              split at hga
              · rename_i hE
                obtain ⟨he1, he2⟩ := isE_spec hE
                simp only [RV, CR] at hx
                obtain ⟨ad, n, cap, ds, q1, q2, q3, q4, q5⟩ := hx
                simp only [List.cons.injEq, and_true] at q1
                subst q1
                have hdl := RC_len he1 q2
                have hn : n = c.len real := by
                  rw [q3] at hdl
                  exact Nat.eq_of_mul_eq_mul_right he2 hdl
                subst hn
                obtain ⟨b, rfl, hst⟩ := q5 (by omega)
                have hnat : real.nat i < c.len real := by show i.toNat < _; omega
                obtain ⟨d, r1, r2, r3⟩ := RC_get hga he1 q2 hnat
                refine ⟨_, hrun b _ cap hc1.1 hc1.2, hb.same ?_⟩
                simp only [RV, CR]
                refine ⟨_, d, rfl, r2, by rw [add_block]; exact hst.1, fun j y hy => ?_⟩
                rw [add_add_at]
                exact hst.2 _ y (r3 j y hy)
              · cases hga
            · exact (Look.run_no h).elim
          · exact (Look.run_no h).elim
        · rename_i k g o e' a n
          split at h
          · rename_i hbe
            have := beq_nat hbe
            subst this
            have := Look.run_pure1 h
            subst this
            have hc1 : 0 ≤ i ∧ i < (n : Int) := hc
            simp only [RV, CR] at hx
            obtain ⟨v0, ad, cap, q1, q2, q3, q4, _⟩ := hx
            simp only [List.cons.injEq, and_true] at q2
            subst q2
            obtain ⟨gb, q5, rfl⟩ := q4 (by omega)
            refine ⟨_, hrun _ n cap hc1.1 hc1.2, hb.same ?_⟩
            simp only [RV, CR]
            refine ⟨v0, gb, q1, q5, ?_⟩
            have e2 : real.addn a (real.nat i) = a + i.toNat := rfl
            rw [add_at, e2, Nat.add_mul]
            simp [Nat.add_assoc]
          · exact (Look.run_no h).elim
        · rename_i k
          obtain ⟨ab, hab, hnew⟩ := Look.run_look h
          clear h
          have h := hnew
          clear hnew
          split at h
          · rename_i B e' c
            split at h
            · rename_i hbe
              have := beq_nat hbe
              subst this
              split at h
              · rename_i n hlen
                unfold AC.lenE at hlen
                split at hlen
                · rename_i hE
                  cases hlen
                  obtain ⟨he1, he2⟩ := isE_spec hE
                  have := Look.run_pure1 h
                  subst this
                  have hc1 : 0 ≤ i ∧ i < (c.len real : Int) := hc
                  simp only [RV, CR] at hx
                  obtain ⟨v0, q1, q2, q2b⟩ := hx
                  simp only [List.cons.injEq, and_true] at q2
                  subst q2
                  obtain ⟨v1, n, cs, q3, q4, q5⟩ := row_cells hb.mem hab
                  rw [q3] at q1; cases q1
                  have hdl := RC_len he1 q5
                  have hn : n = c.len real := by
                    rw [q4.1] at hdl
                    exact Nat.eq_of_mul_eq_mul_right he2 hdl
                  subst hn
                  obtain ⟨g', o', cap, cur, fz, pre, rest, rfl, _, _, _, hcap, _⟩ := row_open q4 (i := 0) (by rw [q4.1]; exact Nat.mul_pos (by omega) he2)
                  refine ⟨_, hrun _ _ cap hc1.1 hc1.2, hb.same ?_⟩
                  simp only [RV, CR]
                  exact ⟨_, g', q3, blk_slice hcap, by rw [add_at]; simp [bof, real]⟩
                · cases hlen
              · exact (Look.run_no h).elim
            · exact (Look.run_no h).elim
          · exact (Look.run_no h).elim
        · exact (Look.run_no h).elim
      · exact (Look.run_no h).elim
    · exact (Look.run_no h).elim
theorem idx_sound (ht : TTok P tt) (hb : Base m w me kb) {T : Nat} {x ix : AV} {vx vi : Value} {e : Eff} (hx : RV m w x vx) (hi : RV m w ix vi) (h : (idxEv real tt T x ix).run me = some e) (hc : e.c) :
    ∃ v, (Instr.index T vx vi).run P w = .ok v w ∧ OkE m w me kb e.v e.puts v m w := by
  unfold idxEv at h
  split at h
  · exact (Look.run_no h).elim
  · rename_i i hin
    obtain ⟨k0, rfl⟩ := num_int hin hi
    split at h
    · rename_i xs
      split at h
      · rename_i hl
        have hT : P.underlying T = some .string := (ht.look hl).k
        have := Look.run_pure1 h
        subst this
        have hc1 : 0 ≤ i ∧ i < (xs.length : Int) := hc
        simp only [RV, CR, List.cons.injEq, and_true] at hx
        subst hx
        have hlt : i.toNat < xs.length := by omega
        refine ⟨.int .u8 ((xs.getD i.toNat 0).toNat : Int), ?_, hb.same (by simp [RV, CR, real])⟩
        have hget : (⟨xs.toArray⟩ : ByteArray)[i.toNat]? = some xs[i.toNat] := by
          rw [getElem?_pos _ _ (by simpa [ByteArray.size] using hlt)]
          rfl
        simp [Instr.index, asIntOf, run_underlying hT, hc1.1, hget, List.getD, List.getElem?_eq_getElem hlt]
      · exact (Look.run_no h).elim
    · rename_i k c
      split at h
      · rename_i n te _ _ _ _ hl
        have hT : P.underlying T = some (.array n te) := (ht.look hl).k
        split at h
        · rename_i kk es by_ z1 ek hl2
          obtain ⟨inf, z, hinf, hsz, _⟩ := (ht.look hl2).i
          have hsz : inf.size = es := hsz
          have hagg : (P.underlying te).map aggD = some false := (ht.look hl2).agg
          split at h
          · rename_i h1 h2
            have h1 := beq_nat h1
            have h2 := beq_nat h2
            subst h1; subst h2
            split at h
            · rename_i a hga
              have := Look.run_pure1 h
              subst this
              have hc1 : 0 ≤ i ∧ i < (n : Int) := hc
              simp only [RV] at hx
              obtain ⟨cs, rfl, q1, q2⟩ := hx
              obtain ⟨v, r1, r2, r3⟩ := get1_sound hga q2 (show real.nat i < cs.length by show i.toNat < _; omega)
              have r1' : cs[i.toNat]? = some v := r1
              refine ⟨v, ?_, hb.same (RV_of_CR r3 r2)⟩
              simp [Instr.index, asIntOf, run_underlying hT, hc1, sizeOf, typeInfo, hinf, hsz, part, run_isAgg hagg, r1']
            · exact (Look.run_no h).elim
          · exact (Look.run_no h).elim
        · exact (Look.run_no h).elim
      · exact (Look.run_no h).elim
    · exact (Look.run_no h).elim

/-! ## Choices -/
theorem isBool_sound {a : AV} {v : Value} {b : Bool} (h : isBool a = some b) (hv : RV m w a v) : v = .bool b := by
  cases a <;> simp [isBool] at h <;> simp [RV, CR] at hv <;> subst h <;> exact hv
theorem pick_sound (hb : Base m w me kb) {c a b : AV} {vc va vb : Value} {e : Eff} (hcv : RV m w c vc) (ha : RV m w a va) (hbv : RV m w b vb) (h : (pickEv real c a b).run me = some e) :
    ∃ x, vc = .bool x ∧ OkE m w me kb e.v e.puts (if x = true then va else vb) m w := by
  unfold pickEv at h
  split at h
  · have := Look.run_pure1 h; subst this
    simp only [RV, CR, List.cons.injEq, and_true] at hcv
    exact ⟨true, hcv, hb.same (by simpa using ha)⟩
  · have := Look.run_pure1 h; subst this
    simp only [RV, CR, List.cons.injEq, and_true] at hcv
    exact ⟨false, hcv, hb.same (by simpa using hbv)⟩
  · rename_i x
    split at h
    · rename_i y z hy hz
      have := Look.run_pure1 h; subst this
      simp only [RV, CR, List.cons.injEq, and_true] at hcv
      have h1 := isBool_sound hy ha
      have h2 := isBool_sound hz hbv
      subst h1; subst h2
      refine ⟨x, hcv, hb.same ?_⟩
      cases x <;> simp [RV, CR, real]
    · exact (Look.run_no h).elim
  · exact (Look.run_no h).elim
theorem min2_sound {a b r : AV} {va vb : Value} (h : min2Ev real a b = some r) (ha : RV m w a va) (hb : RV m w b vb) : ∃ v, (Builtin.min2 va vb).run P w = .ok v w ∧ RV m w r v := by
  unfold min2Ev at h
  split at h <;> cases h <;> simp only [RV, CR, List.cons.injEq, and_true] at ha hb <;> subst ha <;> subst hb <;> refine ⟨_, rfl, ?_⟩ <;> simp only [RV, CR, real]
  all_goals (first | rfl | (split <;> split <;> first | rfl | (exfalso; omega)))
theorem max2_sound {a b r : AV} {va vb : Value} (h : max2Ev real a b = some r) (ha : RV m w a va) (hb : RV m w b vb) : ∃ v, (Builtin.max2 va vb).run P w = .ok v w ∧ RV m w r v := by
  unfold max2Ev at h
  split at h <;> cases h <;> simp only [RV, CR, List.cons.injEq, and_true] at ha hb <;> subst ha <;> subst hb <;> refine ⟨_, rfl, ?_⟩ <;> simp only [RV, CR, real]
  all_goals (first | rfl | (split <;> split <;> first | rfl | (exfalso; omega)))

/-! ## Length -/
theorem ER_len {kk : KK} {vs : Sh} : ∀ {l : List (Nat × D × D)} {es : List MapEntry}, ER m w kk vs l es → es.length = l.length
  | [], es, h => by simp only [ER] at h; subst h; rfl
  | (b, k, d) :: l, es, h => by
    obtain ⟨e, r, rfl, _, _, _, h5⟩ := h
    simp [ER_len h5]
theorem len_sound (ht : TTok P tt) (hb : Base m w me kb) {T ty : Nat} {x : AV} {vx : Value} {e : Eff} (hx : RV m w x vx)
    (h : (builtinEv real tt kb .len [T] [x]).run me = some e) : ∃ v, (Builtin.len_ #[T] ty #[vx]).run P w = .ok v w ∧ OkE m w me kb e.v e.puts v m w := by
  simp only [builtinEv] at h
  split at h
  · rename_i te _ _ _ _ hl
    have hT : P.underlying T = some (.slice te) := (ht.look hl).k
    have hrun : ∀ ad n cap, (Builtin.len_ #[T] ty #[.slice ad n cap]).run P w = .ok (.int .i64 (n : Int)) w := fun ad n cap => by
      simp [Builtin.len_, run_underlying hT, goInt]
    split at h
    · exact (Look.run_no h).elim
    · rename_i hne
      unfold withLen at h
      split at h
      · rename_i xs; exact absurd rfl (hne xs)
      · rename_i e' c
        split at h
        · rename_i n hlen
          have := Look.run_pure1 h; subst this
          unfold AC.lenE at hlen
          split at hlen
          · rename_i hE
            cases hlen
            obtain ⟨he1, he2⟩ := isE_spec hE
            simp only [RV, CR] at hx
            obtain ⟨ad, n, cap, ds, q1, q2, q3, q4, q5⟩ := hx
            simp only [List.cons.injEq, and_true] at q1
            subst q1
            have hdl := RC_len he1 q2
            have hn : n = c.len real := by
              rw [q3] at hdl
              exact Nat.eq_of_mul_eq_mul_right he2 hdl
            exact ⟨_, hrun _ _ _, hb.same (by simp only [RV, CR]; rw [hn]; rfl)⟩
          · cases hlen
        · exact (Look.run_no h).elim
      · rename_i k g o e' a n
        have := Look.run_pure1 h; subst this
        simp only [RV, CR] at hx
        obtain ⟨v0, ad, cap, q1, q2, q3, q4, _⟩ := hx
        simp only [List.cons.injEq, and_true] at q2
        subst q2
        exact ⟨_, hrun _ _ _, hb.same (by simp only [RV, CR]; rfl)⟩
      · have := Look.run_pure1 h; subst this
        simp only [RV, CR, List.cons.injEq, and_true] at hx
        subst hx
        exact ⟨_, hrun _ _ _, hb.same (by simp only [RV, CR]; rfl)⟩
      · rename_i k
        obtain ⟨ab, hab, hnew⟩ := Look.run_look h
        clear h
        have h := hnew
        clear hnew
        split at h
        · rename_i B e' c
          split at h
          · rename_i n hlen
            have := Look.run_pure1 h; subst this
            unfold AC.lenE at hlen
            split at hlen
            · rename_i hE
              cases hlen
              obtain ⟨he1, he2⟩ := isE_spec hE
              simp only [RV, CR] at hx
              obtain ⟨v0, q1, q2, q2b⟩ := hx
              simp only [List.cons.injEq, and_true] at q2
              subst q2
              obtain ⟨v1, n, cs, q3, q4, q5⟩ := row_cells hb.mem hab
              rw [q3] at q1; cases q1
              have hdl := RC_len he1 q5
              have hn : n = c.len real := by
                rw [q4.1] at hdl
                exact Nat.eq_of_mul_eq_mul_right he2 hdl
              obtain ⟨ad, cap, rfl, _⟩ := row_slice q4
              exact ⟨_, hrun _ _ _, hb.same (by simp only [RV, CR]; rw [hn]; rfl)⟩
            · cases hlen
          · exact (Look.run_no h).elim
        · exact (Look.run_no h).elim
      · rename_i k
        obtain ⟨ab, hab, hnew⟩ := Look.run_look h
        clear h
        have h := hnew
        clear hnew
        split at h
        · rename_i B e' c
          split at h
          · rename_i n hlen
            have := Look.run_pure1 h; subst this
            unfold AC.lenE at hlen
            split at hlen
            · rename_i hE
              cases hlen
              obtain ⟨he1, he2⟩ := isE_spec hE
              simp only [RV, CR] at hx
              obtain ⟨v0, q1, q2, q2b⟩ := hx
              simp only [List.cons.injEq, and_true] at q2
              subst q2
              obtain ⟨v1, n, cs, q3, q4, q5⟩ := row_cells hb.mem hab
              rw [q3] at q1; cases q1
              have hdl := RC_len he1 q5
              have hn : n = c.len real := by
                rw [q4.1] at hdl
                exact Nat.eq_of_mul_eq_mul_right he2 hdl
              obtain ⟨ad, cap, rfl, _⟩ := row_slice q4
              exact ⟨_, hrun _ _ _, hb.same (by simp only [RV, CR]; rw [hn]; rfl)⟩
            · cases hlen
          · exact (Look.run_no h).elim
        · exact (Look.run_no h).elim
      · have := Look.run_pure1 h; subst this
        simp only [RV, CR, List.cons.injEq, and_true] at hx
        obtain ⟨ad, rfl⟩ := hx
        exact ⟨_, hrun _ _ _, hb.same (by simp only [RV, CR]; rfl)⟩
      · exact (Look.run_no h).elim
  · rename_i hl
    have hT : P.underlying T = some .string := (ht.look hl).k
    split at h
    · rename_i xs
      have := Look.run_pure1 h; subst this
      simp only [RV, CR, List.cons.injEq, and_true] at hx
      subst hx
      refine ⟨.int .i64 (xs.length : Int), ?_, hb.same (by simp only [RV, CR]; rfl)⟩
      have hsz : (⟨xs.toArray⟩ : ByteArray).size = xs.length := by simp [ByteArray.size]
      simp [Builtin.len_, run_underlying hT, goInt, hsz]
    · exact (Look.run_no h).elim
  · rename_i kt kk et sh _ _ _ _ hl
    obtain ⟨hT, _⟩ := (ht.look hl).k
    unfold mapLenEv at h
    split at h
    · rename_i k
      have h' := Look.run_look h
      clear h
      obtain ⟨ab, hab, h⟩ := h'
      split at h
      · rename_i T' kk' sh' M
        have := Look.run_pure1 h; subst this
        obtain ⟨r, es, q1, q2, q3, _⟩ := hb.mem.at_ k _ hab
        simp only [RV, CR] at hx
        obtain ⟨v0, q4, q5, _⟩ := hx
        rw [q1] at q4; cases q4
        simp only [List.cons.injEq, and_true] at q5
        subst q5
        have hl := ER_len q3
        refine ⟨.int .i64 (es.size : Int), ?_, hb.same (by simp only [RV, CR, real]; rw [← hl, Array.length_toList])⟩
        simp [Builtin.len_, run_underlying hT, MapKept.run_getObj_map q2, goInt]
      · exact (Look.run_no h).elim
    · have := Look.run_pure1 h; subst this
      simp only [RV, CR, List.cons.injEq, and_true] at hx
      subst hx
      exact ⟨.int .i64 0, by simp [Builtin.len_, run_underlying hT, goInt], hb.same (by simp only [RV, CR]; rfl)⟩
    · exact (Look.run_no h).elim
  · exact (Look.run_no h).elim

/-! ## Equality of arrays of whole numbers -/
theorem run_eqItems_ints (d : Nat) {te : Nat} {k k' : IntKind} (ht : P.underlying te = some (.int k')) (as bs : List Int) : ∀ (is : List Nat), (∀ i ∈ is, i < as.length ∧ i < bs.length) →
    (Op.eqItems (d + 1) te 1 (as.map (Value.int k)).toArray (bs.map (Value.int k)).toArray is).run P w = .ok (is.all fun i => as.getD i 0 == bs.getD i 0) w
  | [], _ => by simp [Op.eqItems]
  | i :: is, h => by
    have hi := h i (by simp)
    have ih := run_eqItems_ints (k := k) d ht as bs is (fun j hj => h j (by simp [hj]))
    have hagg : (P.underlying te).map aggD = some false := by rw [ht]; rfl
    have hp : ∀ (cs : List Int), i < cs.length → (part te (cs.map (Value.int k)).toArray (i * 1)).run P w = .ok (.int k (cs.getD i 0)) w := by
      intro cs hc
      simp [part, run_isAgg hagg, hc, List.getD]
    simp only [Op.eqItems, Sem.run_bind, hp as hi.1, hp bs hi.2, Result.andThen_ok, run_equalIn_int w d te k k' _ _ ht]
    cases hbb : (as.getD i 0 == bs.getD i 0) with
    | false => rw [List.all_cons, hbb]; simp only [Bool.not_false, if_true, Sem.run_pure, Bool.false_and]
    | true => rw [List.all_cons, hbb]; simp only [Bool.not_true, Bool.false_eq_true, if_false, ih, Bool.true_and]
theorem range_all (as bs : List Int) (h : as.length = bs.length) : ((List.range as.length).all fun i => as.getD i 0 == bs.getD i 0) = (as == bs) := by
  rw [Bool.eq_iff_iff]
  simp only [List.all_eq_true, List.mem_range, beq_iff_eq]
  constructor
  · intro hall
    refine List.ext_getElem h (fun i h1 h2 => ?_)
    have := hall i h1
    simpa [List.getD, h1, h2] using this
  · rintro rfl i _; rfl
theorem run_equal_ints {T te n : Nat} {k k' : IntKind} {i : TypeInfo} (hT : P.underlying T = some (.array n te)) (hte : P.underlying te = some (.int k')) (hi : P.info? te = some i) (hsz : i.size = 1) (as bs : List Int)
    (ha : as.length = n) (hb : bs.length = n) : (Op.equal T (.agg (as.map (Value.int k)).toArray) (.agg (bs.map (Value.int k)).toArray)).run P w = .ok (as == bs) w := by
  show (Op.equalIn (9999 + 1) T _ _).run P w = _
  have hc : P.cellsOf te = 1 := by simp [Program.cellsOf, hi, hsz]
  rw [run_equalIn_array w 9999 _ _ hT hi, hc, run_eqItems_ints (d := 9998) hte as bs (List.range n) (fun j hj => by have := List.mem_range.1 hj; omega), ← ha, range_all as bs (by omega)]
theorem eqGuard_arr {T te n : Nat} {k' : IntKind} (hT : P.underlying T = some (.array n te)) (hte : P.underlying te = some (.int k')) : P.eqGuardType P.depth T = false := by
  unfold Program.depth
  simp [Program.eqGuardType, hT, hte]

theorem ints_u8 (xs : List UInt8) : xs.map E8 = (xs.map fun x => (x.toNat : Int)).map (Value.int .u8) := by simp
theorem eqs_u8 (xs ys : List UInt8) : ((xs.map fun x => (x.toNat : Int)) == (ys.map fun x => (x.toNat : Int))) = (xs == ys) := by
  rw [Bool.eq_iff_iff, beq_iff_eq, beq_iff_eq]
  constructor
  · intro h
    refine List.map_inj_right (fun a b hab => ?_) |>.1 h
    exact UInt8.toNat_inj.1 (by omega)
  · rintro rfl; rfl
theorem ints_u16 (xs : List UInt16) : xs.map E16 = (xs.map fun x => (x.toNat : Int)).map (Value.int .u16) := by simp
theorem eqs_u16 (xs ys : List UInt16) : ((xs.map fun x => (x.toNat : Int)) == (ys.map fun x => (x.toNat : Int))) = (xs == ys) := by
  rw [Bool.eq_iff_iff, beq_iff_eq, beq_iff_eq]
  constructor
  · intro h
    refine List.map_inj_right (fun a b hab => ?_) |>.1 h
    exact UInt16.toNat_inj.1 (by omega)
  · rintro rfl; rfl
theorem ints_u32 (xs : List UInt32) : xs.map E32 = (xs.map fun x => (x.toNat : Int)).map (Value.int .u32) := by simp
theorem eqs_u32 (xs ys : List UInt32) : ((xs.map fun x => (x.toNat : Int)) == (ys.map fun x => (x.toNat : Int))) = (xs == ys) := by
  rw [Bool.eq_iff_iff, beq_iff_eq, beq_iff_eq]
  constructor
  · intro h
    refine List.map_inj_right (fun a b hab => ?_) |>.1 h
    exact UInt32.toNat_inj.1 (by omega)
  · rintro rfl; rfl
theorem ints_u64 (xs : List UInt64) : xs.map E64 = (xs.map fun x => (x.toNat : Int)).map (Value.int .u64) := by simp
theorem eqs_u64 (xs ys : List UInt64) : ((xs.map fun x => (x.toNat : Int)) == (ys.map fun x => (x.toNat : Int))) = (xs == ys) := by
  rw [Bool.eq_iff_iff, beq_iff_eq, beq_iff_eq]
  constructor
  · intro h
    refine List.map_inj_right (fun a b hab => ?_) |>.1 h
    exact UInt64.toNat_inj.1 (by omega)
  · rintro rfl; rfl
theorem part_one {t : Nat} {k : TK} {by_ : Nat} {z : AV} {ek : Option EK} (ht : TTok P tt) (hl : tlook tt t = some ⟨k, 1, by_, .one z, ek⟩) {xs : List Value} {o : Nat} {v : Value} (h : xs[o]? = some v) : (part t xs.toArray o).run P w = .ok v w := by
  have hagg : (P.underlying t).map aggD = some false := (ht.look hl).agg
  simp [part, run_isAgg hagg, h]
theorem int_eq (d : Nat) {t : Nat} {k k' : IntKind} {x y : Int} {b : Bool} (hk : TKok P t (.int k')) (h : (x == y) = b) : (Op.equalIn (d + 1) t (.int k x) (.int k y)).run P w = .ok b w := by
  rw [run_equalIn_int w d t k k' x y hk, h]
theorem eqC_sound (d : Nat) {t : Nat} {k : TK} (hk : TKok P t k) {a b : AV} {x : Bool} {c1 c2 : List Value} (h : eqC real k a b = some x) (ha : CR m w a c1) (hb : CR m w b c2) :
    ∃ va vb, c1 = [va] ∧ c2 = [vb] ∧ (Op.equalIn (d + 1) t va vb).run P w = .ok x w := by
  unfold eqC at h
  split at h
  · cases h
    simp only [CR] at ha hb
    exact ⟨_, _, ha, hb, int_eq d hk rfl⟩
  · cases h
    simp only [CR] at ha hb
    refine ⟨_, _, ha, hb, int_eq d hk ?_⟩
    simp only [real]
    rw [Bool.eq_iff_iff, beq_iff_eq, beq_iff_eq, ← UInt8.toNat_inj]; omega
  · cases h
    simp only [CR] at ha hb
    refine ⟨_, _, ha, hb, int_eq d hk ?_⟩
    simp only [real]
    rw [Bool.eq_iff_iff, beq_iff_eq, beq_iff_eq, ← UInt16.toNat_inj]; omega
  · cases h
    simp only [CR] at ha hb
    refine ⟨_, _, ha, hb, int_eq d hk ?_⟩
    simp only [real]
    rw [Bool.eq_iff_iff, beq_iff_eq, beq_iff_eq, ← UInt32.toNat_inj]; omega
  · cases h
    simp only [CR] at ha hb
    refine ⟨_, _, ha, hb, int_eq d hk ?_⟩
    simp only [real]
    rw [Bool.eq_iff_iff, beq_iff_eq, beq_iff_eq, ← UInt64.toNat_inj]; omega
  · cases h
    simp only [CR] at ha hb
    refine ⟨_, _, ha, hb, ?_⟩
    rw [run_equalIn_string w d t _ _ hk, ByteArray.toList_eq, ByteArray.toList_eq]
    rfl
  · rename_i p q
    split at h
    · rename_i y z h1 h2
      cases h
      have g1 : ∀ {e : AV} {u : Bool} {c : List Value}, isBool e = some u → CR m w e c → c = [.bool u] := by
        intro e u c he hc
        cases e <;> simp [isBool] at he <;> simp [CR] at hc <;> subst he <;> exact hc
      refine ⟨_, _, g1 h1 ha, g1 h2 hb, ?_⟩
      rw [run_equalIn_bool' w d t _ _ hk]; rfl
    · cases h
  · cases h
theorem eqSt_sound (ht : TTok P tt) (d : Nat) (xs ys : List Value) : ∀ (fs : List (Nat × Nat × Nat)) (gs : List Field) (c : Nat) (as bs : List AV) (cs ds : List Value) (r : Bool), eqSt real tt c fs as bs = some r → gs.map (fun f => (f.type, f.offset)) = fs.map (fun x => (x.1, x.2.2)) → (∀ f, f ∈ gs → f.name ≠ "_") →
    LR m w as cs → LR m w bs ds → xs.drop c = cs → ys.drop c = ds → (Op.eqFields (d + 1) xs.toArray ys.toArray gs).run P w = .ok r w
  | [], gs, c, as, bs, cs, ds, r, h, hg, hn, ha, hb, hx, hy => by
    have hg0 : gs = [] := by simpa using hg
    subst hg0
    unfold eqSt at h
    split at h
    · cases h; simp [Op.eqFields]
    · rename_i e; cases e
    · cases h
  | (t, s, o) :: fs, gs, c, as, bs, cs, ds, r, h, hg, hn, ha, hb, hx, hy => by
    cases gs with
    | nil => simp at hg
    | cons f gs =>
      simp only [List.map_cons, List.cons.injEq, Prod.mk.injEq] at hg
      obtain ⟨⟨hft, hfo⟩, hg⟩ := hg
      cases as with
      | nil => simp [eqSt] at h
      | cons a l =>
        cases bs with
        | nil => simp [eqSt] at h
        | cons b q =>
          simp only [eqSt] at h
          split at h
          · rename_i k by_ z ek hc hl
            have hc := beq_nat hc
            split at h
            · rename_i y z' h1 h2
              cases h
              simp only [LR] at ha hb
              obtain ⟨c1, c2, e1, ha1, ha2⟩ := ha
              obtain ⟨d1, d2, e2, hb1, hb2⟩ := hb
              obtain ⟨va, vb, rfl, rfl, hrun⟩ := eqC_sound d (ht.look hl).k h1 ha1 hb1
              have ih := eqSt_sound ht d xs ys fs gs (c + 1) l q c2 d2 z' h2 hg (fun f hf => hn f (List.mem_cons_of_mem _ hf)) ha2 hb2 (by rw [← List.drop_drop, hx, e1]; rfl) (by rw [← List.drop_drop, hy, e2]; rfl)
              have gx : xs[o]? = some va := by rw [← hc]; have := congrArg (·[0]?) (hx.trans e1); simpa using this
              have gy : ys[o]? = some vb := by rw [← hc]; have := congrArg (·[0]?) (hy.trans e2); simpa using this
              have hnf := hn f List.mem_cons_self
              simp only [Op.eqFields, hnf, ne_eq, not_false_eq_true, if_true, Sem.run_bind, hft, hfo, part_one ht hl gx, part_one ht hl gy, Result.andThen_ok, hrun]
              cases y with
              | false => simp only [Bool.not_false, if_true, Sem.run_pure]; rfl
              | true => simp only [Bool.not_true, Bool.false_eq_true, if_false, ih]; rfl
            · cases h
          · cases h
theorem eqSt_plain (ht : TTok P tt) (d : Nat) : ∀ (fs : List (Nat × Nat × Nat)) (gs : List Field) (c : Nat) (as bs : List AV) (r : Bool), eqSt real tt c fs as bs = some r → gs.map (fun f => (f.type, f.offset)) = fs.map (fun x => (x.1, x.2.2)) → ∀ f, f ∈ gs → P.eqGuardType (d + 1) f.type = false
  | [], gs, c, as, bs, r, h, hg, f, hf => by
    have hg0 : gs = [] := by simpa using hg
    subst hg0; simp at hf
  | (t, s, o) :: fs, gs, c, as, bs, r, h, hg, f, hf => by
    cases gs with
    | nil => simp at hf
    | cons f0 gs =>
      simp only [List.map_cons, List.cons.injEq, Prod.mk.injEq] at hg
      obtain ⟨⟨hft, hfo⟩, hg⟩ := hg
      cases as with
      | nil => simp [eqSt] at h
      | cons a l =>
        cases bs with
        | nil => simp [eqSt] at h
        | cons b q =>
          simp only [eqSt] at h
          split at h
          · rename_i k by_ z ek hc hl
            split at h
            · rename_i y z' h1 h2
              rcases List.mem_cons.1 hf with rfl | hf
              · have hk := (ht.look hl).k
                rw [hft]
                simp only at hk
                unfold eqC at h1
                split at h1 <;> first | (cases h1; done) | skip
                all_goals (have hk' := hk; simp only [TKok] at hk'; simp [Program.eqGuardType, hk'])
              · exact eqSt_plain ht d fs gs _ l q z' h2 hg f hf
            · cases h
          · cases h
theorem eq_sound (ht : TTok P tt) {T : Nat} {x y : AV} {vx vy : Value} {c : Prop} {b : Bool} (h : eqEv real tt T x y = some (c, b)) (hx : RV m w x vx) (hy : RV m w y vy) :
    (Op.equal T vx vy).run P w = .ok b w ∧ P.eqGuardType P.depth T = false ∧ ∃ a d, vx = .agg a ∧ vy = .agg d := by
  unfold eqEv at h
  split at h
  · rename_i n c0 k d0
    split at h
    · rename_i n' te _ _ _ _ hl
      have hT : P.underlying T = some (.array n' te) := (ht.look hl).k
      split at h
      · rename_i k' by_ z1 ek hl2
        have hte : P.underlying te = some (.int k') := (ht.look hl2).k
        obtain ⟨inf, z, hinf, hsz, _⟩ := (ht.look hl2).i
        have hsz : inf.size = 1 := hsz
        split at h
        · rename_i h1 h2
          have h1 := beq_nat h1
          have h2 := beq_nat h2
          subst h1; subst h2
          split at h
          · rename_i b' he
            cases h
            simp only [RV] at hx hy
            obtain ⟨cs, rfl, q1, q2⟩ := hx
            obtain ⟨ds, rfl, q3, q4⟩ := hy
            refine ⟨?_, eqGuard_arr hT hte, _, _, rfl, rfl⟩
            unfold AC.eqv at he
            split at he <;> cases he <;> simp only [RC] at q2 q4 <;> subst q2 <;> subst q4 <;> simp only [List.length_map] at q1 q3
            · rw [ints_u8, ints_u8, run_equal_ints hT hte hinf hsz _ _ (by simpa using q1) (by simpa using q3), eqs_u8]; rfl
            · rw [ints_u16, ints_u16, run_equal_ints hT hte hinf hsz _ _ (by simpa using q1) (by simpa using q3), eqs_u16]; rfl
            · rw [ints_u32, ints_u32, run_equal_ints hT hte hinf hsz _ _ (by simpa using q1) (by simpa using q3), eqs_u32]; rfl
            · rw [ints_u64, ints_u64, run_equal_ints hT hte hinf hsz _ _ (by simpa using q1) (by simpa using q3), eqs_u64]; rfl
            · exact run_equal_ints hT hte hinf hsz _ _ q1 q3
          · cases h
        · cases h
      · cases h
    · rename_i fs sz_ by_ lay ek hl
      obtain ⟨gs, hT, hgs, _⟩ := (ht.look hl).k
      have hpl := (ht.look hl).eq fs rfl
      simp only [stPlain, hT, Bool.and_eq_true, Bool.not_eq_true', List.all_eq_true, bne_iff_ne] at hpl
      split at h
      · rename_i as bs
        split at h
        · rename_i b' he
          cases h
          simp only [RV, RC] at hx hy
          obtain ⟨cs, rfl, q1, q2⟩ := hx
          obtain ⟨ds, rfl, q3, q4⟩ := hy
          have hfo : P.fieldsOf T = gs := by simp [Program.fieldsOf, hT]
          refine ⟨?_, ?_, _, _, rfl, rfl⟩
          · show (Op.equalIn (9999 + 1) T _ _).run P w = _
            rw [run_equalIn_struct w 9999 T _ _ (by rw [hfo]; exact hT) hpl.2, hfo]
            exact eqSt_sound ht 9998 cs ds fs gs.toList 0 as bs cs ds _ he hgs hpl.1 q2 q4 rfl rfl
          · have key : ∀ d, P.eqGuardType (d + 1 + 1) T = false := by
              intro d
              rw [Program.eqGuardType]
              simp only [hT]
              rw [Array.any_eq_false]
              intro i hi
              have := eqSt_plain ht d fs gs.toList 0 as bs _ he hgs gs[i] (by simp)
              simp [this]
            exact key _
        · cases h
      · cases h
    · cases h
  · cases h
end
end Go.Vc
