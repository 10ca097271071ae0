/- A part of the proof of given statements: a verified condition generator for the model, and contracts of the program's functions. No condition. -/
import Derived.Test.YtegnmmfjbncgnaaVcSnd4
set_option linter.unusedVariables false
set_option linter.unusedSimpArgs false
namespace Go.Vc
open Go Go.RowKit

theorem hs_len {cs : Array Value} {pre mid post : List Value} (h : cs.toList = pre ++ mid ++ post) : cs.size = pre.length + mid.length + post.length := by
  rw [← Array.length_toList, h]; simp; omega

/-- a write into a block's segments -/
theorem Base.writeSegs {P : Program} {m : Hd} {w : World} {me : Mem} {kb : Nat} (hb : Base m w me kb) {k g o B : Nat} {segs new segs' : List Seg} {ds : List Value} {av : AV} {v1 : Value}
    (hab : mlook me k = some (.bk B segs)) (hp : segPut g o new segs = some segs') (hn : SegsR m w new ds) (h1 : ∀ v ∈ ds, v.oneCell' = true)
    (hrv : ∀ w', Pres m w m w' → RV m w' av v1) :
    ∃ gb, m k = some (.pointer (some ⟨gb, 0, none⟩)) ∧ ∃ w', (storeCells ⟨gb, o, none⟩ ds).run P w = .ok () w' ∧ OkE m w me kb av [(k, .bk B segs')] v1 m w' := by
  obtain ⟨gb, cs, fz, h2, h3, h4, h5⟩ := bk_cells hb.mem hab
  obtain ⟨pre, mid, post, hcs, hpre, hmid, hs'⟩ := segPut_sound g o new segs segs' cs.toList ds hp h5 hn
  have hsz := hs_len hcs
  obtain ⟨g1, g2, g3, g4, g5, g6⟩ := setCells_block ds o w cs h3 (by omega)
  refine ⟨gb, h2, _, run_storeCells_block h3 h4 (by omega) h1, ?_⟩
  have e1 : (cs.toList.take o ++ ds ++ cs.toList.drop (o + ds.length)) = pre ++ ds ++ post := by
    rw [← hpre]; exact splitAt3 hcs hmid
  rw [e1] at g1
  have htr := tr_write (w' := w.setCells gb o ds) h2 rfl g2 g3 g4 g5 g6
  refine hb.write hab rfl h2 rfl g2 g3 g4 g5 g6 ⟨gb, _, fz, h2, g1, ?_, ?_⟩ (hrv _ htr.pres)
  · intro j hj
    refine h4 j ?_
    simp at hj
    omega
  · exact SegsR_mono htr.pres _ _ hs'

/-- a write into a row of the call's own, from element a on, one cell each -/
theorem Base.writeRow {P : Program} {m : Hd} {w : World} {me : Mem} {kb : Nat} (hb : Base m w me kb) {k B a : Nat} {c c' : AC} {cs ds : List Value} {av : AV} {v1 : Value} {v : Value} {n : Nat}
    (hab : mlook me k = some (.row B 1 c)) (hk : m k = some v) (ho : OwnRow w B 1 v n cs) (hfit : a + ds.length ≤ cs.length) (hpos : 0 < ds.length)
    (hc' : RC m w c' (cs.take a ++ ds ++ cs.drop (a + ds.length))) (h1 : ∀ v ∈ ds, v.oneCell' = true) (hrv : ∀ w', Pres m w m w' → RV m w' av v1) :
    ∃ gb, blk v = some gb ∧ ∃ w', (storeCells ⟨gb, a, none⟩ ds).run P w = .ok () w' ∧ OkE m w me kb av [(k, .row B 1 c')] v1 m w' := by
  obtain ⟨gb, cap, cur, fz, rest, rfl, g1, g2, g3, g4, g5, g6⟩ := row_open ho (i := 0) (by omega)
  have hsz : cur.size = cs.length + rest.length := by rw [← Array.length_toList, g6]; simp
  obtain ⟨q1, q2, q3, q4, q5, q6⟩ := setCells_block ds a w cur g1 (by omega)
  refine ⟨gb, rfl, _, run_storeCells_block g1 g2 (by omega) h1, ?_⟩
  have htr := tr_write (w' := w.setCells gb a ds) hk rfl q2 q3 q4 q5 q6
  have hl := ho.1
  refine hb.write hab rfl hk rfl q2 q3 q4 q5 q6 ⟨_, n, _, hk, ⟨?_, .inr ⟨gb, cap, _, fz, rfl, q1, ?_, g3, g4, ?_, ?_⟩⟩, RC_mono htr.pres _ _ hc'⟩ (hrv _ htr.pres)
  · simp; omega
  · intro j hj
    refine g2 j ?_
    simp at hj
    omega
  · simp; omega
  · have hlen : (cs.take a ++ ds ++ cs.drop (a + ds.length)).length = n * 1 := by simp; omega
    have e : cur.toList.take a ++ ds ++ cur.toList.drop (a + ds.length) = (cs.take a ++ ds ++ cs.drop (a + ds.length)) ++ rest := by
      rw [g6, List.take_append_of_le_length (by omega), List.drop_append_of_le_length (by omega)]; simp
    show List.take (n * 1) (cur.toList.take a ++ ds ++ cur.toList.drop (a + ds.length)) = _
    rw [← hlen, e]
    exact List.take_left

theorem store_sound {P : Program} {tt : TT} (ht : TTok P tt) {m : Hd} {w : World} {me : Mem} {kb : Nat} (hb : Base m w me kb) {T : Nat} {x y : AV} {vx vy : Value} {e : Eff}
    (hx : RV m w x vx) (hy : RV m w y vy) (h : (storeEv real tt T x y).run me = some e) (hc : e.c) :
    ∃ w', (Instr.storeAt T vx vy).run P w = .ok () w' ∧ OkE m w me kb e.v e.puts undef m w' := by
  unfold storeEv at h
  split at h
  · rename_i ti k sz by_ lay ek hl
    have hti := ht.look hl
    obtain ⟨i, z, hi, hsz, _⟩ := hti.i
    have hsz : i.size = sz := hsz
    have hcells : lay.cells = sz := hti.cells
    split at h
    · rename_i k g o
      simp only [RV, CR] at hx
      obtain ⟨gb, h1, hv⟩ := hx
      simp only [List.cons.injEq, and_true] at hv
      subst hv
      obtain ⟨ab, hab, h⟩ := Look.run_look h
      split at h
      · rename_i B segs
        split at h
        · rename_i new hnew
          split at h
          · rename_i segs' hp
            simp only [Look.run, Option.some.injEq] at h
            subst h
            have hkind : y.one = true ∨ ∃ n c, y = .ag n c := by
              cases lay with
              | one z' => left; simp only [Lay.put] at hnew; split at hnew; assumption; cases hnew
              | arr n z' => right; simp only [Lay.put] at hnew; split at hnew; exact ⟨_, _, rfl⟩; cases hnew
              | st l => right; simp only [Lay.put] at hnew; split at hnew; exact ⟨_, _, rfl⟩; cases hnew
            have hcr := CR_cells hkind hy
            rcases put_sound lay y new _ hnew hcr with ⟨h3, h4⟩ | rfl
            · obtain ⟨gb', h5, w', h6, h7⟩ := hb.writeSegs (P := P) hab hp h4 (CR_one _ _ hcr) (av := .u) (v1 := undef) (fun _ _ => by simp [RV])
              rw [h1] at h5; cases h5
              refine ⟨w', ?_, h7⟩
              show (storeVar T ⟨gb, o, none⟩ vy).run P w = _
              rw [run_storeVar hi (by rw [← Array.length_toList, h3, hcells, hsz])]
              exact h6
            · rcases hkind with h0 | ⟨_, _, h0⟩
              · simp [AV.one] at h0
              · cases h0
          · exact (Look.run_no h).elim
        · exact (Look.run_no h).elim
      · exact (Look.run_no h).elim
    · rename_i k g o e' i'
      simp only [RV, CR] at hx
      obtain ⟨hv0, gb, h1, hblk, hv⟩ := hx
      simp only [List.cons.injEq, and_true] at hv
      subst hv
      split at h
      · rename_i z'
        obtain ⟨ab, hab, h⟩ := Look.run_look h
        have hsize1 : sz = 1 := by simpa [Lay.cells] using hcells.symm
        split at h
        · rename_i B segs
          split at h
          · rename_i n c hs
            split at h
            · rename_i c' hset
              split at h
              · rename_i segs' hp
                simp only [Look.run, Option.some.injEq] at h
                subst h
                have hc' : i' < n := hc
                obtain ⟨g', cs, fz, h2, h3, h4, h5⟩ := bk_cells hb.mem hab
                rw [h1] at h2; cases h2
                simp only [blk, Option.some.injEq] at hblk
                subst hblk
                obtain ⟨pre, mid, post, hcs, hpre, hmid, hrc⟩ := segAt_sound g o segs n c cs.toList hs h5
                obtain ⟨r1, r2, r3, r4⟩ := RC_set hset hrc hy
                obtain ⟨pre2, mid2, post2, hcs2, hpre2, hmid2, hs'⟩ := segPut_sound g o [(n, c')] segs segs' cs.toList (mid.set i' vy) hp h5 (by
                  simp only [SegsR]; exact ⟨_, [], by simp, by simpa using hmid, r1, rfl⟩)
                have hsz2 := hs_len hcs
                have hvs : vy.cells = #[vy] := by cases vy <;> first | rfl | (simp [Value.oneCell'] at r3)
                have epre : pre2 = pre := by
                  have := congrArg (List.take o) (hcs.symm.trans hcs2)
                  rw [List.append_assoc, List.append_assoc, ← hpre, List.take_left] at this
                  rw [hpre, ← hpre2, List.take_left] at this
                  exact this.symm
                subst epre
                have epost : post2 = post := by
                  have := congrArg (List.drop (o + mid.length)) (hcs.symm.trans hcs2)
                  rw [List.drop_left' (by rw [List.length_append, hpre])] at this
                  rw [List.drop_left' (by rw [List.length_append, hpre, hmid2]; simp)] at this
                  exact this.symm
                subst epost
                obtain ⟨q1, q2, q3, q4, q5, q6⟩ := setCells_block [vy] (o + i') w cs h3 (by simp; omega)
                have e1 : (cs.toList.take (o + i') ++ [vy] ++ cs.toList.drop (o + i' + [vy].length)) = pre2 ++ mid.set i' vy ++ post2 := by
                  rw [hcs]
                  have hlt : i' < mid.length := by omega
                  rw [show pre2 ++ mid ++ post2 = pre2 ++ (mid ++ post2) by simp]
                  rw [← hpre, List.take_length_add_append, List.length_singleton, show pre2.length + i' + 1 = pre2.length + (i' + 1) by omega, List.drop_length_add_append]
                  rw [List.take_append_of_le_length (by omega), List.drop_append_of_le_length (by omega), List.set_eq_take_append_cons_drop, if_pos hlt]
                  simp
                rw [e1] at q1
                have htr := tr_write (w' := w.setCells g' (o + i') [vy]) h1 rfl q2 q3 q4 q5 q6
                refine ⟨w.setCells g' (o + i') [vy], ?_, hb.write hab rfl h1 rfl q2 q3 q4 q5 q6 ⟨g', _, fz, h1, q1, ?_, SegsR_mono htr.pres _ _ hs'⟩ (by simp [RV])⟩
                · show (storeVar T ⟨g', o + i' * 1, none⟩ vy).run P w = _
                  rw [run_storeVar hi (by rw [hvs, hsz, hsize1]; rfl), hvs, Nat.mul_one]
                  exact run_storeCells_block h3 h4 (by simp; omega) (by simpa using r3)
                · intro j hj
                  refine h4 j ?_
                  simp at hj; omega
              · exact (Look.run_no h).elim
            · exact (Look.run_no h).elim
          · exact (Look.run_no h).elim
        · rename_i B c
          split at h
          · split at h
            · rename_i c' hset
              simp only [Look.run, Option.some.injEq] at h
              subst h
              have hc' : i' < c.len real := hc
              obtain ⟨v0, n, cs, h2, h3, h4⟩ := row_cells hb.mem hab
              rw [h1] at h2; cases h2
              obtain ⟨r1, r2, r3, r4⟩ := RC_set hset h4 hy
              have hlen := RC_len r2 h4
              have hvs : vy.cells = #[vy] := by cases vy <;> first | rfl | (simp [Value.oneCell'] at r3)
              have hlt : i' < cs.length := by omega
              obtain ⟨gb', q1, w', q2, q3⟩ := hb.writeRow (P := P) (a := i') (ds := [vy]) (c' := c') hab h1 h3 (by simp; omega) (by simp)
                (by rw [List.set_eq_take_append_cons_drop, if_pos hlt] at r1; simpa using r1) (by simpa using r3) (av := .u) (v1 := undef) (fun _ _ => by simp [RV])
              rw [hblk] at q1; cases q1
              refine ⟨w', ?_, q3⟩
              show (storeVar T ⟨gb, 0 + i' * 1, none⟩ vy).run P w = _
              rw [run_storeVar hi (by rw [hvs, hsz, hsize1]; rfl), hvs, Nat.mul_one, Nat.zero_add]
              exact q2
            · exact (Look.run_no h).elim
          · exact (Look.run_no h).elim
        · exact (Look.run_no h).elim
      · exact (Look.run_no h).elim
    · exact (Look.run_no h).elim
  · exact (Look.run_no h).elim

/-! ## New variables -/
theorem newVar_run {P : Program} {w : World} {T : Nat} {v : Value} : (newVar T v).run P w = .ok ⟨w.heap.size, 0, none⟩ (w.alloc (.cells v.cells T)) := by
  simp [newVar, newRow]
theorem thawed_none (n : Nat) : Thawed (0, 0) n := fun j hj h => by simp at h
theorem Base.newBk {P : Program} {m : Hd} {w : World} {me : Mem} {kb : Nat} (hb : Base m w me kb) {T : Nat} {segs : List Seg} {cs : List Value} {arr : Array Value} (harr : arr.toList = cs) (hs : SegsR m w segs cs) :
    OkE m w me kb (.p kb 0 0) [(kb, .bk T segs)] (.pointer (some ⟨w.heap.size, 0, none⟩)) (hput m kb (.pointer (some ⟨w.heap.size, 0, none⟩))) (w.alloc (.cells arr T)) := by
  have hk := hb.fresh kb (Nat.le_refl _) (by omega)
  have hsz : (w.alloc (.cells arr T)).heap.size = w.heap.size + 1 := by simp
  have hv : ∀ b, blk (Value.pointer (some ⟨w.heap.size, 0, none⟩)) = some b → w.heap.size ≤ b := fun b h => by simp [blk] at h; omega
  have hold : ∀ b, b < w.heap.size → (w.alloc (.cells arr T)).heap[b]? = w.heap[b]? := fun b h => Below.heap_alloc w _ b h
  have htr := tr_new (w' := w.alloc (.cells arr T)) hk (by omega) hv hold rfl rfl rfl
  refine hb.new (by omega) hv (fun b h => by simp [blk] at h; omega) hold rfl rfl rfl ⟨w.heap.size, arr, (0, 0), by simp [hput_apply], heap_alloc_new w _, thawed_none _, ?_⟩ ?_
  · rw [harr]; exact SegsR_mono htr.pres _ _ hs
  · simp only [RV, CR]
    exact ⟨w.heap.size, by simp [hput_apply], rfl⟩
theorem alloc_sound {P : Program} {tt : TT} (ht : TTok P tt) {m : Hd} {w : World} {me : Mem} {kb : Nat} (hb : Base m w me kb) {T : Nat} {e : Eff}
    (h : (allocEv tt kb T).run me = some e) : ∃ v m' w', (Instr.alloc T true (.tuple #[])).run P w = .ok v w' ∧ OkE m w me kb e.v e.puts v m' w' := by
  unfold allocEv at h
  split at h
  · rename_i ti k sz by_ lay ek hl
    obtain ⟨i, z, hi, hsz, hby, hz, hzs, hseg, _⟩ := (ht.look hl).i
    simp only [Look.run, Option.some.injEq] at h
    subst h
    have hseg : SegsR m w lay.segs z.cells.toList := hseg m w
    refine ⟨_, _, _, ?_, hb.newBk (P := P) (arr := z.cells) rfl hseg⟩
    simp [Instr.alloc, zeroValue, typeInfo, hi, hz, newVar_run]
  · exact (Look.run_no h).elim
theorem box_sound {P : Program} {tt : TT} (ht : TTok P tt) {m : Hd} {w : World} {me : Mem} {kb : Nat} (hb : Base m w me kb) {T : Nat} {x : AV} {vx : Value} {e : Eff} (hx : RV m w x vx)
    (h : (boxEv tt kb T x).run me = some e) : ∃ v m' w', (Instr.box T vx).run P w = .ok v w' ∧ OkE m w me kb e.v e.puts v m' w' := by
  unfold boxEv at h
  split at h
  · rename_i ti k sz by_ lay ek hl
    split at h
    · rename_i s hs
      simp only [Look.run, Option.some.injEq] at h
      subst h
      have hkind : x.one = true ∨ ∃ n c, x = .ag n c := by
        cases lay with
        | one z' => left; simp only [Lay.put] at hs; split at hs; assumption; cases hs
        | arr n z' => right; simp only [Lay.put] at hs; split at hs; exact ⟨_, _, rfl⟩; cases hs
        | st l => right; simp only [Lay.put] at hs; split at hs; exact ⟨_, _, rfl⟩; cases hs
      have hcr := CR_cells hkind hx
      rcases put_sound lay x s _ hs hcr with ⟨h3, h4⟩ | rfl
      · refine ⟨_, _, _, ?_, hb.newBk (P := P) (arr := vx.cells) rfl h4⟩
        simp [Instr.box, newVar_run]
      · rcases hkind with h0 | ⟨_, _, h0⟩
        · simp [AV.one] at h0
        · cases h0
    · exact (Look.run_no h).elim
  · exact (Look.run_no h).elim
end Go.Vc
