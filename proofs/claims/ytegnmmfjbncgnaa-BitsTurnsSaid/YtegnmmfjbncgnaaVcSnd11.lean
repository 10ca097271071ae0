/- A part of the proof of given statements: a verified condition generator for the model, and contracts of the program's functions. No condition. -/
import Derived.Test.YtegnmmfjbncgnaaVcSnd10
set_option linter.unusedVariables false
set_option linter.unusedSimpArgs false
namespace Go.Vc
open Go Go.RowKit

section
variable {P : Program} {tt : TT} {m : Hd} {w : World} {me : Mem} {kb : Nat}

theorem E8_inj : ∀ (xs ys : List UInt8), xs.map E8 = ys.map E8 → xs = ys
  | [], [], _ => rfl
  | [], _ :: _, h => by simp at h
  | _ :: _, [], h => by simp at h
  | x :: xs, y :: ys, h => by
    simp only [List.map_cons, List.cons.injEq, Value.int.injEq, true_and] at h
    have : x = y := UInt8.toNat_inj.1 (by omega)
    rw [this, E8_inj xs ys h.2]

theorem freeze_heap {w : World} {g n : Nat} {cs : Array Value} {T : Nat} (h : w.heap[g]? = some (.cells cs T (0, 0))) :
    (w.freeze ⟨g, n, none⟩ 1).heap[g]? = some (.cells cs T (n, n + 1)) := by
  simp [World.freeze, Array.getElem?_modify, h]
theorem freeze_other {w : World} {g n b : Nat} (hb : b ≠ g) : (w.freeze ⟨g, n, none⟩ 1).heap[b]? = w.heap[b]? := by
  simp only [World.freeze, Nat.one_ne_zero, if_false, Array.getElem?_modify]
  rw [if_neg (fun e => hb e.symm)]
theorem run_stringToBytes {w : World} {te : Nat} {xs : List UInt8} (hl : xs.length ≤ 4611686018427387904) :
    ∃ w' cap, (Conv.stringToBytes te ⟨xs.toArray⟩).run P w = .ok (.slice (some ⟨w.heap.size, 0, none⟩) xs.length cap) w' ∧
      OwnRow w' te 1 (.slice (some ⟨w.heap.size, 0, none⟩) xs.length cap) xs.length (xs.map E8) ∧ w'.heap.size = w.heap.size + 1 ∧ (∀ b, b < w.heap.size → w'.heap[b]? = w.heap[b]?) ∧
      w'.os = w.os ∧ w'.tape = w.tape ∧ w'.output = w.output := by
  have hs : (⟨xs.toArray⟩ : ByteArray).size = xs.length := by simp [ByteArray.size]
  have hge := grownCap_ge w xs.length 0 te
  have hle : grownCap w xs.length 0 te ≤ maxLen := grownCap_le_maxLen w _ 0 te (by unfold maxLen; omega)
  let arr : Array Value := (xs.map E8).toArray ++ Array.replicate (grownCap w xs.length 0 te - xs.length) (.int .u8 0)
  have harr : arr.size = grownCap w xs.length 0 te := by simp [arr]; omega
  have hnew : (w.drew.alloc (.cells arr te)).heap[w.heap.size]? = some (.cells arr te (0, 0)) := heap_alloc_new w.drew _
  refine ⟨(w.drew.alloc (.cells arr te)).freeze ⟨w.heap.size, arr.size, none⟩ 1, grownCap w xs.length 0 te, ?_, ⟨by simp, .inr ⟨w.heap.size, _, arr, (arr.size, arr.size + 1), rfl, freeze_heap hnew, fun j hj h => by omega, hge, hle, by omega, ?_⟩⟩, ?_, fun b hb => ?_, rfl, rfl, rfl⟩
  · have hm := markStringish_run (P := P) hnew
    have e : (⟨xs.toArray⟩ : ByteArray).data.map (fun b => Value.int .u8 (b.toNat : Int)) = (xs.map E8).toArray := by simp
    unfold Conv.stringToBytes
    simp only [Sem.run_bind, run_choose, Question.forced, Bool.false_eq_true, if_false, Result.andThen_ok, hs, newRow, run_newObj, Sem.run_pure]
    have e2 : ({ ({ w with drawn := w.drawn + 1 } : World) with heap := ({ w with drawn := w.drawn + 1 } : World).heap.push (.cells ((⟨xs.toArray⟩ : ByteArray).data.map (fun b => Value.int .u8 (b.toNat : Int)) ++ Array.replicate ((Question.appendCap xs.length 0 te).cut (w.tape w.drawn (Question.appendCap xs.length 0 te)) - xs.length) (.int .u8 0)) te) } : World) = w.drew.alloc (.cells arr te) := by
      rw [e]; rfl
    rw [e2]
    have hm' : (markStringish ⟨({ w with drawn := w.drawn + 1 } : World).heap.size, 0, none⟩).run P (w.drew.alloc (.cells arr te)) = .ok () ((w.drew.alloc (.cells arr te)).freeze ⟨w.heap.size, arr.size, none⟩ 1) := hm
    rw [hm']
    rfl
  · simp [arr]
  · simp [World.freeze]
  · rw [freeze_other (by omega)]
    exact Below.heap_alloc w.drew _ b hb

theorem conv_sound (ht : TTok P tt) (hb : Base m w me kb) {src dst : Nat} {x : AV} {vx : Value} {e : Eff} (hx : RV m w x vx) (h : (convEv real tt kb src dst x).run me = some e) (hc : e.c) :
    ∃ v m' w', (convert src dst vx).run P w = .ok v w' ∧ OkE m w me kb e.v e.puts v m' w' := by
  unfold convEv at h
  split at h
  · -- to a whole number
    rename_i k _ _ _ _ hl
    have hd : P.underlying dst = some (.int k) := (ht.look hl).k
    split at h
    · rename_i n j _ _ _ _ hn hl2
      have hs : P.underlying src = some (.int j) := (ht.look hl2).k
      obtain ⟨k0, rfl⟩ := num_int hn hx
      split at h
      · rename_i v hv
        have := Look.run_pure1 h
        subst this
        exact ⟨_, _, _, run_conv_int hd hs, hb.same (intTo_sound hv)⟩
      · exact (Look.run_no h).elim
    · exact (Look.run_no h).elim
  · -- to a text
    rename_i hl
    have hd : P.underlying dst = some .string := (ht.look hl).k
    split at h
    · rename_i hl2
      have hs : P.underlying src = some .string := (ht.look hl2).k
      split at h
      · rename_i xs
        have := Look.run_pure1 h
        subst this
        simp only [RV, CR, List.cons.injEq, and_true] at hx
        subst hx
        exact ⟨.string ⟨xs.toArray⟩, m, w, by simp [convert, run_underlying hd, run_underlying hs], hb.same (by simp [RV, CR])⟩
      · exact (Look.run_no h).elim
    · rename_i te _ _ _ _ hl2
      have hs : P.underlying src = some (.slice te) := (ht.look hl2).k
      split at h
      · rename_i hl3
        have hte : P.underlying te = some (.int .u8) := (ht.look hl3).k
        have hrun : ∀ ad n cap, (convert src dst (.slice ad n cap)).run P w = (Conv.bytesToString (.slice ad n cap)).run P w := fun ad n cap => by
          simp [convert, run_underlying hd, run_underlying hs, run_underlying hte]
        split at h
        · have := Look.run_pure1 h
          subst this
          simp only [RV, CR, List.cons.injEq, and_true] at hx
          subst hx
          exact ⟨_, _, _, by rw [hrun]; rfl, hb.same (by simp [RV, CR]; rfl)⟩
        · obtain ⟨c, cs, e0, h1, h2, h3, h4, h5, h6, h7⟩ := content_sound hb hx h hc
          rw [← h3, ← h4]
          split at h1
          · rename_i xs
            have := Look.run_pure1 h1
            subst this
            simp only [RC] at h5
            subst h5
            have hr := run_bytesToString (P := P) h7
            obtain ⟨ad, n, cap, rfl, _⟩ := h7
            exact ⟨_, _, _, by rw [hrun]; exact hr, hb.same (by simp [RV, CR])⟩
          · exact (Look.run_no h1).elim
      · exact (Look.run_no h).elim
    · exact (Look.run_no h).elim
  · -- to bytes
    rename_i te _ _ _ _ hl
    have hd : P.underlying dst = some (.slice te) := (ht.look hl).k
    split at h
    · rename_i hl2
      have hte : P.underlying te = some (.int .u8) := (ht.look hl2).k
      split at h
      · rename_i xs _ _ _ _ hl3
        have hs : P.underlying src = some .string := (ht.look hl3).k
        simp only [Look.run, Option.some.injEq] at h
        subst h
        simp only [RV, CR, List.cons.injEq, and_true] at hx
        subst hx
        have hcap : xs.length ≤ 4611686018427387904 := hc.2
        obtain ⟨w', cap, g1, g2, g3, g4, g5, g6, g7⟩ := run_stringToBytes (P := P) (w := w) (te := te) hcap
        refine ⟨_, _, w', ?_, hb.newRow g2 (by simp [RC]) rfl (by omega) (fun b hb' => by simp [blk] at hb'; omega) g4 g5 g6 g7⟩
        simp [convert, run_underlying hd, run_underlying hs, run_underlying hte, g1]
      · exact (Look.run_no h).elim
    · exact (Look.run_no h).elim
  · exact (Look.run_no h).elim

/-! ## make -/
theorem madeCells_one (z : Value) (n : Nat) : (madeCells #[z] n).toList = List.replicate n z := by
  simp only [madeCells]
  apply List.ext_getElem?
  intro j
  simp only [Array.toList_map, Array.toList_range, List.getElem?_map, List.getElem?_range, List.getElem?_replicate]
  by_cases hj : j < n
  · simp [hj, Nat.mod_one]
  · simp [hj]
theorem makeSlice_sound (ht : TTok P tt) (hb : Base m w me kb) {T : Nat} {n c : AV} {vn vc : Value} {e : Eff} (hn : RV m w n vn) (hcv : RV m w c vc)
    (h : (makeSliceEv real tt kb T n c).run me = some e) (hc : e.c) : ∃ v m' w', (Instr.makeSlice T vn vc).run P w = .ok v w' ∧ OkE m w me kb e.v e.puts v m' w' := by
  unfold makeSliceEv at h
  split at h
  · rename_i a b
    simp only [RV, CR, List.cons.injEq, and_true] at hn hcv
    subst hn; subst hcv
    split at h
    · rename_i te _ _ _ _ hl
      have hT : P.underlying T = some (.slice te) := (ht.look hl).k
      split at h
      · rename_i kk by_ z0 ek hl2
        obtain ⟨i, z, hi, hsz, hby, hz, hzs, _, hek⟩ := (ht.look hl2).i
        obtain ⟨hzc, hz1, hrep⟩ := hek ek rfl
        have hsz : i.size = 1 := hsz
        have hby : i.bytes = by_ := hby
        simp only [Look.run, Option.some.injEq] at h
        subst h
        obtain ⟨c1, c2, c3, c4, c5⟩ := hc
        have c1 : 0 ≤ a := c1
        have c2 : a ≤ b := c2
        have c4 : b * (by_ : Int) ≤ 281474976710656 := c4
        have c5 : b ≤ 4611686018427387904 := c5
        have hr := run_make (P := P) w T te i z hT hi hz .i64 .i64 a b c1 c2 (by rw [hby, Int.mul_comm]; exact c4) (by omega)
        rw [hsz, Nat.mul_one, hzc] at hr
        refine ⟨_, _, _, hr, hb.newRow (n := a.toNat) (cs := List.replicate a.toNat z) ⟨by simp, .inr ⟨w.heap.size, b.toNat, _, (0, 0), rfl, heap_alloc_new w _, thawed_none _, by omega, by unfold maxLen; omega, by rw [size_madeCells, Nat.mul_one], ?_⟩⟩ (hrep m w _) rfl (by simp) (fun x hx => by simp [blk] at hx; omega) (fun x hx => Below.heap_alloc w _ x hx) rfl rfl rfl⟩
        rw [madeCells_one, List.take_replicate]
        congr 1; omega
      · exact (Look.run_no h).elim
    · exact (Look.run_no h).elim
  · exact (Look.run_no h).elim

/-! ## Parts -/
def PartsR (m : Hd) (w : World) : List (Nat × AV) → List (Nat × Value) → Prop
  | [], [] => True
  | (i, a) :: r, (j, v) :: s => i = j ∧ RV m w a v ∧ PartsR m w r s
  | _, _ => False
theorem cells_one {v : Value} (h : v.oneCell' = true) : v.cells = #[v] := by cases v <;> first | rfl | (simp [Value.oneCell'] at h)
theorem fill_one {cs : Array Value} {i : Nat} {v : Value} {r : List (Nat × Value)} (h : v.oneCell' = true) (hi : i < cs.size) :
    Instr.fill (fun i => some (i * 1, 1)) cs ((i, v) :: r) = Instr.fill (fun i => some (i * 1, 1)) (cs.setIfInBounds i v) r := by
  simp only [Instr.fill, cells_one h]
  simp
  omega
theorem RVs_len : ∀ (l : List AV) (vs : List Value), RVs m w l vs → vs.length = l.length
  | [], vs, h => by simp only [RVs] at h; subst h; rfl
  | a :: l, vs, h => by simp only [RVs] at h; obtain ⟨v, r, rfl, _, h2⟩ := h; simp [RVs_len l r h2]
theorem fill_order : ∀ (l : List AV) (parts : List (Nat × AV)) (vparts : List (Nat × Value)) (i : Nat) (cs : Array Value) (k : EK) (c : AC), inOrder i parts = some l → PartsR m w parts vparts → k.ofAVs l = some c →
    i + l.length ≤ cs.size → ∃ vs, RVs m w l vs ∧ Instr.fill (fun i => some (i * 1, 1)) cs vparts = some ((cs.toList.take i ++ vs ++ cs.toList.drop (i + vs.length)).toArray)
  | l, [], vparts, i, cs, k, c, h, hp, hk, hl => by
    simp only [inOrder, Option.some.injEq] at h
    subst h
    cases vparts with
    | nil => exact ⟨[], by simp [RVs], by simp [Instr.fill]⟩
    | cons _ _ => simp [PartsR] at hp
  | l, (j, a) :: r, vparts, i, cs, k, c, h, hp, hk, hl => by
    simp only [inOrder] at h
    split at h
    · rename_i hb
      have := beq_nat hb
      subst this
      split at h
      · rename_i l' hl'
        cases h
        cases vparts with
        | nil => simp [PartsR] at hp
        | cons p s =>
          obtain ⟨j, v⟩ := p
          simp only [PartsR] at hp
          obtain ⟨rfl, hv, hp⟩ := hp
          simp only [EK.ofAVs] at hk
          split at hk
          · rename_i c0 hc0
            have h1 := cons_one hk hv
            simp only [List.length_cons] at hl
            obtain ⟨vs, g1, g2⟩ := fill_order l' r s (i + 1) (cs.setIfInBounds i v) k c0 hl' hp hc0 (by simp; omega)
            refine ⟨v :: vs, by simp only [RVs]; exact ⟨v, vs, rfl, hv, g1⟩, ?_⟩
            rw [fill_one h1 (by omega), g2]
            have hlen : vs.length = l'.length := RVs_len l' vs g1
            have e := list_seg_step cs.toList i v vs (by simp; omega)
            simp only [Array.toList_setIfInBounds, List.length_cons]
            rw [e]
          · cases hk
      · cases h
    · cases h
theorem inOrder_len : ∀ (parts : List (Nat × AV)) (i : Nat) (l : List AV), inOrder i parts = some l → l.length = buildEv.plen parts
  | [], i, l, h => by simp only [inOrder, Option.some.injEq] at h; subst h; rfl
  | (j, a) :: r, i, l, h => by
    simp only [inOrder] at h
    split at h
    · split at h
      · rename_i l' hl'
        cases h
        simp [buildEv.plen, inOrder_len r _ l' hl']
      · cases h
    · cases h
theorem buildSlice_sound (ht : TTok P tt) (hb : Base m w me kb) {T len : Nat} {parts : List (Nat × AV)} {vparts : Array (Nat × Value)} {e : Eff} (hp : PartsR m w parts vparts.toList)
    (h : (buildSliceEv tt kb T len parts).run me = some e) : ∃ v m' w', (Instr.buildSlice T len vparts).run P w = .ok v w' ∧ OkE m w me kb e.v e.puts v m' w' := by
  unfold buildSliceEv at h
  split at h
  · rename_i te _ _ _ _ hl
    have hT : P.underlying T = some (.slice te) := (ht.look hl).k
    split at h
    · rename_i kk by_ z0 ek hl2
      obtain ⟨i, z, hi, hsz, hby, hz, hzs, _, hek⟩ := (ht.look hl2).i
      obtain ⟨hzc, hz1, hrep⟩ := hek ek rfl
      have hsz : i.size = 1 := hsz
      split at h
      · rename_i hlen hmax
        have hlen := beq_nat hlen
        have hmax := ble_nat hmax
        split at h
        · rename_i l hl3
          split at h
          · rename_i c hc
            simp only [Look.run, Option.some.injEq] at h
            subst h
            have hll := inOrder_len parts 0 l hl3
            have hmade : ∀ (a : Array Value), a.size = len → ∃ vs, RVs m w l vs ∧ Instr.fill (fun i => some (i * 1, 1)) a vparts.toList = some vs.toArray := by
              intro a ha
              obtain ⟨vs, g1, g2⟩ := fill_order l parts vparts.toList 0 a ek c hl3 hp hc (by omega)
              refine ⟨vs, g1, ?_⟩
              have := RVs_len l vs g1
              rw [g2]
              simp
              omega
            obtain ⟨vs, g1, g2⟩ := hmade ((Array.range (len * 1)).map (((if len * 1 = 0 then #[] else #[z]) : Array Value)[· % ((if len * 1 = 0 then #[] else #[z]) : Array Value).size]!)) (by simp)
            have hvl := RVs_len l vs g1
            obtain ⟨r1, r2⟩ := ofAVs_sound hc g1
            refine ⟨.slice (some ⟨w.heap.size, 0, none⟩) len len, _, w.alloc (.cells vs.toArray te), ?_, hb.newRow (n := len) (cs := vs) ⟨by omega, .inr ⟨w.heap.size, len, _, (0, 0), rfl, heap_alloc_new w _, thawed_none _, Nat.le_refl _, by unfold maxLen; omega, by simp; omega, by show List.take (len * 1) vs = vs; rw [List.take_of_length_le (by omega)]⟩⟩ r1 rfl (by simp) (fun x hx => by simp [blk] at hx; omega) (fun x hx => Below.heap_alloc w _ x hx) rfl rfl rfl⟩
            have hbig : ¬ (len * 1 > 2 ^ 24) := by omega
            unfold Instr.buildSlice
            simp only [Sem.run_bind, run_underlying hT, Result.andThen_ok, sizeOf, typeInfo, run_program, hi, Sem.run_pure, hsz]
            rw [if_neg hbig]
            by_cases h0 : len * 1 = 0
            · rw [if_pos h0] at g2
              simp only [h0, if_true, Sem.run_pure, Sem.run_bind, Result.andThen_ok] at g2 ⊢
              rw [g2]
              simp [newRow]
            · rw [if_neg h0] at g2
              simp only [h0, if_false, Sem.run_bind, zeroValue, typeInfo, run_program, Result.andThen_ok, hi, hz, Sem.run_pure, hzc] at g2 ⊢
              rw [g2]
              simp [newRow]
          · exact (Look.run_no h).elim
        · exact (Look.run_no h).elim
      · exact (Look.run_no h).elim
    · exact (Look.run_no h).elim
  · exact (Look.run_no h).elim
end
end Go.Vc
