/- A part of the proof of given statements: a verified condition generator for the model, and contracts of the program's functions. No condition. -/
import Derived.Test.YtegnmmfjbncgnaaVcSnd5
set_option linter.unusedVariables false
set_option linter.unusedSimpArgs false
namespace Go.Vc
open Go Go.RowKit

/-- a slice value whose elements, one cell each, are these -/
def SliceCells (w : World) (v : Value) (cs : List Value) : Prop :=
  ∃ ad n cap, v = .slice ad n cap ∧ cs.length = n ∧ n ≤ cap ∧ (0 < n → ∃ a, ad = some a ∧ ∀ j x, cs[j]? = some x → w.cell? (a.add j) = some x)

theorem add_add_at (a : Addr) (i j : Nat) : (a.add i).add j = a.add (i + j) := by
  unfold Addr.add
  by_cases hi : i = 0 <;> by_cases hj : j = 0 <;> simp [hi, hj, Nat.add_assoc]

section
variable {m : Hd} {w : World}
theorem cut_isE {c d : AC} {a n e : Nat} (h : c.cutE real e a n = some d) : c.isE e = true ∧ c.cut real a n = some d := by
  unfold AC.cutE at h
  split at h
  · exact ⟨by assumption, h⟩
  · cases h
theorem isE_of_esz {c : AC} {e : Nat} (h : c.esz = some e) (h0 : 0 < e) : c.isE e = true := by
  unfold AC.isE; rw [h]; simp [Nat.blt, h0]; omega

/-- a row as a slice of cells -/
theorem row_slice {T n : Nat} {v : Value} {cs : List Value} (h : OwnRow w T 1 v n cs) : SliceCells w v cs := by
  have hl := h.1
  rcases h.2 with ⟨rfl, rfl⟩ | ⟨g, cap, cur, fz, rfl, h1, h2, h3, h4, h5, h6⟩
  · exact ⟨none, 0, 0, rfl, by omega, by omega, fun h => by omega⟩
  · refine ⟨_, n, cap, rfl, by omega, h3, fun _ => ⟨_, rfl, ?_⟩⟩
    exact cells_at h1 (pre := []) (mid := cs) (post := cur.toList.drop (n * 1)) (by rw [List.nil_append, ← h6, List.take_append_drop]) rfl

theorem content_sound {me : Mem} {kb : Nat} (hb : Base m w me kb) {a : AV} {v : Value} {K : AC → Look} {e : Eff} (hv : RV m w a v)
    (h : (withContent real a K).run me = some e) (hc : e.c) :
    ∃ c cs e0, (K c).run me = some e0 ∧ e0.c ∧ e0.v = e.v ∧ e0.puts = e.puts ∧ RC m w c cs ∧ c.esz = some 1 ∧ SliceCells w v cs := by
  unfold withContent at h
  split at h
  · rename_i c
    split at h
    · rename_i he
      obtain ⟨h1, h2⟩ := isE_spec he
      simp only [RV, CR] at hv
      obtain ⟨ad, n, cap, ds, h3, h4, h5, h6, h7⟩ := hv
      simp only [List.cons.injEq, and_true] at h3
      subst h3
      refine ⟨c, ds, e, h, hc, rfl, rfl, h4, h1, ad, n, cap, rfl, by omega, h6, fun hn => ?_⟩
      obtain ⟨a, ha, hs⟩ := h7 hn
      exact ⟨a, ha, hs.2⟩
    · exact (Look.run_no h).elim
  · rename_i k
    obtain ⟨ab, hab, h⟩ := Look.run_look h
    split at h
    · rename_i T c
      split at h
      · rename_i he
        obtain ⟨h1, h2⟩ := isE_spec he
        obtain ⟨v0, n, cs, h3, h4, h5⟩ := row_cells hb.mem hab
        simp only [RV, CR] at hv
        obtain ⟨v1, h6, h7, _⟩ := hv
        rw [h3] at h6; cases h6
        simp only [List.cons.injEq, and_true] at h7
        subst h7
        exact ⟨c, cs, e, h, hc, rfl, rfl, h5, h1, row_slice h4⟩
      · exact (Look.run_no h).elim
    · exact (Look.run_no h).elim
  · rename_i k g o a n
    obtain ⟨ab, hab, h⟩ := Look.run_look h
    simp only [RV, CR] at hv
    obtain ⟨v0, ad, cap, h6, h7, h8, h9⟩ := hv
    simp only [List.cons.injEq, and_true] at h7
    subst h7
    split at h
    · rename_i T c
      split at h
      · split at h
        · rename_i d hd
          obtain ⟨e0, g1, rfl⟩ := Look.run_more h
          obtain ⟨he, hcut⟩ := cut_isE hd
          obtain ⟨h1, h2⟩ := isE_spec he
          obtain ⟨v1, n1, cs, h3, h4, h5⟩ := row_cells hb.mem hab
          rw [h3] at h6; cases h6
          have hle : a + n ≤ c.len real := hc.1
          obtain ⟨r1, r2, r3⟩ := RC_cut hcut h1 h5 hle
          have hlen := RC_len h1 h5
          refine ⟨d, _, e0, g1, hc.2, rfl, rfl, r1, r2, ad, n, cap, rfl, by simp; omega, h8, fun hn => ?_⟩
          obtain ⟨gb, k1, k2⟩ := h9 hn
          refine ⟨_, k2, fun j x hx => ?_⟩
          obtain ⟨g', cap', cur, fz, rest, rfl, q1, q2, q3, q4, q5, q6⟩ := row_open h4 (i := a) (by omega)
          simp only [blk, Option.some.injEq] at k1
          subst k1
          have := cells_at q1 (pre := []) (mid := cs) (post := rest) (by simpa using q6) rfl (a + j) x (by
            rw [List.getElem?_take] at hx
            split at hx
            · rw [List.getElem?_drop] at hx; simpa using hx
            · cases hx)
          rw [add_at] at this ⊢
          rw [show 0 + a * 1 + j = 0 + (a + j) by omega]; exact this
        · exact (Look.run_no h).elim
      · exact (Look.run_no h).elim
    · rename_i T segs
      split at h
      · rename_i n0 c hs
        split at h
        · rename_i d hd
          obtain ⟨e0, g1, rfl⟩ := Look.run_more h
          obtain ⟨he, hcut⟩ := cut_isE hd
          obtain ⟨h1, h2⟩ := isE_spec he
          obtain ⟨gb, cs, fz, h3, h4, h4b, h5⟩ := bk_cells hb.mem hab
          rw [h3] at h6; cases h6
          obtain ⟨pre, mid, post, hcs, hpre, hmid, hrc⟩ := segAt_sound g o segs n0 c cs.toList hs h5
          have hle : a + n ≤ c.len real := hc.1
          obtain ⟨r1, r2, r3⟩ := RC_cut hcut h1 hrc hle
          have hlen := RC_len h1 hrc
          refine ⟨d, _, e0, g1, hc.2, rfl, rfl, r1, r2, ad, n, cap, rfl, by simp; omega, h8, fun hn => ?_⟩
          obtain ⟨gb', k1, k2⟩ := h9 hn
          simp only [blk, Option.some.injEq] at k1
          subst k1
          refine ⟨_, k2, fun j x hx => ?_⟩
          have := cells_at h4 hcs hpre (a + j) x (by
            rw [List.getElem?_take] at hx
            split at hx
            · rw [List.getElem?_drop] at hx; simpa using hx
            · cases hx)
          rw [add_at] at this ⊢
          rw [show o + a * 1 + j = o + (a + j) by omega]; exact this
        · exact (Look.run_no h).elim
      · exact (Look.run_no h).elim
    · exact (Look.run_no h).elim
  · exact (Look.run_no h).elim

theorem run_lenOf {P : Program} {v : Value} {cs : List Value} (h : SliceCells w v cs) (w' : World) : (Builtin.lenOf v).run P w' = .ok cs.length w' := by
  obtain ⟨ad, n, cap, rfl, h1, _⟩ := h
  simp [Builtin.lenOf, h1]
theorem run_firstOf {P : Program} {v : Value} {cs : List Value} (h : SliceCells w v cs) {k : Nat} (hk : k ≤ cs.length) (w' : World) (hw : w'.heap = w.heap) :
    (Builtin.firstCells 1 k v).run P w' = .ok (cs.take k).toArray w' := by
  obtain ⟨ad, n, cap, rfl, h1, h2, h3⟩ := h
  by_cases hn : 0 < n
  · obtain ⟨a, rfl, hc⟩ := h3 hn
    exact run_firstCells_some w' 1 k a n cap (cs.take k) (by simp; omega) (fun j x hx => by
      have : w'.cell? (a.add j) = w.cell? (a.add j) := by simp [World.cell?, hw]
      rw [this]
      rw [List.getElem?_take] at hx
      split at hx
      · exact hc j x hx
      · cases hx)
  · have hk0 : k = 0 := by omega
    subst hk0
    cases ad with
    | none => simp [Builtin.firstCells]
    | some a => simpa using run_firstCells_some (P := P) w' 1 0 a n cap [] (by simp) (by simp)
end

/-! ## append -/
/-- what is appended: its number and its cells, in this world and behind a draw -/
structure Src (P : Program) (w : World) (x : Value) (news : List Value) : Prop where
  len : ∀ w', (Builtin.lenOf x).run P w' = .ok news.length w'
  first : ∀ w', w'.heap = w.heap → (Builtin.firstCells 1 news.length x).run P w' = .ok news.toArray w'
  one : ∀ v ∈ news, v.oneCell' = true
theorem Src.of_slice {P : Program} {w : World} {v : Value} {cs : List Value} (h : SliceCells w v cs) (h1 : ∀ v ∈ cs, v.oneCell' = true) : Src P w v cs :=
  ⟨fun w' => run_lenOf h w', fun w' hw => by have := run_firstOf (P := P) h (Nat.le_refl _) w' hw; simpa using this, h1⟩
theorem Src.of_string {P : Program} (w : World) (xs : List UInt8) : Src P w (.string ⟨xs.toArray⟩) (xs.map E8) := by
  refine ⟨fun w' => by simp [Builtin.lenOf, ByteArray.size], fun w' _ => ?_, fun v hv => by obtain ⟨x, _, rfl⟩ := List.mem_map.1 hv; rfl⟩
  simp only [Builtin.firstCells, List.length_map, Sem.run_pure]
  congr 1
  have : (⟨xs.toArray⟩ : ByteArray).extract 0 xs.length = ⟨xs.toArray⟩ := by
    apply ByteArray.ext
    simp
  rw [this]
  simp
theorem Src.of_nil {P : Program} (w : World) : Src P w (.slice none 0 0) [] :=
  ⟨fun w' => by simp [Builtin.lenOf], fun w' _ => by simp [Builtin.firstCells], by simp⟩

theorem zeroCells_size (z : Value) (n : Nat) : (Builtin.zeroCells #[z] n).size = n := by simp [Builtin.zeroCells]

theorem run_append_row {P : Program} {w : World} {t t2 te : Nat} {ty : Nat} {i : TypeInfo} {z : Value} {d2 : TypeDesc} (ht : P.underlying t = some (.slice te)) (ht2 : P.underlying t2 = some d2)
    (hd2 : (∃ e2, d2 = .slice e2) ∨ d2 = .string) (hi : P.info? te = some i) (hsize : i.size = 1) (hz : i.zero = some z) (hzc : z.cells = #[z])
    {v x : Value} {n : Nat} {cs news : List Value} (ho : OwnRow w te 1 v n cs) (hs : Src P w x news) (hcap : (n + news.length) * i.bytes ≤ 140737488355328) (hmax : n + news.length ≤ 4611686018427387904) :
    ∃ v' w', (Builtin.append_ #[t, t2] ty #[v, x]).run P w = .ok v' w' ∧ OwnRow w' te 1 v' (n + news.length) (cs ++ news) ∧ v'.oneCell' = true ∧
      ((w'.heap.size = w.heap.size ∧ v.oneCell' = true ∧ blk v' = blk v ∧ ∀ b, blk v ≠ some b → w'.heap[b]? = w.heap[b]?) ∨
        (w'.heap.size = w.heap.size + 1 ∧ blk v' = some w.heap.size ∧ ∀ b, b < w.heap.size → w'.heap[b]? = w.heap[b]?)) ∧ w'.os = w.os ∧ w'.tape = w.tape ∧ w'.output = w.output := by
  have hl := ho.1
  have hlen : (cs ++ news).length = (n + news.length) * 1 := by simp; omega
  have hu := run_underlying ht
  have hu2 := run_underlying ht2
  have grow : ∀ (old : Nat), old < n + news.length → (base : Option Addr) → v = .slice base n old → (∀ w', w'.heap = w.heap → (Builtin.firstCells 1 n v).run P w' = .ok cs.toArray w') →
      ∃ v' w', (Builtin.append_ #[t, t2] ty #[v, x]).run P w = .ok v' w' ∧ OwnRow w' te 1 v' (n + news.length) (cs ++ news) ∧ v'.oneCell' = true ∧
        (w'.heap.size = w.heap.size + 1 ∧ blk v' = some w.heap.size ∧ ∀ b, b < w.heap.size → w'.heap[b]? = w.heap[b]?) ∧ w'.os = w.os ∧ w'.tape = w.tape ∧ w'.output = w.output := by
    intro old hold base hv hf
    have hn : ¬ (n + news.length ≤ old) := by omega
    have h63' : ¬ (9223372036854775807 < ((n : Int) + (news.length : Int))) := by omega
    have h48' : ¬ (281474976710656 < Builtin.nextslicecap (n + news.length) old * i.bytes) := by
      have := growslice_fits (bytes := i.bytes) hold hcap; omega
    have hge := grownCap_ge w (n + news.length) old te
    have hcm : grownCap w (n + news.length) old te ≤ maxLen := grownCap_le_maxLen w _ old te (by unfold maxLen; omega)
    refine ⟨.slice (some ⟨w.heap.size, 0, none⟩) (n + news.length) (grownCap w (n + news.length) old te),
      w.drew.alloc (.cells (cs.toArray ++ news.toArray ++ Builtin.zeroCells #[z] (grownCap w (n + news.length) old te - (n + news.length))) te), ?_, ?_, rfl, ⟨by simp, rfl, fun b hb => Below.heap_alloc w.drew _ b hb⟩, rfl, rfl, rfl⟩
    · have hf0 := hf w.drew rfl
      have hs0 := hs.first w.drew rfl
      rw [hv] at hf0 ⊢
      rcases hd2 with ⟨e2, rfl⟩ | rfl <;> simp [Builtin.append_, hu, hu2, sizeOf, typeInfo, zeroValue, hi, hz, hsize, hzc, hs.len, hn, h63', h48', Question.forced, hf0, hs0, newRow, grownCap]
      all_goals (congr 2; apply Array.ext'; simp [List.append_assoc])
    · refine ⟨hlen, .inr ⟨w.heap.size, _, _, (0, 0), rfl, heap_alloc_new w.drew _, thawed_none _, hge, hcm, ?_, ?_⟩⟩
      · simp only [Array.size_append, List.size_toArray, zeroCells_size]
        omega
      · simp only [Array.toList_append, List.append_assoc]
        rw [← List.append_assoc, ← hlen]
        exact List.take_left
  rcases ho.2 with ⟨rfl, rfl⟩ | ⟨g, cap, cur, fz, rfl, h1, h2, h3, h4, h5, h6⟩
  · have hcs : cs = [] := List.eq_nil_of_length_eq_zero (by omega)
    subst hcs
    by_cases hm : news.length = 0
    · have hnw : news = [] := List.eq_nil_of_length_eq_zero hm
      subst hnw
      refine ⟨.slice none 0 0, w, ?_, ⟨by simp, .inl ⟨rfl, by simp⟩⟩, rfl, .inl ⟨rfl, rfl, rfl, fun _ _ => rfl⟩, rfl, rfl, rfl⟩
      have hs0 := hs.first w rfl
      have hs1 := hs.len
      simp only [List.length_nil] at hs0 hs1
      rcases hd2 with ⟨e2, rfl⟩ | rfl <;> simp [Builtin.append_, hu, hu2, sizeOf, typeInfo, hi, hsize, hs1, hs0]
    · obtain ⟨v', w', g1, g2, g3, g4, g5⟩ := grow 0 (by omega) none rfl (fun w' _ => by simp [Builtin.firstCells])
      exact ⟨v', w', g1, g2, g3, .inr g4, g5⟩
  · have hcell := cells_at h1 (pre := []) (mid := cs) (post := cur.toList.drop (n * 1)) (by rw [List.nil_append, ← h6, List.take_append_drop]) rfl
    by_cases hroom : n + news.length ≤ cap
    · have hszc : cur.size = cap := by omega
      obtain ⟨q1, q2, q3, q4, q5, q6⟩ := setCells_block news n w cur h1 (by omega)
      refine ⟨.slice (some ⟨g, 0, none⟩) (n + news.length) cap, w.setCells g n news, ?_, ⟨hlen, .inr ⟨g, cap, _, fz, rfl, q1, ?_, hroom, h4, ?_, ?_⟩⟩, rfl, .inl ⟨q2, rfl, rfl, fun b hb => q3 b (fun e => hb (by rw [e]; rfl))⟩, q4, q5, q6⟩
      · have hst := run_storeCells_block (P := P) h1 h2 (by omega : n + news.length ≤ cur.size) hs.one
        have hs0 := hs.first w rfl
        have hadd : (⟨g, 0, none⟩ : Addr).add n = ⟨g, n, none⟩ := by rw [add_at, Nat.zero_add]
        rcases hd2 with ⟨e2, rfl⟩ | rfl <;> simp [Builtin.append_, hu, hu2, sizeOf, typeInfo, hi, hsize, hs.len, hroom, hs0, hst, hadd]
      · intro j hj; refine h2 j ?_; simp at hj; omega
      · simp; omega
      · show List.take ((n + news.length) * 1) (cur.toList.take n ++ news ++ cur.toList.drop (n + news.length)) = _
        have e : cur.toList.take n = cs := by rw [← h6, Nat.mul_one]
        rw [e, ← hlen]
        exact List.take_left
    · obtain ⟨v', w', g1, g2, g3, g4, g5⟩ := grow cap (by omega) (some ⟨g, 0, none⟩) rfl (fun w' hw => by
        refine run_firstCells_some w' 1 n _ n cap cs (by omega) (fun j x hx => ?_)
        have : w'.cell? ((⟨g, 0, none⟩ : Addr).add j) = w.cell? ((⟨g, 0, none⟩ : Addr).add j) := by simp [World.cell?, hw]
        rw [this]; exact hcell j x hx)
      exact ⟨v', w', g1, g2, g3, .inr g4, g5⟩
end Go.Vc
