/- A part of the proof of given statements: a verified condition generator for the model, and contracts of the program's functions. No condition. -/
import Derived.Test.YtegnmmfjbncgnaaVcSnd3
set_option linter.unusedVariables false
set_option linter.unusedSimpArgs false
namespace Go.Vc
open Go Go.RowKit

/-! ## Cells of a block -/
theorem add_at (g o j : Nat) : (⟨g, o, none⟩ : Addr).add j = ⟨g, o + j, none⟩ := by unfold Addr.add; split <;> simp_all
theorem cells_at {w : World} {g o : Nat} {cs : Array Value} {T : Nat} {fz : Nat × Nat} {pre mid post : List Value} (h : w.heap[g]? = some (.cells cs T fz))
    (hcs : cs.toList = pre ++ mid ++ post) (ho : pre.length = o) : ∀ j x, mid[j]? = some x → w.cell? ((⟨g, o, none⟩ : Addr).add j) = some x := by
  intro j x hx
  rw [add_at]
  have hj := (List.getElem?_eq_some_iff.1 hx).1
  simp only [World.cell?, h, Option.isSome_none, Bool.false_eq_true, if_false]
  have : cs[o + j]? = cs.toList[o + j]? := by simp
  rw [this, hcs, List.append_assoc, List.getElem?_append_right (by omega), show o + j - pre.length = j by omega, List.getElem?_append_left hj]
  exact hx
theorem run_isAgg {P : Program} {T : Nat} {b : Bool} (h : (P.underlying T).map aggD = some b) (w : World) : (isAgg T).run P w = .ok b w := by
  cases hu : P.underlying T with
  | none => simp [hu] at h
  | some d =>
    rw [hu] at h
    simp only [Option.map_some, Option.some.injEq] at h
    unfold isAgg
    rw [Sem.run_bind, run_underlying hu w]
    subst h
    cases d <;> rfl
theorem run_loadVar_agg {P : Program} {T : Nat} {i : TypeInfo} {w : World} {ad : Addr} {ds : List Value} (h : (P.underlying T).map aggD = some true) (hi : P.info? T = some i)
    (hl : ds.length = i.size) (hc : ∀ j x, ds[j]? = some x → w.cell? (ad.add j) = some x) : (loadVar T ad).run P w = .ok (.agg ds.toArray) w := by
  have h1 := run_loadCells_list (P := P) w ad ds hc
  rw [hl] at h1
  simp [loadVar, Sem.run_bind, run_isAgg h, sizeOf, typeInfo, hi, h1]
theorem run_loadVar_one {P : Program} {T : Nat} {w : World} {ad : Addr} {v : Value} (h : (P.underlying T).map aggD = some false) (hc : w.cell? ad = some v) :
    (loadVar T ad).run P w = .ok v w := by
  simp [loadVar, Sem.run_bind, run_isAgg h, hc]
theorem run_storeVar {P : Program} {T : Nat} {i : TypeInfo} {w : World} {ad : Addr} {v : Value} (hi : P.info? T = some i) (hl : v.cells.size = i.size) :
    (storeVar T ad v).run P w = (storeCells ad v.cells.toList).run P w := by
  simp [storeVar, sizeOf, typeInfo, hi, hl]

theorem setCell_block {w : World} {g o : Nat} {cs : Array Value} {T : Nat} {fz : Nat × Nat} (h : w.heap[g]? = some (.cells cs T fz)) (v : Value) :
    (w.setCell ⟨g, o, none⟩ v).heap[g]? = some (.cells (cs.setIfInBounds o v) T fz) := by
  simp [World.setCell, Array.getElem?_modify, h]
theorem setCells_block {g : Nat} {T : Nat} {fz : Nat × Nat} : ∀ (vs : List Value) (o : Nat) (w : World) (cs : Array Value), w.heap[g]? = some (.cells cs T fz) → o + vs.length ≤ cs.size →
    (w.setCells g o vs).heap[g]? = some (.cells (cs.toList.take o ++ vs ++ cs.toList.drop (o + vs.length)).toArray T fz) ∧
    (w.setCells g o vs).heap.size = w.heap.size ∧ (∀ b, b ≠ g → (w.setCells g o vs).heap[b]? = w.heap[b]?) ∧
    (w.setCells g o vs).os = w.os ∧ (w.setCells g o vs).tape = w.tape ∧ (w.setCells g o vs).output = w.output
  | [], o, w, cs, h, _ => by
    simp only [World.setCells, List.append_nil, List.length_nil, Nat.add_zero, List.take_append_drop, Array.toArray_toList]
    exact ⟨h, trivial, fun _ _ => trivial, trivial, trivial, trivial⟩
  | v :: r, o, w, cs, h, hl => by
    simp only [List.length_cons] at hl
    obtain ⟨h1, h2, h3, h4, h5, h6⟩ := setCells_block r (o + 1) (w.setCell ⟨g, o, none⟩ v) _ (setCell_block h v) (by simp; omega)
    simp only [World.setCells]
    refine ⟨?_, by rw [h2]; simp [World.setCell], fun b hb => ?_, h4, h5, h6⟩
    · rw [h1]
      have e := list_seg_step cs.toList o v r (by simp; omega)
      simp only [Array.toList_setIfInBounds, List.length_cons]
      rw [e]
    · rw [h3 b hb]
      simp only [World.setCell, Array.getElem?_modify]
      rw [if_neg (fun e => hb e.symm)]

theorem run_storeCells_block {P : Program} {g o : Nat} {w : World} {cs : Array Value} {T : Nat} {fz : Nat × Nat} {vs : List Value} (h : w.heap[g]? = some (.cells cs T fz)) (hz : Thawed fz cs.size)
    (hl : o + vs.length ≤ cs.size) (h1 : ∀ v ∈ vs, v.oneCell' = true) : (storeCells ⟨g, o, none⟩ vs).run P w = .ok () (w.setCells g o vs) := by
  have := run_storeCells_cells (P := P) g o vs 0 w (fun j hj => by simp [World.cell?, h]; omega) (fun j hj => by
    have := hz (o + j) (by omega)
    simp only [World.frozen?, h, Nat.add_zero]
    cases hb : (decide (fz.1 ≤ o + j) && decide (o + j < fz.2)) with
    | false => rfl
    | true => simp at hb; exact absurd hb this) h1
  simpa using this

theorem splitAt3 {cs : List Value} {pre mid post ds : List Value} (h : cs = pre ++ mid ++ post) (hl : mid.length = ds.length) :
    cs.take pre.length ++ ds ++ cs.drop (pre.length + ds.length) = pre ++ ds ++ post := by
  subst h
  rw [List.append_assoc pre mid post, List.take_left, ← List.append_assoc pre mid post, List.drop_left' (by rw [List.length_append, hl])]

section
variable {m : Hd} {w : World}
theorem one_of_CR : ∀ (a : AV) (cs : List Value), CR m w a cs → (a.one = true ∨ (∃ n c, a = .ag n c) ∨ a = .u) → (∀ v ∈ cs, v.oneCell' = true) ∨ ∃ n c, a = .ag n c
  | a, cs, h, ho => by
    rcases ho with ho | ho | rfl
    · left
      cases a <;> simp only [AV.one, Bool.false_eq_true, reduceCtorEq] at ho <;> simp only [CR] at h
      case p => obtain ⟨g, _, rfl⟩ := h; simp [Value.oneCell']
      case pe => obtain ⟨_, g, _, _, rfl⟩ := h; simp [Value.oneCell']
      case pr => obtain ⟨ad, ds, rfl, _⟩ := h; simp [Value.oneCell']
      case sl => obtain ⟨_, ad, cap, _, rfl, _⟩ := h; simp [Value.oneCell']
      case rb => obtain ⟨ad, n, cap, ds, rfl, _⟩ := h; simp [Value.oneCell']
      case rw => obtain ⟨u, _, rfl, h1⟩ := h; simpa using h1
      all_goals subst h; simp [Value.oneCell']
    · exact .inr ho
    · left; simp only [CR] at h; obtain ⟨v, rfl, h1⟩ := h; simpa using h1
end
mutual
theorem CR_one {m : Hd} {w : World} : ∀ (a : AV) (cs : List Value), CR m w a cs → ∀ v ∈ cs, v.oneCell' = true
  | .u, cs, h => by simp only [CR] at h; obtain ⟨v, rfl, h1⟩ := h; simpa using h1
  | .i n, cs, h => by simp only [CR] at h; subst h; simp [Value.oneCell']
  | .w8 x, cs, h => by simp only [CR] at h; subst h; simp [Value.oneCell']
  | .w16 x, cs, h => by simp only [CR] at h; subst h; simp [Value.oneCell']
  | .w32 x, cs, h => by simp only [CR] at h; subst h; simp [Value.oneCell']
  | .w64 x, cs, h => by simp only [CR] at h; subst h; simp [Value.oneCell']
  | .b x, cs, h => by simp only [CR] at h; subst h; simp [Value.oneCell']
  | .kb x, cs, h => by simp only [CR] at h; subst h; simp [Value.oneCell']
  | .s x, cs, h => by simp only [CR] at h; subst h; simp [Value.oneCell']
  | .ag n c, cs, h => by simp only [CR] at h; exact RC_one c cs h.2
  | .tup l, cs, h => by simp [CR] at h
  | .p k g o, cs, h => by simp only [CR] at h; obtain ⟨g, _, rfl⟩ := h; simp [Value.oneCell']
  | .pe k g o e i, cs, h => by simp only [CR] at h; obtain ⟨_, g, _, _, rfl⟩ := h; simp [Value.oneCell']
  | .pr a, cs, h => by simp only [CR] at h; obtain ⟨ad, ds, rfl, _⟩ := h; simp [Value.oneCell']
  | .sl k g o e a n, cs, h => by simp only [CR] at h; obtain ⟨_, ad, cap, _, rfl, _⟩ := h; simp [Value.oneCell']
  | .rb e c, cs, h => by simp only [CR] at h; obtain ⟨ad, n, cap, ds, rfl, _⟩ := h; simp [Value.oneCell']
  | .rw k, cs, h => by simp only [CR] at h; obtain ⟨u, _, rfl, h1⟩ := h; simpa using h1
  | .nl, cs, h => by simp only [CR] at h; subst h; simp [Value.oneCell']
  | .pn, cs, h => by simp only [CR] at h; subst h; simp [Value.oneCell']
theorem RC_one {m : Hd} {w : World} : ∀ (c : AC) (cs : List Value), RC m w c cs → ∀ v ∈ cs, v.oneCell' = true
  | .bt xs, cs, h => by simp only [RC] at h; subst h; intro v hv; obtain ⟨x, _, rfl⟩ := List.mem_map.1 hv; rfl
  | .wh xs, cs, h => by simp only [RC] at h; subst h; intro v hv; obtain ⟨x, _, rfl⟩ := List.mem_map.1 hv; rfl
  | .wd xs, cs, h => by simp only [RC] at h; subst h; intro v hv; obtain ⟨x, _, rfl⟩ := List.mem_map.1 hv; rfl
  | .ww xs, cs, h => by simp only [RC] at h; subst h; intro v hv; obtain ⟨x, _, rfl⟩ := List.mem_map.1 hv; rfl
  | .is xs, cs, h => by simp only [RC] at h; subst h; intro v hv; obtain ⟨x, _, rfl⟩ := List.mem_map.1 hv; rfl
  | .ss xs, cs, h => by simp only [RC] at h; subst h; intro v hv; obtain ⟨x, _, rfl⟩ := List.mem_map.1 hv; rfl
  | .vs l, cs, h => by simp only [RC] at h; exact LR_one l cs h
  | .fn e n f, cs, h => by
    simp only [RC] at h
    obtain ⟨css, h1, rfl, h3⟩ := h
    intro v hv
    obtain ⟨d, hd, hv⟩ := List.mem_flatten.1 hv
    obtain ⟨j, hj⟩ := List.getElem?_of_mem hd
    exact CR_one (f j) d (h3 j d hj).2 v hv
theorem LR_one {m : Hd} {w : World} : ∀ (l : List AV) (cs : List Value), LR m w l cs → ∀ v ∈ cs, v.oneCell' = true
  | [], cs, h => by simp only [LR] at h; subst h; simp
  | a :: l, cs, h => by
    simp only [LR] at h
    obtain ⟨c1, c2, rfl, h2, h3⟩ := h
    intro v hv
    rcases List.mem_append.1 hv with hv | hv
    · exact CR_one a c1 h2 v hv
    · exact LR_one l c2 h3 v hv
end

/-! ## Load -/
theorem Look.run_pure1 {me : Mem} {c : Prop} {v : AV} {e : Eff} (h : (pure1 c v).run me = some e) : e = ⟨c, v, []⟩ := by
  simp only [pure1, Look.run, Option.some.injEq] at h; exact h.symm
theorem Look.run_look {me : Mem} {k : Nat} {f : AB → Look} {e : Eff} (h : (Look.look k f).run me = some e) : ∃ ab, mlook me k = some ab ∧ (f ab).run me = some e := by
  simp only [Look.run] at h
  split at h
  · exact ⟨_, by assumption, h⟩
  · cases h
theorem Look.run_no {me : Mem} {e : Eff} (h : Look.no.run me = some e) : False := by simp [Look.run] at h
theorem Look.run_more {me : Mem} {c : Prop} : ∀ {l : Look} {e : Eff}, (l.more c).run me = some e → ∃ e0, l.run me = some e0 ∧ e = ⟨c ∧ e0.c, e0.v, e0.puts⟩
  | .no, e, h => by simp [Look.more, Look.run] at h
  | .ret e0, e, h => by simp only [Look.more, Look.run, Option.some.injEq] at h; exact ⟨e0, rfl, h.symm⟩
  | .look k f, e, h => by
    simp only [Look.more] at h
    obtain ⟨ab, h1, h2⟩ := Look.run_look h
    obtain ⟨e0, h3, h4⟩ := Look.run_more h2
    exact ⟨e0, by simp [Look.run, h1, h3], h4⟩

theorem bk_cells {m : Hd} {w : World} {me : Mem} {k : Nat} {T : Nat} {segs : List Seg} (hm : MemR m w me) (h : mlook me k = some (.bk T segs)) :
    ∃ g cs fz, m k = some (.pointer (some ⟨g, 0, none⟩)) ∧ w.heap[g]? = some (.cells cs T fz) ∧ Thawed fz cs.size ∧ SegsR m w segs cs.toList := hm.at_ k _ h
theorem row_cells {m : Hd} {w : World} {me : Mem} {k : Nat} {T e : Nat} {c : AC} (hm : MemR m w me) (h : mlook me k = some (.row T e c)) :
    ∃ v n cs, m k = some v ∧ OwnRow w T e v n cs ∧ RC m w c cs := hm.at_ k _ h

section
variable {m : Hd} {w : World}
theorem isE_spec {e : Nat} {c : AC} (h : c.isE e = true) : c.esz = some e ∧ 0 < e := by
  unfold AC.isE at h
  split at h
  · rename_i k hk
    split at h
    · rename_i hb
      have := beq_nat hb
      subst this
      exact ⟨hk, by simp [Nat.blt] at h; omega⟩
    · cases h
  · cases h
theorem get1_sound {c : AC} {cs : List Value} {a : AV} {i : Nat} (h : c.get1 real i = some a) (hr : RC m w c cs) (hi : i < cs.length) :
    ∃ v, cs[i]? = some v ∧ CR m w a [v] ∧ a.one = true := by
  unfold AC.get1 at h
  split at h
  · rename_i he
    split at h
    · rename_i b hb
      split at h
      · rename_i ho
        cases h
        have hl := RC_len he hr
        obtain ⟨d, hd, h1, h2⟩ := RC_get hb he hr (by omega)
        obtain ⟨v, rfl⟩ := List.length_eq_one_iff.1 hd
        exact ⟨v, by simpa using h2 0 v rfl, h1, ho⟩
      · cases h
    · cases h
  · cases h
/-- the cells of a row that is not nil -/
theorem row_open {T e n : Nat} {v : Value} {cs : List Value} (h : OwnRow w T e v n cs) {i : Nat} (hi : i < cs.length) :
    ∃ g cap cur fz rest, v = .slice (some ⟨g, 0, none⟩) n cap ∧ w.heap[g]? = some (.cells cur T fz) ∧ Thawed fz cur.size ∧ n ≤ cap ∧ cap ≤ maxLen ∧ cur.size = cap * e ∧ cur.toList = cs ++ rest := by
  rcases h.2 with ⟨rfl, rfl⟩ | ⟨g, cap, cur, fz, rfl, h1, h2, h3, h4, h5, h6⟩
  · have := h.1; omega
  · exact ⟨g, cap, cur, fz, cur.toList.drop (n * e), rfl, h1, h2, h3, h4, h5, by rw [← h6, List.take_append_drop]⟩
end

/-- what a load comes to: the value that lies at the address -/
theorem load_sound {P : Program} {tt : TT} (ht : TTok P tt) {m : Hd} {w : World} {me : Mem} {kb : Nat} (hb : Base m w me kb) {T : Nat} {x : AV} {vx : Value} {e : Eff}
    (hx : RV m w x vx) (h : (loadEv real tt T x).run me = some e) (hc : e.c) : ∃ v, (Instr.loadAt T vx).run P w = .ok v w ∧ OkE m w me kb e.v e.puts v m w := by
  unfold loadEv at h
  split at h
  · rename_i ti k sz by_ lay ek hl
    have hti := ht.look hl
    obtain ⟨i, z, hi, hsz, _⟩ := hti.i
    have hsz : i.size = sz := hsz
    have hcells : lay.cells = sz := hti.cells
    have hagg : (P.underlying T).map aggD = some lay.isAgg := hti.agg
    split at h
    · -- a pointer to what stays
      rename_i a
      simp only [RV, CR] at hx
      obtain ⟨ad, ds, hv, h1, h2⟩ := hx
      simp only [List.cons.injEq, and_true] at hv
      subst hv
      have hrun : (Instr.loadAt T (.pointer (some ad))).run P w = (loadVar T ad).run P w := rfl
      split at h
      · exact (Look.run_no h).elim
      · -- one cell
        rename_i z' hne
        have he := Look.run_pure1 h
        subst he
        have hlay : (P.underlying T).map aggD = some false := hagg
        by_cases ho : a.one = true
        · obtain ⟨v, rfl⟩ : ∃ v, ds = [v] := by
            have := put_sound (.one .u) a [(1, .vs [a])] ds (by simp [Lay.put, ho]) h1
            rcases this with ⟨h3, _⟩ | rfl
            · exact List.length_eq_one_iff.1 h3
            · simp [AV.one] at ho
          refine ⟨v, ?_, hb.same (RV_of_CR ho h1)⟩
          rw [hrun]
          exact run_loadVar_one hlay (by have := h2.2 0 v rfl; simpa [Addr.add] using this)
        · cases a with
          | u =>
            simp only [CR] at h1
            obtain ⟨v, rfl, _⟩ := h1
            refine ⟨v, ?_, hb.same (by simp [RV])⟩
            rw [hrun]
            exact run_loadVar_one hlay (by have := h2.2 0 v rfl; simpa [Addr.add] using this)
          | ag n c => exact absurd rfl (hne n c)
          | tup l => simp [CR] at h1
          | _ => simp [AV.one] at ho
      · rename_i n z' k' c _
        split at h
        · rename_i hbq
          have he := Look.run_pure1 h
          subst he
          have := beq_nat hbq
          have hlen : ds.length = k' := by simp only [CR] at h1; exact h1.1
          refine ⟨.agg ds.toArray, ?_, hb.same (RV_ag h1)⟩
          rw [hrun]
          exact run_loadVar_agg hagg hi (by simp only [Lay.cells] at hcells; omega) h2.2
        · exact (Look.run_no h).elim
      · rename_i l k' c _
        split at h
        · rename_i hbq
          have he := Look.run_pure1 h
          subst he
          have := beq_nat hbq
          have hlen : ds.length = k' := by simp only [CR] at h1; exact h1.1
          refine ⟨.agg ds.toArray, ?_, hb.same (RV_ag h1)⟩
          rw [hrun]
          exact run_loadVar_agg hagg hi (by simp only [Lay.cells] at hcells; omega) h2.2
        · exact (Look.run_no h).elim
      · exact (Look.run_no h).elim
    · -- a variable
      rename_i k g o
      simp only [RV, CR] at hx
      obtain ⟨gb, h1, hv⟩ := hx
      simp only [List.cons.injEq, and_true] at hv
      subst hv
      have hrun : (Instr.loadAt T (.pointer (some ⟨gb, o, none⟩))).run P w = (loadVar T ⟨gb, o, none⟩).run P w := rfl
      obtain ⟨ab, hab, h⟩ := Look.run_look h
      split at h
      · rename_i T' segs
        obtain ⟨g', cs, fz, h2, h3, h4, h5⟩ := bk_cells hb.mem hab
        rw [h1] at h2; cases h2
        split at h
        · rename_i s hs
          split at h
          · rename_i a r htk
            have he := Look.run_pure1 h
            subst he
            obtain ⟨pre, rest, hcs, hpre, hsr⟩ := segDrop_sound g o segs s cs.toList hs h5
            obtain ⟨ds, rest2, rfl, hcr, hlen, _, hkind⟩ := take_sound lay s a r rest htk hsr
            have hcell := cells_at h3 (pre := pre) (mid := ds) (post := rest2) (by rw [hcs, List.append_assoc]) hpre
            cases lay with
            | one z' =>
              simp only at hkind
              obtain ⟨v, rfl⟩ : ∃ v, ds = [v] := List.length_eq_one_iff.1 hlen
              exact ⟨v, by rw [hrun]; exact run_loadVar_one hagg (by have := hcell 0 v rfl; simpa [Addr.add] using this), hb.same (RV_of_CR hkind hcr)⟩
            | arr n z' =>
              obtain ⟨n', c, rfl⟩ := hkind
              exact ⟨.agg ds.toArray, by rw [hrun]; exact run_loadVar_agg hagg hi (by omega) hcell, hb.same (RV_ag hcr)⟩
            | st l =>
              obtain ⟨n', c, rfl⟩ := hkind
              exact ⟨.agg ds.toArray, by rw [hrun]; exact run_loadVar_agg hagg hi (by omega) hcell, hb.same (RV_ag hcr)⟩
          · exact (Look.run_no h).elim
        · exact (Look.run_no h).elim
      · exact (Look.run_no h).elim
    · -- an element
      rename_i k g o e' i'
      simp only [RV, CR] at hx
      obtain ⟨hv0, gb, h1, hblk, hv⟩ := hx
      simp only [List.cons.injEq, and_true] at hv
      subst hv
      have hrun : (Instr.loadAt T (.pointer (some ⟨gb, o + i' * e', none⟩))).run P w = (loadVar T ⟨gb, o + i' * e', none⟩).run P w := rfl
      split at h
      · rename_i z'
        obtain ⟨ab, hab, h⟩ := Look.run_look h
        split at h
        · rename_i T' segs
          obtain ⟨g', cs, fz, h2, h3, h4, h5⟩ := bk_cells hb.mem hab
          rw [h1] at h2; cases h2
          simp only [blk, Option.some.injEq] at hblk
          subst hblk
          split at h
          · rename_i n c hs
            split at h
            · rename_i a ha
              have he := Look.run_pure1 h
              subst he
              obtain ⟨pre, mid, post, hcs, hpre, hmid, hrc⟩ := segAt_sound g o segs n c cs.toList hs h5
              have hc' : i' < n := hc
              obtain ⟨v, hv, hcr, ho⟩ := get1_sound ha hrc (by omega)
              have hcell := cells_at h3 hcs hpre i' v hv
              rw [add_at] at hcell
              exact ⟨v, by rw [hrun, Nat.mul_one]; exact run_loadVar_one hagg hcell, hb.same (RV_of_CR ho hcr)⟩
            · exact (Look.run_no h).elim
          · exact (Look.run_no h).elim
        · rename_i T' c
          obtain ⟨v0, n, cs, h2, h3, h4⟩ := row_cells hb.mem hab
          rw [h1] at h2; cases h2
          split at h
          · split at h
            · rename_i a ha
              have he := Look.run_pure1 h
              subst he
              have hc' : i' < c.len real := hc
              have hlen : cs.length = c.len real := by
                unfold AC.get1 at ha
                split at ha
                · rename_i he1; have := RC_len he1 h4; omega
                · cases ha
              obtain ⟨v, hv, hcr, ho⟩ := get1_sound ha h4 (by omega)
              obtain ⟨g', cap, cur, fz, rest, rfl, g1, g2, g3, g4, g5, g6⟩ := row_open h3 (i := i') (by omega)
              simp only [blk, Option.some.injEq] at hblk
              subst hblk
              have hcell := cells_at g1 (pre := []) (mid := cs) (post := rest) (by simpa using g6) rfl i' v hv
              rw [add_at] at hcell
              exact ⟨v, by rw [hrun, Nat.mul_one]; exact run_loadVar_one hagg hcell, hb.same (RV_of_CR ho hcr)⟩
            · exact (Look.run_no h).elim
          · exact (Look.run_no h).elim
        · exact (Look.run_no h).elim
      · exact (Look.run_no h).elim
    · exact (Look.run_no h).elim
  · exact (Look.run_no h).elim
end Go.Vc
