/- A part of the proof of given statements: a verified condition generator for the model, and contracts of the program's functions. No condition. -/
import Derived.Test.YtmldccfchnlpgaaPart3
import Derived.Carry
import Derived.OpenShut
import Derived.WideShapes
import Derived.ChangeOld
import Derived.Test.YtmldccfchnlpgaaPart2
import Derived.JoinedOf
import Derived.Test.YtmldccfchnlpgaaRows
import Derived.KernelRfl
set_option linter.unusedVariables false
set_option linter.unusedSimpArgs false
set_option linter.constructorNameAsVariable false
set_option linter.unusedVariables false
set_option linter.unusedSimpArgs false
namespace Go.Vc
open Go Go.RowKit Go.ChangeShapes Go.WideShapes
section
variable {P : Program} {w : World}
/-- a reading of a one-cell type gives such a cell -/
def Elt (P : Program) (w : World) (t : TypeId) {α : Type} (E : α → Value) (q : α → Prop) : Prop :=
  ∀ (H : Type) (enc : TypeId × Value → H) (base : Nat) (sp : Nat → Bool) (held : Bool) (fuel : Nat) (cs : List Value) (x : DataW H × List MemPlace),
    DataW.trod enc P w base sp held fuel t cs = some x → ∃ a, cs = [E a] ∧ q a
theorem u16_arg {a : Int} (h : (Lit.int .u16 a).wf = true) : ∃ x : UInt16, a = (x.toNat : Int) := by
  simp only [Lit.wf, Bool.and_eq_true, decide_eq_true_eq, IntKind.min, IntKind.max] at h
  refine ⟨UInt16.ofNat a.toNat, ?_⟩
  simp [IntKind.signed, IntKind.bits] at h
  rw [UInt16.toNat_ofNat_of_lt' (by simp [UInt16.size]; omega)]
  omega
theorem elt_i64 {t : TypeId} (ht : P.underlying t = some (.int .i64)) : Elt P w t EI (fun n => -9223372036854775808 ≤ n ∧ n ≤ 9223372036854775807) := by
  intro H enc base sp held fuel cs x h
  obtain ⟨n, rfl, _, hw⟩ := DataW.trod_int ht h
  exact ⟨n, rfl, i64_arg hw⟩
theorem elt_bool {t : TypeId} (ht : P.underlying t = some .bool) : Elt P w t Value.bool (fun _ => True) := by
  intro H enc base sp held fuel cs x h
  obtain ⟨n, rfl, _⟩ := DataW.trod_bool ht h
  exact ⟨n, rfl, trivial⟩
theorem elt_str {t : TypeId} (ht : P.underlying t = some .string) : Elt P w t ES (fun s => s.length ≤ 9223372036854775807) := by
  intro H enc base sp held fuel cs x h
  obtain ⟨s, rfl, _, hs⟩ := DataW.trod_string ht h
  refine ⟨s.data.toList, by simp [ES], ?_⟩
  simpa [maxLen] using hs
theorem elt_u8 {t : TypeId} (ht : P.underlying t = some (.int .u8)) : Elt P w t E8 (fun _ => True) := by
  intro H enc base sp held fuel cs x h
  obtain ⟨n, rfl, _, hw⟩ := DataW.trod_int ht h
  obtain ⟨y, hy⟩ := u8_arg hw
  exact ⟨y, by rw [hy], trivial⟩
theorem elt_u16 {t : TypeId} (ht : P.underlying t = some (.int .u16)) : Elt P w t E16 (fun _ => True) := by
  intro H enc base sp held fuel cs x h
  obtain ⟨n, rfl, _, hw⟩ := DataW.trod_int ht h
  obtain ⟨y, hy⟩ := u16_arg hw
  exact ⟨y, by rw [hy], trivial⟩
theorem elt_u32 {t : TypeId} (ht : P.underlying t = some (.int .u32)) : Elt P w t E32 (fun _ => True) := by
  intro H enc base sp held fuel cs x h
  obtain ⟨n, rfl, _, hw⟩ := DataW.trod_int ht h
  obtain ⟨y, hy⟩ := u32_arg hw
  exact ⟨y, by rw [hy], trivial⟩
theorem elt_u64 {t : TypeId} (ht : P.underlying t = some (.int .u64)) : Elt P w t E64 (fun _ => True) := by
  intro H enc base sp held fuel cs x h
  obtain ⟨n, rfl, _, hw⟩ := DataW.trod_int ht h
  obtain ⟨y, hy⟩ := u64_arg hw
  exact ⟨y, by rw [hy], trivial⟩
theorem drop_take_one {α : Type} {l : List α} {a : α} {i : Nat} (h : (l.drop i).take 1 = [a]) : l[i]? = some a := by
  have h1 := congrArg List.head? h
  rw [List.head?_take, if_neg (by decide), List.head?_drop] at h1
  simpa using h1
theorem list_of {α : Type} (E : α → Value) (q : α → Prop) : ∀ cs : List Value, (∀ i, i < cs.length → ∃ x, cs[i]? = some (E x) ∧ q x) → ∃ xs : List α, cs = xs.map E ∧ ∀ x ∈ xs, q x
  | [], _ => ⟨[], rfl, by simp⟩
  | c :: r, h => by
    obtain ⟨x, hx, hq⟩ := h 0 (by simp)
    obtain ⟨xs, hr, hqs⟩ := list_of E q r fun i hi => by
      obtain ⟨x, hx, hq⟩ := h (i + 1) (by simp; omega)
      exact ⟨x, by simpa using hx, hq⟩
    simp only [List.getElem?_cons_zero, Option.some.injEq] at hx
    refine ⟨x :: xs, by simp [hx, hr], fun y hy => ?_⟩
    rcases List.mem_cons.1 hy with rfl | hy
    · exact hq
    · exact hqs y hy
theorem arr_of {α : Type} {E : α → Value} {q : α → Prop} {t e : TypeId} {n : Nat} (ht : P.underlying t = some (.array n e)) (hc : P.cellsOf e = 1) (hn : P.cellsOf t = n) (hE : Elt P w e E q)
    (H : Type) (enc : TypeId × Value → H) (base : Nat) (sp : Nat → Bool) (held : Bool) (fuel : Nat) (cs : List Value) (x : DataW H × List MemPlace)
    (h : DataW.trod enc P w base sp held fuel t cs = some x) : ∃ xs : List α, cs = xs.map E ∧ xs.length = n ∧ ∀ x ∈ xs, q x := by
  obtain ⟨ys, m, rfl, rfl, hl, hyl, hel⟩ := DataW.trod_array ht h
  obtain ⟨xs, rfl, hq⟩ := list_of E q cs fun i hi => by
    have h1 := hel i (by omega)
    rw [List.getElem?_eq_getElem (by omega), hc] at h1
    obtain ⟨a, ha, hq⟩ := hE H enc base sp held m _ _ h1
    exact ⟨a, drop_take_one (by simpa using ha), hq⟩
  exact ⟨xs, rfl, by simpa [hn] using hl, hq⟩
theorem cell_ltO {a : Addr} {v : Value} (h : w.cell? a = some v) : a.block < w.heap.size := by
  unfold World.cell? at h
  split at h
  · rename_i h1; exact (Array.getElem?_eq_some_iff.1 h1).1
  · cases h
theorem stableAtTop {a : Addr} {ds : List Value} (h0 : 0 < ds.length) (h : ∀ j x, ds[j]? = some x → w.cell? (a.add j) = some x) : StableAt mTop w a ds := by
  refine ⟨⟨?_, trivial, .inr fun k v hk => by cases hk⟩, h⟩
  have := cell_ltO (h 0 ds[0] (by simp [h0]))
  rwa [add_block] at this
theorem sl_of {α : Type} {E : α → Value} {q : α → Prop} {t e : TypeId} (ht : P.underlying t = some (.slice e)) (hc : P.cellsOf e = 1) (hE : Elt P w e E q)
    (H : Type) (enc : TypeId × Value → H) (base : Nat) (sp : Nat → Bool) (held : Bool) (fuel : Nat) (cs : List Value) (x : DataW H × List MemPlace)
    (h : DataW.trod enc P w base sp held fuel t cs = some x) :
    ∃ (xs : List α) (ad : Option Addr) (cap : Nat), cs = [.slice ad xs.length cap] ∧ xs.length ≤ cap ∧ xs.length ≤ 9223372036854775807 ∧ (0 < xs.length → ∃ a, ad = some a ∧ StableAt mTop w a (xs.map E)) ∧ ∀ x ∈ xs, q x := by
  rcases DataW.trod_slice ht h with ⟨rfl, _⟩ | ⟨a, len, cap, elems, rest, m, rfl, rfl, rfl, _, hl, hm, hlen, hel, _⟩
  · exact ⟨[], none, 0, rfl, by simp, by simp, by simp, by simp⟩
  · have key : ∀ k, k ≤ len → ∃ xs : List α, xs.length = k ∧ (∀ j x, (xs.map E)[j]? = some x → w.cell? (a.add j) = some x) ∧ ∀ x ∈ xs, q x := by
      intro k
      induction k with
      | zero => exact fun _ => ⟨[], rfl, by simp, by simp⟩
      | succ k ih =>
        intro hk
        obtain ⟨xs, h1, h2, h3⟩ := ih (by omega)
        have h4 := hel k (by omega)
        rw [List.getElem?_eq_getElem (by omega), hc, Nat.mul_one, Option.bind_eq_some_iff] at h4
        obtain ⟨cs', hcs, hy⟩ := h4
        obtain ⟨y, rfl, hq⟩ := hE H enc base sp held m _ _ hy
        have hcell := cell_of_cells?_one hcs
        refine ⟨xs ++ [y], by simp [h1], fun j x hj => ?_, fun x hx => ?_⟩
        · rw [List.map_append, List.getElem?_append] at hj
          split at hj
          · exact h2 j x hj
          · rename_i hlt
            simp only [List.length_map] at hj hlt
            have : j = k := by
              have := (List.getElem?_eq_some_iff.1 hj).1
              simp at this
              omega
            subst this
            simp [h1] at hj
            rw [← hj]; exact hcell
        · rcases List.mem_append.1 hx with hx | hx
          · exact h3 x hx
          · simp at hx; rw [hx]; exact hq
    obtain ⟨xs, h1, h2, h3⟩ := key len (Nat.le_refl _)
    refine ⟨xs, some a, cap, by rw [h1], by omega, by simp [maxLen] at hm; omega, fun h0 => ⟨a, rfl, stableAtTop (by simpa using h0) h2⟩, h3⟩
theorem cells_oneO {v : Value} (h : ∀ cs, v ≠ .agg cs) : v.cells.toList = [v] := by
  unfold Value.cells
  split
  · rename_i cs; exact absurd rfl (h cs)
  · rfl
section
variable {H : Type} {enc : TypeId × Value → H} {base b0 : Nat} {sp : Nat → Bool} {held : Bool} {t e : TypeId} {v : Value} {d : DataW H} {ps : List MemPlace} {r : Reach}
theorem openB (ht : P.underlying t = some .bool) (hval : Value.okWide P w r b0 t v) (hd : DataW.Trod enc P w base sp held t v d ps) : ∃ x, RV mTop w (.b x) v := by
  obtain ⟨n, rfl⟩ := okWide_bool ht hval
  exact ⟨n, by simp [RV, CR]⟩
theorem openI (ht : P.underlying t = some (.int .i64)) (hval : Value.okWide P w r b0 t v) (hd : DataW.Trod enc P w base sp held t v d ps) : ∃ x, RV mTop w (.i x) v ∧ -9223372036854775808 ≤ x ∧ x ≤ 9223372036854775807 := by
  obtain ⟨n, rfl⟩ := okWide_int ht hval
  obtain ⟨fuel, hf⟩ := hd
  rw [cells_oneO (by simp)] at hf
  obtain ⟨a, ha, hq⟩ := elt_i64 ht _ _ _ _ _ _ _ _ hf
  exact ⟨a, by simpa [RV, CR] using ha, hq⟩
theorem openS (ht : P.underlying t = some .string) (hval : Value.okWide P w r b0 t v) (hd : DataW.Trod enc P w base sp held t v d ps) : ∃ x, RV mTop w (.s x) v ∧ x.length ≤ 9223372036854775807 := by
  obtain ⟨n, rfl⟩ := okWide_string ht hval
  obtain ⟨fuel, hf⟩ := hd
  rw [cells_oneO (by simp)] at hf
  obtain ⟨a, ha, hq⟩ := elt_str ht _ _ _ _ _ _ _ _ hf
  exact ⟨a, by simpa [RV, CR] using ha, hq⟩
theorem open8 (ht : P.underlying t = some (.int .u8)) (hval : Value.okWide P w r b0 t v) (hd : DataW.Trod enc P w base sp held t v d ps) : ∃ x, RV mTop w (.w8 x) v := by
  obtain ⟨n, rfl⟩ := okWide_int ht hval
  obtain ⟨fuel, hf⟩ := hd
  rw [cells_oneO (by simp)] at hf
  obtain ⟨a, ha, hq⟩ := elt_u8 ht _ _ _ _ _ _ _ _ hf
  exact ⟨a, by simpa [RV, CR] using ha⟩
theorem open16 (ht : P.underlying t = some (.int .u16)) (hval : Value.okWide P w r b0 t v) (hd : DataW.Trod enc P w base sp held t v d ps) : ∃ x, RV mTop w (.w16 x) v := by
  obtain ⟨n, rfl⟩ := okWide_int ht hval
  obtain ⟨fuel, hf⟩ := hd
  rw [cells_oneO (by simp)] at hf
  obtain ⟨a, ha, hq⟩ := elt_u16 ht _ _ _ _ _ _ _ _ hf
  exact ⟨a, by simpa [RV, CR] using ha⟩
theorem open32 (ht : P.underlying t = some (.int .u32)) (hval : Value.okWide P w r b0 t v) (hd : DataW.Trod enc P w base sp held t v d ps) : ∃ x, RV mTop w (.w32 x) v := by
  obtain ⟨n, rfl⟩ := okWide_int ht hval
  obtain ⟨fuel, hf⟩ := hd
  rw [cells_oneO (by simp)] at hf
  obtain ⟨a, ha, hq⟩ := elt_u32 ht _ _ _ _ _ _ _ _ hf
  exact ⟨a, by simpa [RV, CR] using ha⟩
theorem open64 (ht : P.underlying t = some (.int .u64)) (hval : Value.okWide P w r b0 t v) (hd : DataW.Trod enc P w base sp held t v d ps) : ∃ x, RV mTop w (.w64 x) v := by
  obtain ⟨n, rfl⟩ := okWide_int ht hval
  obtain ⟨fuel, hf⟩ := hd
  rw [cells_oneO (by simp)] at hf
  obtain ⟨a, ha, hq⟩ := elt_u64 ht _ _ _ _ _ _ _ _ hf
  exact ⟨a, by simpa [RV, CR] using ha⟩
theorem openA8 {n : Nat} (ht : P.underlying t = some (.array n e)) (he : P.underlying e = some (.int .u8)) (hc : P.cellsOf e = 1) (hn : P.cellsOf t = n) (hval : Value.okWide P w r b0 t v) (hd : DataW.Trod enc P w base sp held t v d ps) :
    ∃ xs : List UInt8, RV mTop w (.ag n (.bt xs)) v ∧ xs.length = n := by
  obtain ⟨cs, rfl, hcs⟩ : ∃ cs, v = .agg cs ∧ cs.size = P.cellsOf t := by
    simp only [Value.okWide, ht] at hval
    obtain ⟨cs, h1, h2, _⟩ := hval
    exact ⟨cs, h1, h2⟩
  obtain ⟨fuel, hf⟩ := hd
  obtain ⟨xs, h1, h2, hq⟩ := arr_of ht hc hn (elt_u8 he) _ _ _ _ _ _ _ _ hf
  refine ⟨xs, ?_, h2⟩
  simp only [RV]
  have h1 : cs.toList = xs.map E8 := h1
  exact ⟨cs.toList, by simp, by simp [h1, h2], by simpa [RC] using h1⟩
theorem openL8 (ht : P.underlying t = some (.slice e)) (he : P.underlying e = some (.int .u8)) (hc : P.cellsOf e = 1) (hval : Value.okWide P w r b0 t v) (hd : DataW.Trod enc P w base sp held t v d ps) :
    ∃ xs : List UInt8, RV mTop w (.rb 1 (.bt xs)) v ∧ xs.length ≤ 9223372036854775807 := by
  obtain ⟨a, len, cap, rfl⟩ := okWide_slice ht hval
  obtain ⟨fuel, hf⟩ := hd
  rw [cells_oneO (by simp)] at hf
  obtain ⟨xs, ad, cap', h1, h2, h3, h4, hq⟩ := sl_of ht hc (elt_u8 he) _ _ _ _ _ _ _ _ hf
  simp only [List.cons.injEq, and_true, Value.slice.injEq] at h1
  obtain ⟨rfl, rfl, rfl⟩ := h1
  refine ⟨xs, ?_, h3⟩
  simp only [RV, CR]
  exact ⟨_, _, _, xs.map E8, rfl, by simp [RC], by simp, h2, h4⟩
theorem openA16 {n : Nat} (ht : P.underlying t = some (.array n e)) (he : P.underlying e = some (.int .u16)) (hc : P.cellsOf e = 1) (hn : P.cellsOf t = n) (hval : Value.okWide P w r b0 t v) (hd : DataW.Trod enc P w base sp held t v d ps) :
    ∃ xs : List UInt16, RV mTop w (.ag n (.wh xs)) v ∧ xs.length = n := by
  obtain ⟨cs, rfl, hcs⟩ : ∃ cs, v = .agg cs ∧ cs.size = P.cellsOf t := by
    simp only [Value.okWide, ht] at hval
    obtain ⟨cs, h1, h2, _⟩ := hval
    exact ⟨cs, h1, h2⟩
  obtain ⟨fuel, hf⟩ := hd
  obtain ⟨xs, h1, h2, hq⟩ := arr_of ht hc hn (elt_u16 he) _ _ _ _ _ _ _ _ hf
  refine ⟨xs, ?_, h2⟩
  simp only [RV]
  have h1 : cs.toList = xs.map E16 := h1
  exact ⟨cs.toList, by simp, by simp [h1, h2], by simpa [RC] using h1⟩
theorem openL16 (ht : P.underlying t = some (.slice e)) (he : P.underlying e = some (.int .u16)) (hc : P.cellsOf e = 1) (hval : Value.okWide P w r b0 t v) (hd : DataW.Trod enc P w base sp held t v d ps) :
    ∃ xs : List UInt16, RV mTop w (.rb 1 (.wh xs)) v ∧ xs.length ≤ 9223372036854775807 := by
  obtain ⟨a, len, cap, rfl⟩ := okWide_slice ht hval
  obtain ⟨fuel, hf⟩ := hd
  rw [cells_oneO (by simp)] at hf
  obtain ⟨xs, ad, cap', h1, h2, h3, h4, hq⟩ := sl_of ht hc (elt_u16 he) _ _ _ _ _ _ _ _ hf
  simp only [List.cons.injEq, and_true, Value.slice.injEq] at h1
  obtain ⟨rfl, rfl, rfl⟩ := h1
  refine ⟨xs, ?_, h3⟩
  simp only [RV, CR]
  exact ⟨_, _, _, xs.map E16, rfl, by simp [RC], by simp, h2, h4⟩
theorem openA32 {n : Nat} (ht : P.underlying t = some (.array n e)) (he : P.underlying e = some (.int .u32)) (hc : P.cellsOf e = 1) (hn : P.cellsOf t = n) (hval : Value.okWide P w r b0 t v) (hd : DataW.Trod enc P w base sp held t v d ps) :
    ∃ xs : List UInt32, RV mTop w (.ag n (.wd xs)) v ∧ xs.length = n := by
  obtain ⟨cs, rfl, hcs⟩ : ∃ cs, v = .agg cs ∧ cs.size = P.cellsOf t := by
    simp only [Value.okWide, ht] at hval
    obtain ⟨cs, h1, h2, _⟩ := hval
    exact ⟨cs, h1, h2⟩
  obtain ⟨fuel, hf⟩ := hd
  obtain ⟨xs, h1, h2, hq⟩ := arr_of ht hc hn (elt_u32 he) _ _ _ _ _ _ _ _ hf
  refine ⟨xs, ?_, h2⟩
  simp only [RV]
  have h1 : cs.toList = xs.map E32 := h1
  exact ⟨cs.toList, by simp, by simp [h1, h2], by simpa [RC] using h1⟩
theorem openL32 (ht : P.underlying t = some (.slice e)) (he : P.underlying e = some (.int .u32)) (hc : P.cellsOf e = 1) (hval : Value.okWide P w r b0 t v) (hd : DataW.Trod enc P w base sp held t v d ps) :
    ∃ xs : List UInt32, RV mTop w (.rb 1 (.wd xs)) v ∧ xs.length ≤ 9223372036854775807 := by
  obtain ⟨a, len, cap, rfl⟩ := okWide_slice ht hval
  obtain ⟨fuel, hf⟩ := hd
  rw [cells_oneO (by simp)] at hf
  obtain ⟨xs, ad, cap', h1, h2, h3, h4, hq⟩ := sl_of ht hc (elt_u32 he) _ _ _ _ _ _ _ _ hf
  simp only [List.cons.injEq, and_true, Value.slice.injEq] at h1
  obtain ⟨rfl, rfl, rfl⟩ := h1
  refine ⟨xs, ?_, h3⟩
  simp only [RV, CR]
  exact ⟨_, _, _, xs.map E32, rfl, by simp [RC], by simp, h2, h4⟩
theorem openA64 {n : Nat} (ht : P.underlying t = some (.array n e)) (he : P.underlying e = some (.int .u64)) (hc : P.cellsOf e = 1) (hn : P.cellsOf t = n) (hval : Value.okWide P w r b0 t v) (hd : DataW.Trod enc P w base sp held t v d ps) :
    ∃ xs : List UInt64, RV mTop w (.ag n (.ww xs)) v ∧ xs.length = n := by
  obtain ⟨cs, rfl, hcs⟩ : ∃ cs, v = .agg cs ∧ cs.size = P.cellsOf t := by
    simp only [Value.okWide, ht] at hval
    obtain ⟨cs, h1, h2, _⟩ := hval
    exact ⟨cs, h1, h2⟩
  obtain ⟨fuel, hf⟩ := hd
  obtain ⟨xs, h1, h2, hq⟩ := arr_of ht hc hn (elt_u64 he) _ _ _ _ _ _ _ _ hf
  refine ⟨xs, ?_, h2⟩
  simp only [RV]
  have h1 : cs.toList = xs.map E64 := h1
  exact ⟨cs.toList, by simp, by simp [h1, h2], by simpa [RC] using h1⟩
theorem openL64 (ht : P.underlying t = some (.slice e)) (he : P.underlying e = some (.int .u64)) (hc : P.cellsOf e = 1) (hval : Value.okWide P w r b0 t v) (hd : DataW.Trod enc P w base sp held t v d ps) :
    ∃ xs : List UInt64, RV mTop w (.rb 1 (.ww xs)) v ∧ xs.length ≤ 9223372036854775807 := by
  obtain ⟨a, len, cap, rfl⟩ := okWide_slice ht hval
  obtain ⟨fuel, hf⟩ := hd
  rw [cells_oneO (by simp)] at hf
  obtain ⟨xs, ad, cap', h1, h2, h3, h4, hq⟩ := sl_of ht hc (elt_u64 he) _ _ _ _ _ _ _ _ hf
  simp only [List.cons.injEq, and_true, Value.slice.injEq] at h1
  obtain ⟨rfl, rfl, rfl⟩ := h1
  refine ⟨xs, ?_, h3⟩
  simp only [RV, CR]
  exact ⟨_, _, _, xs.map E64, rfl, by simp [RC], by simp, h2, h4⟩
theorem openAI {n : Nat} (ht : P.underlying t = some (.array n e)) (he : P.underlying e = some (.int .i64)) (hc : P.cellsOf e = 1) (hn : P.cellsOf t = n) (hval : Value.okWide P w r b0 t v) (hd : DataW.Trod enc P w base sp held t v d ps) :
    ∃ xs : List Int, RV mTop w (.ag n (.is xs)) v ∧ xs.length = n ∧ ∀ x ∈ xs, -9223372036854775808 ≤ x ∧ x ≤ 9223372036854775807 := by
  obtain ⟨cs, rfl, hcs⟩ : ∃ cs, v = .agg cs ∧ cs.size = P.cellsOf t := by
    simp only [Value.okWide, ht] at hval
    obtain ⟨cs, h1, h2, _⟩ := hval
    exact ⟨cs, h1, h2⟩
  obtain ⟨fuel, hf⟩ := hd
  obtain ⟨xs, h1, h2, hq⟩ := arr_of ht hc hn (elt_i64 he) _ _ _ _ _ _ _ _ hf
  refine ⟨xs, ?_, h2, hq⟩
  simp only [RV]
  have h1 : cs.toList = xs.map EI := h1
  exact ⟨cs.toList, by simp, by simp [h1, h2], by simpa [RC] using h1⟩
theorem openLI (ht : P.underlying t = some (.slice e)) (he : P.underlying e = some (.int .i64)) (hc : P.cellsOf e = 1) (hval : Value.okWide P w r b0 t v) (hd : DataW.Trod enc P w base sp held t v d ps) :
    ∃ xs : List Int, RV mTop w (.rb 1 (.is xs)) v ∧ xs.length ≤ 9223372036854775807 ∧ ∀ x ∈ xs, -9223372036854775808 ≤ x ∧ x ≤ 9223372036854775807 := by
  obtain ⟨a, len, cap, rfl⟩ := okWide_slice ht hval
  obtain ⟨fuel, hf⟩ := hd
  rw [cells_oneO (by simp)] at hf
  obtain ⟨xs, ad, cap', h1, h2, h3, h4, hq⟩ := sl_of ht hc (elt_i64 he) _ _ _ _ _ _ _ _ hf
  simp only [List.cons.injEq, and_true, Value.slice.injEq] at h1
  obtain ⟨rfl, rfl, rfl⟩ := h1
  refine ⟨xs, ?_, h3, hq⟩
  simp only [RV, CR]
  exact ⟨_, _, _, xs.map EI, rfl, by simp [RC], by simp, h2, h4⟩
theorem openAS {n : Nat} (ht : P.underlying t = some (.array n e)) (he : P.underlying e = some (.string)) (hc : P.cellsOf e = 1) (hn : P.cellsOf t = n) (hval : Value.okWide P w r b0 t v) (hd : DataW.Trod enc P w base sp held t v d ps) :
    ∃ xs : List (List UInt8), RV mTop w (.ag n (.ss xs)) v ∧ xs.length = n ∧ ∀ x ∈ xs, x.length ≤ 9223372036854775807 := by
  obtain ⟨cs, rfl, hcs⟩ : ∃ cs, v = .agg cs ∧ cs.size = P.cellsOf t := by
    simp only [Value.okWide, ht] at hval
    obtain ⟨cs, h1, h2, _⟩ := hval
    exact ⟨cs, h1, h2⟩
  obtain ⟨fuel, hf⟩ := hd
  obtain ⟨xs, h1, h2, hq⟩ := arr_of ht hc hn (elt_str he) _ _ _ _ _ _ _ _ hf
  refine ⟨xs, ?_, h2, hq⟩
  simp only [RV]
  have h1 : cs.toList = xs.map ES := h1
  exact ⟨cs.toList, by simp, by simp [h1, h2], by simpa [RC] using h1⟩
theorem openLS (ht : P.underlying t = some (.slice e)) (he : P.underlying e = some (.string)) (hc : P.cellsOf e = 1) (hval : Value.okWide P w r b0 t v) (hd : DataW.Trod enc P w base sp held t v d ps) :
    ∃ xs : List (List UInt8), RV mTop w (.rb 1 (.ss xs)) v ∧ xs.length ≤ 9223372036854775807 ∧ ∀ x ∈ xs, x.length ≤ 9223372036854775807 := by
  obtain ⟨a, len, cap, rfl⟩ := okWide_slice ht hval
  obtain ⟨fuel, hf⟩ := hd
  rw [cells_oneO (by simp)] at hf
  obtain ⟨xs, ad, cap', h1, h2, h3, h4, hq⟩ := sl_of ht hc (elt_str he) _ _ _ _ _ _ _ _ hf
  simp only [List.cons.injEq, and_true, Value.slice.injEq] at h1
  obtain ⟨rfl, rfl, rfl⟩ := h1
  refine ⟨xs, ?_, h3, hq⟩
  simp only [RV, CR]
  exact ⟨_, _, _, xs.map ES, rfl, by simp [RC], by simp, h2, h4⟩
end
theorem rvs_cons {m : Hd} {a : AV} {v : Value} {l : List AV} {vs : List Value} (h : RV m w a v) (hs : RVs m w l vs) : RVs m w (a :: l) (v :: vs) := ⟨v, vs, rfl, h, hs⟩
theorem rvs_nil {m : Hd} : RVs m w [] [] := rfl
/-! ## A law's end -/
theorem trodAll_stays {H : Type} {enc : TypeId × Value → H} {W W' : World} (hl : laidOutB P = true) (hb : Below W.heap.size W W') :
    ∀ {ts : List TypeId} {vs : List Value} {ds : List (DataW H)} {ps : List MemPlace}, (ts.all fun t => P.readableRec t && decide (t < P.types.size)) = true →
      DataW.TrodAll enc P W 0 (fun _ => true) true ts vs ds ps → DataW.TrodAll enc P W' 0 (fun b => decide (b < W.heap.size)) true ts vs ds ps
  | [], [], [], _, _, h => h
  | t :: ts, v :: vs, d :: ds, ps, hr, h => by
    have hlt := h.lt
    obtain ⟨p, q, h1, h2, rfl⟩ := h
    simp only [List.all_cons, Bool.and_eq_true, decide_eq_true_eq] at hr
    exact ⟨p, q, Below.trod hl hr.1.1 hr.1.2 h1 hb fun x hx => hlt x (List.mem_append_left _ hx), trodAll_stays hl hb hr.2 h2, rfl⟩
  | [], [], _ :: _, _, _, h => h.elim
  | [], _ :: _, _, _, _, h => h.elim
  | _ :: _, [], _, _, _, h => h.elim
  | _ :: _, _ :: _, [], _, _, h => h.elim
theorem post_true {H : Type} {enc : TypeId × Value → H} {f : Func} {s : ChangeSpec} {W W' : World} {args : Array Value} {ds gs : List (DataW H)} {before : List MemPlace} {tb : TypeId}
    (hl : laidOutB P = true) (hr : (f.params.toList.all fun t => P.readableRec t && decide (t < P.types.size)) = true) (hrt : f.resultTypes = #[tb]) (hb : P.underlying tb = some .bool) (hsv : s.vars = [])
    (hW : DataW.Whole enc P f.params.toList s.vars false W args.toList ds gs before) (hfn : s.fn H (ds ++ []) = ⟨[.lit (.bool true)], ds, []⟩) (hk : Below W.heap.size W W') :
    s.post enc P f false true false false W args (.bool true) W' := by
  have hW' := hW
  obtain ⟨p, q, hA, hV, rfl, _, _⟩ := hW
  rw [hsv] at hV
  obtain ⟨rfl, rfl⟩ := trodVars_none hV
  refine ⟨ds, [], _, [], p, [], hW', ?_, ?_, ?_, hk.frame _, fun h => by cases h⟩
  · rw [hfn, hrt]
    exact trodAll_mk1 (shut_bool hb _)
  · rw [hfn]
    exact trodAll_stays hl hk hr hA
  · rw [hfn, hsv]
    rfl
/-- a law's walk, from the conditions of its code -/
theorem law_walk2 {x : Cx} {an cu : Anns} (hx : XOK P x) (hmx : P.follows .mixedOrders = true) {f : Nat} {fn : Func} {body : Code} (hf : P.funcs[f]? = some fn) (hbd : fn.body = some body) (hn : fn.ntmps = x.nt) (hdr : drawsOk x.tt x.dr body = true)
    {l : List AV} {vals : List Value} {w : World} (hl : llen l ≤ x.nt) (hv : RVs mTop w l vals) (hvc : vc real x an cu body ⟨zipSl 0 l, [], 64⟩ (retOk real x.tt false fn.results.toList [.val (.b true)])) :
    Calls P f vals.toArray w fun e w' => e = .returned (.bool true) ∧ Below w.heap.size w w' := by
  have hlen := RVs_length hv
  rw [llen_eq] at hl
  let E : Env := ⟨w, [], fun _ => True, none, [], fun _ => False⟩
  have hr : StR E x.nt ⟨zipSl 0 l, [], 64⟩ mTop { tmps := vals.toArray ++ Array.replicate (fn.ntmps - vals.toArray.size) undef, defers := [] } w :=
    ⟨entry_sl hv _, ⟨fun k ab h => (by cases h), fun k k' ab ab' v v' b h => (by cases h), fun b h => h.elim, fun k ab v b h => (by cases h), fun k ab v b h => (by cases h), fun _ _ => trivial⟩, fun k v b hk => (by cases hk), fun k _ => rfl, (by simp; omega), rfl,
      ⟨rfl, rfl, rfl, Nat.le_refl _, rfl, fun _ _ _ => rfl, fun k v b hk => (by cases hk), fun m0 w1 he => (by cases he), fun j v hj => (by cases hj), fun b h => h.elim, fun b h => h.elim⟩⟩
  refine calls_of_wp hf hbd (code_mono (vc_sound hx (fun j v hj => (by cases hj)) (.inl rfl) hmx body _ _ hdr hvc _ _ w hr) ?_)
  intro en a w' hp
  refine ends_sound hx.tt (fun l vs s' m1 w1 k1 k2 k3 => ?_) hp
  cases l with
  | nil => simp [retM] at k2
  | cons b r =>
    cases r with
    | cons c r => simp [retM, AV.nk] at k2
    | nil =>
      simp only [retM, AV.nk, and_true] at k2
      simp only [RVs] at k1
      obtain ⟨v, q, rfl, h1, rfl⟩ := k1
      have := RV_le b (.b true) v k2 (fun h => by cases h) h1
      simp only [RV, CR, List.cons.injEq, and_true] at this
      subst this
      exact ⟨rfl, k3.fr.os, k3.fr.tape, k3.fr.output, k3.fr.size, fun b hb => k3.fr.block b hb (fun h => by cases h)⟩
end
end Go.Vc
set_option linter.unusedVariables false
set_option linter.unusedSimpArgs false
namespace Go.Vc
open Go Go.RowKit Go.ChangeShapes Go.WideShapes
/-! ## What is handed, opened by the shape of its type -/
section
variable (P : Program)
mutual
/-- a type of this shape -/
def ShT : Sh → TypeId → Prop
  | .i, t => P.underlying t = some (.int .i64)
  | .w8, t => P.underlying t = some (.int .u8)
  | .w32, t => P.underlying t = some (.int .u32)
  | .w64, t => P.underlying t = some (.int .u64)
  | .b, t => P.underlying t = some .bool
  | .s, t => P.underlying t = some .string
  | .l8 n, t => ∃ e, P.underlying t = some (.array n e) ∧ P.underlying e = some (.int .u8) ∧ P.cellsOf e = 1 ∧ P.cellsOf t = n
  | .ss, t => ∃ e, P.underlying t = some (.slice e) ∧ P.underlying e = some .string ∧ P.cellsOf e = 1
  | .bs, t => ∃ e, P.underlying t = some (.slice e) ∧ P.underlying e = some (.int .u8) ∧ P.cellsOf e = 1
  | .t l, t => ∃ fs, P.underlying t = some (.struct fs) ∧ P.cellsOf t = Sh.lcells l ∧ ShTs l fs.toList 0
  | .sl sh, t => ∃ e, P.underlying t = some (.slice e) ∧ P.cellsOf e = sh.cells ∧ 0 < sh.cells ∧ ShT sh e
def ShTs : List Sh → List Field → Nat → Prop
  | [], [], _ => True
  | a :: l, f :: fs, o => f.offset = o ∧ P.cellsOf f.type = a.cells ∧ ShT a f.type ∧ ShTs l fs (o + a.cells)
  | _, _, _ => False
end
end
mutual
/-- data of this shape, within a machine's bounds -/
def DF : Sh → D → Prop
  | .i, d => ∃ n, d = .i n ∧ -9223372036854775808 ≤ n ∧ n ≤ 9223372036854775807
  | .w8, d => ∃ x, d = .w8 x
  | .w32, d => ∃ x, d = .w32 x
  | .w64, d => ∃ x, d = .w64 x
  | .b, d => ∃ x, d = .b x
  | .s, d => ∃ x, d = .s x ∧ x.length ≤ 9223372036854775807
  | .l8 n, d => ∃ x, d = .l8 x ∧ x.length = n
  | .ss, d => ∃ x, d = .ss x ∧ x.length ≤ 9223372036854775807 ∧ ∀ y ∈ x, y.length ≤ 9223372036854775807
  | .bs, d => ∃ x, d = .l8 x ∧ x.length ≤ 9223372036854775807
  | .t l, d => ∃ ds, d = .t ds ∧ DFs l ds
  | .sl sh, d => ∃ ds, d = .t ds ∧ ds.length ≤ 9223372036854775807 ∧ ∀ x, x ∈ ds → DF sh x
def DFs : List Sh → List D → Prop
  | [], [] => True
  | a :: l, d :: ds => DF a d ∧ DFs l ds
  | _, _ => False
end
section
variable {P : Program} {w : World}
theorem sl_sh {sh : Sh} {t e : TypeId} (ht : P.underlying t = some (.slice e)) (hc : P.cellsOf e = sh.cells) (h0 : 0 < sh.cells)
    (hE : ∀ (H : Type) (enc : TypeId × Value → H) (base : Nat) (sp : Nat → Bool) (held : Bool) (fuel : Nat) (cs : List Value) (x : DataW H × List MemPlace), DataW.trod enc P w base sp held fuel e cs = some x → ∃ d, DF sh d ∧ DR mTop w sh d cs)
    (H : Type) (enc : TypeId × Value → H) (base : Nat) (sp : Nat → Bool) (held : Bool) (fuel : Nat) (cs : List Value) (x : DataW H × List MemPlace)
    (h : DataW.trod enc P w base sp held fuel t cs = some x) :
    ∃ (ds : List D) (ad : Option Addr) (cap : Nat) (css : List (List Value)), cs = [.slice ad ds.length cap] ∧ ds.length ≤ cap ∧ ds.length ≤ 9223372036854775807 ∧ css.length = ds.length ∧
      (∀ (j : Nat) (x : List Value) (y : D), css[j]? = some x → ds[j]? = some y → x.length = sh.cells ∧ DR mTop w sh y x) ∧ css.flatten.length = ds.length * sh.cells ∧ (0 < ds.length → ∃ a, ad = some a ∧ StableAt mTop w a css.flatten) ∧ ∀ x, x ∈ ds → DF sh x := by
  rcases DataW.trod_slice ht h with ⟨rfl, _⟩ | ⟨a, len, cap, elems, rest, m, rfl, rfl, rfl, _, hl, hm, hlen, hel, _⟩
  · exact ⟨[], none, 0, [], rfl, by simp, by simp, rfl, by simp, by simp, by simp, by simp⟩
  · have key : ∀ k, k ≤ len → ∃ (ds : List D) (css : List (List Value)), ds.length = k ∧ css.length = k ∧ (∀ (j : Nat) (x : List Value), css[j]? = some x → x.length = sh.cells) ∧ (∀ (j : Nat) (x : List Value) (y : D), css[j]? = some x → ds[j]? = some y → DR mTop w sh y x) ∧
        (∀ (j : Nat) x, css.flatten[j]? = some x → w.cell? (a.add j) = some x) ∧ ∀ x, x ∈ ds → DF sh x := by
      intro k
      induction k with
      | zero => exact fun _ => ⟨[], [], rfl, rfl, by simp, by simp, by simp, by simp⟩
      | succ k ih =>
        intro hk
        obtain ⟨ds, css, h1, h2, h3, h4, h5, h6⟩ := ih (by omega)
        have h7 := hel k (by omega)
        rw [List.getElem?_eq_getElem (by omega), hc, Option.bind_eq_some_iff] at h7
        obtain ⟨cs', hcs, hy⟩ := h7
        obtain ⟨d, hd1, hd2⟩ := hE H enc base sp held m _ _ hy
        have hdl := DR_len sh d cs' hd2
        obtain ⟨_, hn, hcell⟩ := World.cells?_some hcs
        have hfl := flat_len h3
        refine ⟨ds ++ [d], css ++ [cs'], by simp [h1], by simp [h2], fun j x hj => ?_, fun j x y hj hj' => ?_, fun j x hj => ?_, fun x hx => ?_⟩
        · rw [List.getElem?_append] at hj
          split at hj
          · exact h3 j x hj
          · have := List.mem_of_getElem? hj
            simp at this; rw [this]; exact hdl
        · rw [List.getElem?_append] at hj hj'
          rw [h2] at hj
          rw [h1] at hj'
          by_cases hlt : j < k
          · rw [if_pos hlt] at hj hj'
            exact h4 j x y hj hj'
          · rw [if_neg hlt] at hj hj'
            have e1 := List.mem_of_getElem? hj
            have e2 := List.mem_of_getElem? hj'
            simp at e1 e2
            rw [e1, e2]; exact hd2
        · rw [List.flatten_append, List.getElem?_append] at hj
          split at hj
          · exact h5 j x hj
          · rename_i hlt
            rw [hfl, h2] at hj hlt
            simp only [List.flatten_cons, List.flatten_nil, List.append_nil] at hj
            have hjl := (List.getElem?_eq_some_iff.1 hj).1
            have := hcell (j - k * sh.cells) (by omega)
            rw [hj, add_add_at, show k * sh.cells + (j - k * sh.cells) = j by omega] at this
            exact this
        · rcases List.mem_append.1 hx with hx | hx
          · exact h6 x hx
          · simp at hx; rw [hx]; exact hd1
    obtain ⟨ds, css, h1, h2, h3, h4, h5, h6⟩ := key len (Nat.le_refl _)
    have hfl := flat_len h3
    refine ⟨ds, some a, cap, css, by rw [h1], by omega, by simp [maxLen] at hm; omega, by omega, fun j x y hx hy => ⟨h3 j x hx, h4 j x y hx hy⟩, by rw [hfl, h2, h1], fun hn => ⟨a, rfl, stableAtTop ?_ h5⟩, h6⟩
    rw [hfl, h2]
    exact Nat.mul_pos (by omega) h0
mutual
theorem elt_sh : ∀ (sh : Sh) (t : TypeId), ShT P sh t → ∀ (H : Type) (enc : TypeId × Value → H) (base : Nat) (sp : Nat → Bool) (held : Bool) (fuel : Nat) (cs : List Value) (x : DataW H × List MemPlace),
    DataW.trod enc P w base sp held fuel t cs = some x → ∃ d, DF sh d ∧ DR mTop w sh d cs
  | .i, t, ht, H, enc, base, sp, held, fuel, cs, x, h => by
    obtain ⟨a, rfl, hq⟩ := elt_i64 (w := w) ht _ _ _ _ _ _ _ _ h
    exact ⟨.i a, ⟨a, rfl, hq⟩, by simp [DR, D.gi]⟩
  | .w8, t, ht, H, enc, base, sp, held, fuel, cs, x, h => by
    obtain ⟨a, rfl, hq⟩ := elt_u8 (w := w) ht _ _ _ _ _ _ _ _ h
    exact ⟨.w8 a, ⟨a, rfl⟩, by simp [DR, D.g8]⟩
  | .w32, t, ht, H, enc, base, sp, held, fuel, cs, x, h => by
    obtain ⟨a, rfl, hq⟩ := elt_u32 (w := w) ht _ _ _ _ _ _ _ _ h
    exact ⟨.w32 a, ⟨a, rfl⟩, by simp [DR, D.g32]⟩
  | .w64, t, ht, H, enc, base, sp, held, fuel, cs, x, h => by
    obtain ⟨a, rfl, hq⟩ := elt_u64 (w := w) ht _ _ _ _ _ _ _ _ h
    exact ⟨.w64 a, ⟨a, rfl⟩, by simp [DR, D.g64]⟩
  | .b, t, ht, H, enc, base, sp, held, fuel, cs, x, h => by
    obtain ⟨a, rfl, hq⟩ := elt_bool (w := w) ht _ _ _ _ _ _ _ _ h
    exact ⟨.b a, ⟨a, rfl⟩, by simp [DR, D.gb]⟩
  | .s, t, ht, H, enc, base, sp, held, fuel, cs, x, h => by
    obtain ⟨a, rfl, hq⟩ := elt_str (w := w) ht _ _ _ _ _ _ _ _ h
    exact ⟨.s a, ⟨a, rfl, hq⟩, by simp [DR, D.gs]⟩
  | .l8 n, t, ht, H, enc, base, sp, held, fuel, cs, x, h => by
    obtain ⟨e, h1, h2, h3, h4⟩ := ht
    obtain ⟨xs, rfl, hl, _⟩ := arr_of (w := w) h1 h3 h4 (elt_u8 h2) _ _ _ _ _ _ _ _ h
    exact ⟨.l8 xs, ⟨xs, rfl, hl⟩, by simp [DR, D.gl8, hl]⟩
  | .ss, t, ht, H, enc, base, sp, held, fuel, cs, x, h => by
    obtain ⟨e, h1, h2, h3⟩ := ht
    obtain ⟨xs, ad, cap, rfl, h4, h5, h6, h7⟩ := sl_of (w := w) h1 h3 (elt_str h2) _ _ _ _ _ _ _ _ h
    exact ⟨.ss xs, ⟨xs, rfl, h5, h7⟩, by simp only [DR, D.gss]; exact ⟨ad, _, cap, _, rfl, rfl, by simp, h4, h6⟩⟩
  | .bs, t, ht, H, enc, base, sp, held, fuel, cs, x, h => by
    obtain ⟨e, h1, h2, h3⟩ := ht
    obtain ⟨xs, ad, cap, rfl, h4, h5, h6, h7⟩ := sl_of (w := w) h1 h3 (elt_u8 h2) _ _ _ _ _ _ _ _ h
    exact ⟨.l8 xs, ⟨xs, rfl, h5⟩, by simp only [DR, D.gl8]; exact ⟨ad, _, cap, _, rfl, rfl, by simp, h4, h6⟩⟩
  | .t l, t, ht, H, enc, base, sp, held, fuel, cs, x, h => by
    obtain ⟨fs, h1, h2, h3⟩ := ht
    obtain ⟨xs, n, rfl, rfl, hl, hlen, hf⟩ := DataW.trod_struct h1 h
    obtain ⟨ds, g1, g2⟩ := elts_sh l fs.toList 0 h3 H enc base sp held n cs (fun i f hi => by
      have hi' : fs[i]? = some f := by simpa using hi
      have := hf i f hi'
      have hif := (Array.getElem?_eq_some_iff.1 hi').1
      exact ⟨xs[i]'(by omega), by rw [this, List.getElem?_eq_getElem (by omega)]⟩)
    refine ⟨.t ds, ⟨ds, rfl, g1⟩, ?_⟩
    have := g2 (.t ds) 0 (fun i => by simp [D.fld, D.gt])
    rw [List.drop_zero, List.take_of_length_le (by omega)] at this
    simpa only [DR] using this
  | .sl sh, t, ht, H, enc, base, sp, held, fuel, cs, x, h => by
    obtain ⟨e, h1, h2, h3, h4⟩ := ht
    obtain ⟨ds, ad, cap, css, rfl, g1, g2, g3, g4, g5, g6, g7⟩ := sl_sh (w := w) h1 h2 h3 (elt_sh sh e h4) _ _ _ _ _ _ _ _ h
    refine ⟨.t ds, ⟨ds, rfl, g2, g7⟩, ?_⟩
    simp only [DR, D.gt]
    exact ⟨ad, _, cap, _, rfl, ⟨css, g3, rfl, g4⟩, g5, g1, g6⟩
theorem elts_sh : ∀ (l : List Sh) (fs : List Field) (o : Nat), ShTs P l fs o → ∀ (H : Type) (enc : TypeId × Value → H) (base : Nat) (sp : Nat → Bool) (held : Bool) (fuel : Nat) (cs : List Value),
    (∀ (i : Nat) (f : Field), fs[i]? = some f → ∃ y, DataW.trod enc P w base sp held fuel f.type ((cs.drop f.offset).take (P.cellsOf f.type)) = some y) →
    ∃ ds, DFs l ds ∧ ∀ (d : D) (j0 : Nat), (∀ i, d.fld (j0 + i) = ds.getD i D.no) → DRs mTop w l d j0 ((cs.drop o).take (Sh.lcells l))
  | [], fs, o, ht, H, enc, base, sp, held, fuel, cs, h => ⟨[], by simp [DFs], fun d j0 _ => by simp [DRs, Sh.lcells]⟩
  | a :: l, fs, o, ht, H, enc, base, sp, held, fuel, cs, h => by
    cases fs with
    | nil => exact (show False from ht).elim
    | cons f fs =>
      obtain ⟨h1, h2, h3, h4⟩ := ht
      obtain ⟨y, hy⟩ := h 0 f rfl
      rw [h1, h2] at hy
      obtain ⟨d, g1, g2⟩ := elt_sh a f.type h3 H enc base sp held fuel _ _ hy
      obtain ⟨ds, k1, k2⟩ := elts_sh l fs (o + a.cells) h4 H enc base sp held fuel cs (fun i f' hi => h (i + 1) f' (by simpa using hi))
      refine ⟨d :: ds, ⟨g1, k1⟩, fun d0 j0 hd => ?_⟩
      simp only [DRs, Sh.lcells]
      refine ⟨(cs.drop o).take a.cells, (cs.drop (o + a.cells)).take (Sh.lcells l), ?_, ?_, ?_⟩
      · rw [List.take_add, List.drop_drop]
      · have := hd 0
        rw [Nat.add_zero] at this
        rw [this]; exact g2
      · refine k2 d0 (j0 + 1) (fun i => ?_)
        have := hd (i + 1)
        rw [show j0 + 1 + i = j0 + (i + 1) by omega, this]
        simp
end
section
variable {H : Type} {enc : TypeId × Value → H} {base b0 : Nat} {sp : Nat → Bool} {held : Bool} {t e : TypeId} {v : Value} {d : DataW H} {ps : List MemPlace} {r : Reach}
/-- a slice of elements of a shape -/
theorem openLD {sh : Sh} (ht : P.underlying t = some (.slice e)) (hc : P.cellsOf e = sh.cells) (h0 : 0 < sh.cells) (hs : ShT P sh e) (hval : Value.okWide P w r b0 t v) (hd : DataW.Trod enc P w base sp held t v d ps) :
    ∃ xs : List D, RV mTop w (.rb sh.cells (.ds sh xs)) v ∧ xs.length ≤ 9223372036854775807 ∧ ∀ x ∈ xs, DF sh x := by
  obtain ⟨a, len, cap, rfl⟩ := okWide_slice ht hval
  obtain ⟨fuel, hf⟩ := hd
  rw [cells_oneO (by simp)] at hf
  obtain ⟨ds, ad, cap', css, h1, h2, h3, h4, h5, h6, h7, h8⟩ := sl_sh (w := w) ht hc h0 (elt_sh sh e hs) _ _ _ _ _ _ _ _ hf
  simp only [List.cons.injEq, and_true, Value.slice.injEq] at h1
  obtain ⟨rfl, rfl, rfl⟩ := h1
  refine ⟨ds, ?_, h3, h8⟩
  simp only [RV, CR]
  exact ⟨_, _, _, css.flatten, rfl, by simp only [RC]; exact ⟨css, h4, rfl, h5⟩, h6, h2, h7⟩
end
end
end Go.Vc
set_option linter.unusedVariables false
namespace Go.Vc
open Go Go.RowKit
/-- the closed facts of a row: what is asked of the whole program is handed in, the rest goes by reckoning -/
theorem joined_of {P : Program} {f : FuncId} {fn : Func} {s : ChangeSpec} {c : OpenClaim} (p1 : laidOutB P = true) (p2 : mapsRowed P = true) (p6 : P.stops = []) (p8 : P.stopKnobs = []) (p24 : P.stopsHeard = true) (p25 : P.mayEnter = true) (p26 : P.liftsFinal = false) (p27 : P.make = some .cut) (c26 : c.lifted = false) (c27 : c.make = .cut) (h0 : (c.wf (OpenSpec.ofChange s)) = true) (h3 : (fn.params.all (P.readableRec ·)) = true) (h4 : (namedTie P c.named s.vars) = true) (h5 : ((c.stops == [])) = true) (h7 : ((c.knobs == [])) = true) (h9 : ((c.inPlace == P.inPlace f)) = true) (h10 : ((c.unfollowed == P.unfollowed f)) = true) (h11 : ((c.recurses == P.recurses f)) = true) (h12 : ((c.named == P.varsNamed f)) = true) (h13 : ((c.maps == (fn.params.toList ++ s.plain.varTypes P).any (P.mapsRec ·))) = true) (h14 : ((c.ifaces == (fn.params.toList ++ s.plain.varTypes P).any (P.ifacesRec ·))) = true) (h15 : ((c.mapsOut == P.mapsAmong fn.resultTypes.toList)) = true) (h16 : ((c.loops == (fn.params.toList ++ s.plain.varTypes P).any (P.loopsFrom ·))) = true) (h17 : ((c.wideKeys == (fn.params.toList ++ s.plain.varTypes P ++ fn.resultTypes.toList).any (P.wideKeysFrom ·))) = true) (h18 : (s.vars.all (P.varReadable ·)) = true) (h19 : (fn.resultTypes.all (fun t => P.readableRec t && decide (t < P.types.size))) = true) (h20 : ((c.ifacesOut == fn.resultTypes.toList.any (P.ifacesRec ·))) = true) (h21 : ((c.loopsOut == fn.resultTypes.toList.any (P.loopsFrom ·))) = true) (h22 : ((c.plainKeys == P.plainKeys)) = true) (h23 : (c.shortTexts.isNone) = true) (h28 : ((c.kinds == (if c.domain.isEmpty then [] else fn.params.toList.map fun t => match P.underlying t with | some (.int k) => some k | _ => none))) = true) (h29 : ((c.pinned == c.pinnedBy)) = true) (h30 : ((c.veiled == (fn.params.toList ++ s.plain.varTypes P ++ fn.resultTypes.toList).any (P.veiledRec ·))) = true) (h31 : (c.veiledFits P fn.params.toList (fn.params.toList ++ s.plain.varTypes P ++ fn.resultTypes.toList)) = true) : joinedFacts P f fn s c = true := by
  unfold joinedFacts
  exact Bool.and_eq_true_iff.2 ⟨Bool.and_eq_true_iff.2 ⟨Bool.and_eq_true_iff.2 ⟨Bool.and_eq_true_iff.2 ⟨Bool.and_eq_true_iff.2 ⟨Bool.and_eq_true_iff.2 ⟨Bool.and_eq_true_iff.2 ⟨Bool.and_eq_true_iff.2 ⟨Bool.and_eq_true_iff.2 ⟨Bool.and_eq_true_iff.2 ⟨Bool.and_eq_true_iff.2 ⟨Bool.and_eq_true_iff.2 ⟨Bool.and_eq_true_iff.2 ⟨Bool.and_eq_true_iff.2 ⟨Bool.and_eq_true_iff.2 ⟨Bool.and_eq_true_iff.2 ⟨Bool.and_eq_true_iff.2 ⟨Bool.and_eq_true_iff.2 ⟨Bool.and_eq_true_iff.2 ⟨Bool.and_eq_true_iff.2 ⟨Bool.and_eq_true_iff.2 ⟨Bool.and_eq_true_iff.2 ⟨Bool.and_eq_true_iff.2 ⟨Bool.and_eq_true_iff.2 ⟨Bool.and_eq_true_iff.2 ⟨Bool.and_eq_true_iff.2 ⟨Bool.and_eq_true_iff.2 ⟨Bool.and_eq_true_iff.2 ⟨Bool.and_eq_true_iff.2 ⟨Bool.and_eq_true_iff.2 ⟨Bool.and_eq_true_iff.2 ⟨h0, p1⟩, p2⟩, h3⟩, h4⟩, h5⟩, (by rw [p6]; rfl)⟩, h7⟩, (by rw [p8]; rfl)⟩, h9⟩, h10⟩, h11⟩, h12⟩, h13⟩, h14⟩, h15⟩, h16⟩, h17⟩, h18⟩, h19⟩, h20⟩, h21⟩, h22⟩, h23⟩, p24⟩, p25⟩, (by rw [c26, p26]; rfl)⟩, (by rw [c27, p27]; rfl)⟩, h28⟩, h29⟩, h30⟩, h31⟩
end Go.Vc
set_option maxRecDepth 100000
namespace Go.Proofs.Ytmldccfchnlpgaa
open Go
/-- a sign by its number -/
abbrev kc (n : Nat) : Char := Char.ofNat n
theorem io_eq : Try.prog.initOrder = String.ofList [kc 104, kc 97, kc 114, kc 110, kc 101, kc 115, kc 115, kc 32, kc 97, kc 56, kc 50, kc 99, kc 49, kc 50, kc 50, kc 98, kc 48, kc 49, kc 102, kc 102, kc 56, kc 56, kc 99, kc 49, kc 51, kc 100, kc 97, kc 56, kc 53, kc 55, kc 54, kc 100, kc 56, kc 54, kc 52, kc 48, kc 102, kc 97, kc 48, kc 100, kc 54, kc 52, kc 57, kc 54, kc 50, kc 100, kc 54, kc 48, kc 48, kc 54, kc 98, kc 55, kc 101, kc 97, kc 53, kc 99, kc 98, kc 50, kc 97, kc 100, kc 98, kc 50, kc 49, kc 49, kc 56, kc 97, kc 48, kc 48, kc 48, kc 99, kc 48, kc 48, kc 32, kc 99, kc 117, kc 116, kc 32, kc 97, kc 116, kc 32, kc 115, kc 97, kc 99, kc 114, kc 105, kc 115, kc 116, kc 121, kc 47, kc 115, kc 97, kc 99, kc 114, kc 105, kc 115, kc 116, kc 121, kc 108, kc 97, kc 119, kc 52, kc 46, kc 83, kc 116, kc 114, kc 101, kc 97, kc 109, kc 84, kc 101, kc 108, kc 108, kc 115, kc 32, kc 115, kc 97, kc 99, kc 114, kc 105, kc 115, kc 116, kc 121, kc 47, kc 115, kc 97, kc 99, kc 114, kc 105, kc 115, kc 116, kc 121, kc 108, kc 97, kc 119, kc 50, kc 46, kc 83, kc 104, kc 97, kc 84, kc 101, kc 108, kc 108, kc 115, kc 32, kc 115, kc 97, kc 99, kc 114, kc 105, kc 115, kc 116, kc 121, kc 47, kc 115, kc 97, kc 99, kc 114, kc 105, kc 115, kc 116, kc 121, kc 108, kc 97, kc 119, kc 50, kc 46, kc 83, kc 104, kc 97, kc 72, kc 101, kc 120, kc 32, kc 115, kc 97, kc 99, kc 114, kc 105, kc 115, kc 116, kc 121, kc 47, kc 115, kc 97, kc 99, kc 114, kc 105, kc 115, kc 116, kc 121, kc 108, kc 97, kc 119, kc 50, kc 46, kc 83, kc 104, kc 97, kc 67, kc 104, kc 97, kc 105, kc 110, kc 115, kc 32, kc 115, kc 97, kc 99, kc 114, kc 105, kc 115, kc 116, kc 121, kc 47, kc 115, kc 97, kc 99, kc 114, kc 105, kc 115, kc 116, kc 121, kc 108, kc 97, kc 119, kc 50, kc 46, kc 83, kc 104, kc 97, kc 83, kc 105, kc 122, kc 101, kc 115, kc 32, kc 115, kc 97, kc 99, kc 114, kc 105, kc 115, kc 116, kc 121, kc 47, kc 115, kc 97, kc 99, kc 114, kc 105, kc 115, kc 116, kc 121, kc 108, kc 97, kc 119, kc 50, kc 46, kc 83, kc 104, kc 97, kc 80, kc 105, kc 101, kc 99, kc 101, kc 115, kc 32, kc 115, kc 97, kc 99, kc 114, kc 105, kc 115, kc 116, kc 121, kc 47, kc 115, kc 97, kc 99, kc 114, kc 105, kc 115, kc 116, kc 121, kc 108, kc 97, kc 119, kc 56, kc 46, kc 78, kc 111, kc 100, kc 101, kc 66, kc 111, kc 117, kc 110, kc 100, kc 115, kc 32, kc 115, kc 97, kc 99, kc 114, kc 105, kc 115, kc 116, kc 121, kc 47, kc 115, kc 97, kc 99, kc 114, kc 105, kc 115, kc 116, kc 121, kc 108, kc 97, kc 119, kc 56, kc 46, kc 78, kc 111, kc 100, kc 101, kc 70, kc 117, kc 108, kc 108, kc 32, kc 115, kc 97, kc 99, kc 114, kc 105, kc 115, kc 116, kc 121, kc 47, kc 115, kc 97, kc 99, kc 114, kc 105, kc 115, kc 116, kc 121, kc 108, kc 97, kc 119, kc 56, kc 46, kc 78, kc 111, kc 100, kc 101, kc 75, kc 105, kc 100, kc 115, kc 32, kc 115, kc 97, kc 99, kc 114, kc 105, kc 115, kc 116, kc 121, kc 47, kc 115, kc 97, kc 99, kc 114, kc 105, kc 115, kc 116, kc 121, kc 108, kc 97, kc 119, kc 56, kc 46, kc 78, kc 111, kc 100, kc 101, kc 82, kc 101, kc 97, kc 100, kc 115, kc 32, kc 115, kc 97, kc 99, kc 114, kc 105, kc 115, kc 116, kc 121, kc 47, kc 115, kc 97, kc 99, kc 114, kc 105, kc 115, kc 116, kc 121, kc 108, kc 97, kc 119, kc 56, kc 46, kc 78, kc 111, kc 100, kc 101, kc 66, kc 97, kc 99, kc 107, kc 32, kc 115, kc 97, kc 99, kc 114, kc 105, kc 115, kc 116, kc 121, kc 47, kc 115, kc 97, kc 99, kc 114, kc 105, kc 115, kc 116, kc 121, kc 108, kc 97, kc 119, kc 51, kc 46, kc 77, kc 97, kc 99, kc 76, kc 111, kc 110, kc 103, kc 32, kc 115, kc 97, kc 99, kc 114, kc 105, kc 115, kc 116, kc 121, kc 47, kc 115, kc 97, kc 99, kc 114, kc 105, kc 115, kc 116, kc 121, kc 108, kc 97, kc 119, kc 51, kc 46, kc 77, kc 97, kc 99, kc 66, kc 101, kc 103, kc 105, kc 110, kc 115, kc 32, kc 115, kc 97, kc 99, kc 114, kc 105, kc 115, kc 116, kc 121, kc 47, kc 115, kc 97, kc 99, kc 114, kc 105, kc 115, kc 116, kc 121, kc 108, kc 97, kc 119, kc 51, kc 46, kc 77, kc 97, kc 99, kc 65, kc 112, kc 97, kc 114, kc 116, kc 32, kc 115, kc 97, kc 99, kc 114, kc 105, kc 115, kc 116, kc 121, kc 47, kc 115, kc 97, kc 99, kc 114, kc 105, kc 115, kc 116, kc 121, kc 108, kc 97, kc 119, kc 51, kc 46, kc 77, kc 97, kc 99, kc 82, kc 111, kc 119, kc 115, kc 32, kc 115, kc 97, kc 99, kc 114, kc 105, kc 115, kc 116, kc 121, kc 47, kc 115, kc 97, kc 99, kc 114, kc 105, kc 115, kc 116, kc 121, kc 108, kc 97, kc 119, kc 51, kc 46, kc 77, kc 97, kc 99, kc 69, kc 113, kc 117, kc 97, kc 108, kc 32, kc 115, kc 97, kc 99, kc 114, kc 105, kc 115, kc 116, kc 121, kc 47, kc 115, kc 97, kc 99, kc 114, kc 105, kc 115, kc 116, kc 121, kc 108, kc 97, kc 119, kc 51, kc 46, kc 77, kc 97, kc 99, kc 84, kc 101, kc 108, kc 108, kc 115, kc 32, kc 115, kc 97, kc 99, kc 114, kc 105, kc 115, kc 116, kc 121, kc 47, kc 115, kc 97, kc 99, kc 114, kc 105, kc 115, kc 116, kc 121, kc 108, kc 97, kc 119, kc 53, kc 46, kc 83, kc 101, kc 97, kc 108, kc 84, kc 101, kc 108, kc 108, kc 115, kc 32, kc 115, kc 97, kc 99, kc 114, kc 105, kc 115, kc 116, kc 121, kc 47, kc 115, kc 97, kc 99, kc 114, kc 105, kc 115, kc 116, kc 121, kc 108, kc 97, kc 119, kc 53, kc 46, kc 83, kc 101, kc 97, kc 108, kc 66, kc 97, kc 99, kc 107, kc 32, kc 115, kc 97, kc 99, kc 114, kc 105, kc 115, kc 116, kc 121, kc 47, kc 115, kc 97, kc 99, kc 114, kc 105, kc 115, kc 116, kc 121, kc 108, kc 97, kc 119, kc 53, kc 46, kc 83, kc 101, kc 97, kc 108, kc 84, kc 97, kc 103, kc 115, kc 32, kc 115, kc 97, kc 99, kc 114, kc 105, kc 115, kc 116, kc 121, kc 47, kc 115, kc 97, kc 99, kc 114, kc 105, kc 115, kc 116, kc 121, kc 108, kc 97, kc 119, kc 53, kc 46, kc 83, kc 101, kc 97, kc 108, kc 87, kc 114, kc 97, kc 112, kc 115, kc 32, kc 115, kc 97, kc 99, kc 114, kc 105, kc 115, kc 116, kc 121, kc 47, kc 115, kc 97, kc 99, kc 114, kc 105, kc 115, kc 116, kc 121, kc 108, kc 97, kc 119, kc 53, kc 46, kc 83, kc 101, kc 97, kc 108, kc 78, kc 111, kc 110, kc 99, kc 101, kc 115, kc 32, kc 115, kc 97, kc 99, kc 114, kc 105, kc 115, kc 116, kc 121, kc 47, kc 115, kc 97, kc 99, kc 114, kc 105, kc 115, kc 116, kc 121, kc 108, kc 97, kc 119, kc 53, kc 46, kc 83, kc 101, kc 97, kc 108, kc 76, kc 101, kc 110, kc 103, kc 116, kc 104, kc 115, kc 32, kc 115, kc 97, kc 99, kc 114, kc 105, kc 115, kc 116, kc 121, kc 47, kc 115, kc 97, kc 99, kc 114, kc 105, kc 115, kc 116, kc 121, kc 108, kc 97, kc 119, kc 50, kc 55, kc 46, kc 73, kc 109, kc 97, kc 103, kc 101, kc 84, kc 101, kc 108, kc 108, kc 115, kc 32, kc 115, kc 97, kc 99, kc 114, kc 105, kc 115, kc 116, kc 121, kc 47, kc 115, kc 97, kc 99, kc 114, kc 105, kc 115, kc 116, kc 121, kc 108, kc 97, kc 119, kc 50, kc 55, kc 46, kc 73, kc 109, kc 97, kc 103, kc 101, kc 87, kc 114, kc 97, kc 112, kc 112, kc 101, kc 100, kc 32, kc 115, kc 97, kc 99, kc 114, kc 105, kc 115, kc 116, kc 121, kc 47, kc 115, kc 97, kc 99, kc 114, kc 105, kc 115, kc 116, kc 121, kc 108, kc 97, kc 119, kc 50, kc 55, kc 46, kc 73, kc 109, kc 97, kc 103, kc 101, kc 80, kc 97, kc 114, kc 116, kc 115, kc 32, kc 115, kc 97, kc 99, kc 114, kc 105, kc 115, kc 116, kc 121, kc 47, kc 115, kc 97, kc 99, kc 114, kc 105, kc 115, kc 116, kc 121, kc 108, kc 97, kc 119, kc 50, kc 55, kc 46, kc 73, kc 109, kc 97, kc 103, kc 101, kc 83, kc 101, kc 99, kc 116, kc 111, kc 114, kc 115, kc 32, kc 115, kc 97, kc 99, kc 114, kc 105, kc 115, kc 116, kc 121, kc 47, kc 115, kc 97, kc 99, kc 114, kc 105, kc 115, kc 116, kc 121, kc 108, kc 97, kc 119, kc 50, kc 55, kc 46, kc 73, kc 109, kc 97, kc 103, kc 101, kc 80, kc 105, kc 101, kc 99, kc 101, kc 115, kc 32, kc 115, kc 97, kc 99, kc 114, kc 105, kc 115, kc 116, kc 121, kc 47, kc 115, kc 97, kc 99, kc 114, kc 105, kc 115, kc 116, kc 121, kc 108, kc 97, kc 119, kc 50, kc 55, kc 46, kc 73, kc 109, kc 97, kc 103, kc 101, kc 70, kc 105, kc 114, kc 115, kc 116] := by kernel_rfl
theorem io_chars : Try.prog.initOrder.toList = [kc 104, kc 97, kc 114, kc 110, kc 101, kc 115, kc 115, kc 32, kc 97, kc 56, kc 50, kc 99, kc 49, kc 50, kc 50, kc 98, kc 48, kc 49, kc 102, kc 102, kc 56, kc 56, kc 99, kc 49, kc 51, kc 100, kc 97, kc 56, kc 53, kc 55, kc 54, kc 100, kc 56, kc 54, kc 52, kc 48, kc 102, kc 97, kc 48, kc 100, kc 54, kc 52, kc 57, kc 54, kc 50, kc 100, kc 54, kc 48, kc 48, kc 54, kc 98, kc 55, kc 101, kc 97, kc 53, kc 99, kc 98, kc 50, kc 97, kc 100, kc 98, kc 50, kc 49, kc 49, kc 56, kc 97, kc 48, kc 48, kc 48, kc 99, kc 48, kc 48, kc 32, kc 99, kc 117, kc 116, kc 32, kc 97, kc 116, kc 32, kc 115, kc 97, kc 99, kc 114, kc 105, kc 115, kc 116, kc 121, kc 47, kc 115, kc 97, kc 99, kc 114, kc 105, kc 115, kc 116, kc 121, kc 108, kc 97, kc 119, kc 52, kc 46, kc 83, kc 116, kc 114, kc 101, kc 97, kc 109, kc 84, kc 101, kc 108, kc 108, kc 115, kc 32, kc 115, kc 97, kc 99, kc 114, kc 105, kc 115, kc 116, kc 121, kc 47, kc 115, kc 97, kc 99, kc 114, kc 105, kc 115, kc 116, kc 121, kc 108, kc 97, kc 119, kc 50, kc 46, kc 83, kc 104, kc 97, kc 84, kc 101, kc 108, kc 108, kc 115, kc 32, kc 115, kc 97, kc 99, kc 114, kc 105, kc 115, kc 116, kc 121, kc 47, kc 115, kc 97, kc 99, kc 114, kc 105, kc 115, kc 116, kc 121, kc 108, kc 97, kc 119, kc 50, kc 46, kc 83, kc 104, kc 97, kc 72, kc 101, kc 120, kc 32, kc 115, kc 97, kc 99, kc 114, kc 105, kc 115, kc 116, kc 121, kc 47, kc 115, kc 97, kc 99, kc 114, kc 105, kc 115, kc 116, kc 121, kc 108, kc 97, kc 119, kc 50, kc 46, kc 83, kc 104, kc 97, kc 67, kc 104, kc 97, kc 105, kc 110, kc 115, kc 32, kc 115, kc 97, kc 99, kc 114, kc 105, kc 115, kc 116, kc 121, kc 47, kc 115, kc 97, kc 99, kc 114, kc 105, kc 115, kc 116, kc 121, kc 108, kc 97, kc 119, kc 50, kc 46, kc 83, kc 104, kc 97, kc 83, kc 105, kc 122, kc 101, kc 115, kc 32, kc 115, kc 97, kc 99, kc 114, kc 105, kc 115, kc 116, kc 121, kc 47, kc 115, kc 97, kc 99, kc 114, kc 105, kc 115, kc 116, kc 121, kc 108, kc 97, kc 119, kc 50, kc 46, kc 83, kc 104, kc 97, kc 80, kc 105, kc 101, kc 99, kc 101, kc 115, kc 32, kc 115, kc 97, kc 99, kc 114, kc 105, kc 115, kc 116, kc 121, kc 47, kc 115, kc 97, kc 99, kc 114, kc 105, kc 115, kc 116, kc 121, kc 108, kc 97, kc 119, kc 56, kc 46, kc 78, kc 111, kc 100, kc 101, kc 66, kc 111, kc 117, kc 110, kc 100, kc 115, kc 32, kc 115, kc 97, kc 99, kc 114, kc 105, kc 115, kc 116, kc 121, kc 47, kc 115, kc 97, kc 99, kc 114, kc 105, kc 115, kc 116, kc 121, kc 108, kc 97, kc 119, kc 56, kc 46, kc 78, kc 111, kc 100, kc 101, kc 70, kc 117, kc 108, kc 108, kc 32, kc 115, kc 97, kc 99, kc 114, kc 105, kc 115, kc 116, kc 121, kc 47, kc 115, kc 97, kc 99, kc 114, kc 105, kc 115, kc 116, kc 121, kc 108, kc 97, kc 119, kc 56, kc 46, kc 78, kc 111, kc 100, kc 101, kc 75, kc 105, kc 100, kc 115, kc 32, kc 115, kc 97, kc 99, kc 114, kc 105, kc 115, kc 116, kc 121, kc 47, kc 115, kc 97, kc 99, kc 114, kc 105, kc 115, kc 116, kc 121, kc 108, kc 97, kc 119, kc 56, kc 46, kc 78, kc 111, kc 100, kc 101, kc 82, kc 101, kc 97, kc 100, kc 115, kc 32, kc 115, kc 97, kc 99, kc 114, kc 105, kc 115, kc 116, kc 121, kc 47, kc 115, kc 97, kc 99, kc 114, kc 105, kc 115, kc 116, kc 121, kc 108, kc 97, kc 119, kc 56, kc 46, kc 78, kc 111, kc 100, kc 101, kc 66, kc 97, kc 99, kc 107, kc 32, kc 115, kc 97, kc 99, kc 114, kc 105, kc 115, kc 116, kc 121, kc 47, kc 115, kc 97, kc 99, kc 114, kc 105, kc 115, kc 116, kc 121, kc 108, kc 97, kc 119, kc 51, kc 46, kc 77, kc 97, kc 99, kc 76, kc 111, kc 110, kc 103, kc 32, kc 115, kc 97, kc 99, kc 114, kc 105, kc 115, kc 116, kc 121, kc 47, kc 115, kc 97, kc 99, kc 114, kc 105, kc 115, kc 116, kc 121, kc 108, kc 97, kc 119, kc 51, kc 46, kc 77, kc 97, kc 99, kc 66, kc 101, kc 103, kc 105, kc 110, kc 115, kc 32, kc 115, kc 97, kc 99, kc 114, kc 105, kc 115, kc 116, kc 121, kc 47, kc 115, kc 97, kc 99, kc 114, kc 105, kc 115, kc 116, kc 121, kc 108, kc 97, kc 119, kc 51, kc 46, kc 77, kc 97, kc 99, kc 65, kc 112, kc 97, kc 114, kc 116, kc 32, kc 115, kc 97, kc 99, kc 114, kc 105, kc 115, kc 116, kc 121, kc 47, kc 115, kc 97, kc 99, kc 114, kc 105, kc 115, kc 116, kc 121, kc 108, kc 97, kc 119, kc 51, kc 46, kc 77, kc 97, kc 99, kc 82, kc 111, kc 119, kc 115, kc 32, kc 115, kc 97, kc 99, kc 114, kc 105, kc 115, kc 116, kc 121, kc 47, kc 115, kc 97, kc 99, kc 114, kc 105, kc 115, kc 116, kc 121, kc 108, kc 97, kc 119, kc 51, kc 46, kc 77, kc 97, kc 99, kc 69, kc 113, kc 117, kc 97, kc 108, kc 32, kc 115, kc 97, kc 99, kc 114, kc 105, kc 115, kc 116, kc 121, kc 47, kc 115, kc 97, kc 99, kc 114, kc 105, kc 115, kc 116, kc 121, kc 108, kc 97, kc 119, kc 51, kc 46, kc 77, kc 97, kc 99, kc 84, kc 101, kc 108, kc 108, kc 115, kc 32, kc 115, kc 97, kc 99, kc 114, kc 105, kc 115, kc 116, kc 121, kc 47, kc 115, kc 97, kc 99, kc 114, kc 105, kc 115, kc 116, kc 121, kc 108, kc 97, kc 119, kc 53, kc 46, kc 83, kc 101, kc 97, kc 108, kc 84, kc 101, kc 108, kc 108, kc 115, kc 32, kc 115, kc 97, kc 99, kc 114, kc 105, kc 115, kc 116, kc 121, kc 47, kc 115, kc 97, kc 99, kc 114, kc 105, kc 115, kc 116, kc 121, kc 108, kc 97, kc 119, kc 53, kc 46, kc 83, kc 101, kc 97, kc 108, kc 66, kc 97, kc 99, kc 107, kc 32, kc 115, kc 97, kc 99, kc 114, kc 105, kc 115, kc 116, kc 121, kc 47, kc 115, kc 97, kc 99, kc 114, kc 105, kc 115, kc 116, kc 121, kc 108, kc 97, kc 119, kc 53, kc 46, kc 83, kc 101, kc 97, kc 108, kc 84, kc 97, kc 103, kc 115, kc 32, kc 115, kc 97, kc 99, kc 114, kc 105, kc 115, kc 116, kc 121, kc 47, kc 115, kc 97, kc 99, kc 114, kc 105, kc 115, kc 116, kc 121, kc 108, kc 97, kc 119, kc 53, kc 46, kc 83, kc 101, kc 97, kc 108, kc 87, kc 114, kc 97, kc 112, kc 115, kc 32, kc 115, kc 97, kc 99, kc 114, kc 105, kc 115, kc 116, kc 121, kc 47, kc 115, kc 97, kc 99, kc 114, kc 105, kc 115, kc 116, kc 121, kc 108, kc 97, kc 119, kc 53, kc 46, kc 83, kc 101, kc 97, kc 108, kc 78, kc 111, kc 110, kc 99, kc 101, kc 115, kc 32, kc 115, kc 97, kc 99, kc 114, kc 105, kc 115, kc 116, kc 121, kc 47, kc 115, kc 97, kc 99, kc 114, kc 105, kc 115, kc 116, kc 121, kc 108, kc 97, kc 119, kc 53, kc 46, kc 83, kc 101, kc 97, kc 108, kc 76, kc 101, kc 110, kc 103, kc 116, kc 104, kc 115, kc 32, kc 115, kc 97, kc 99, kc 114, kc 105, kc 115, kc 116, kc 121, kc 47, kc 115, kc 97, kc 99, kc 114, kc 105, kc 115, kc 116, kc 121, kc 108, kc 97, kc 119, kc 50, kc 55, kc 46, kc 73, kc 109, kc 97, kc 103, kc 101, kc 84, kc 101, kc 108, kc 108, kc 115, kc 32, kc 115, kc 97, kc 99, kc 114, kc 105, kc 115, kc 116, kc 121, kc 47, kc 115, kc 97, kc 99, kc 114, kc 105, kc 115, kc 116, kc 121, kc 108, kc 97, kc 119, kc 50, kc 55, kc 46, kc 73, kc 109, kc 97, kc 103, kc 101, kc 87, kc 114, kc 97, kc 112, kc 112, kc 101, kc 100, kc 32, kc 115, kc 97, kc 99, kc 114, kc 105, kc 115, kc 116, kc 121, kc 47, kc 115, kc 97, kc 99, kc 114, kc 105, kc 115, kc 116, kc 121, kc 108, kc 97, kc 119, kc 50, kc 55, kc 46, kc 73, kc 109, kc 97, kc 103, kc 101, kc 80, kc 97, kc 114, kc 116, kc 115, kc 32, kc 115, kc 97, kc 99, kc 114, kc 105, kc 115, kc 116, kc 121, kc 47, kc 115, kc 97, kc 99, kc 114, kc 105, kc 115, kc 116, kc 121, kc 108, kc 97, kc 119, kc 50, kc 55, kc 46, kc 73, kc 109, kc 97, kc 103, kc 101, kc 83, kc 101, kc 99, kc 116, kc 111, kc 114, kc 115, kc 32, kc 115, kc 97, kc 99, kc 114, kc 105, kc 115, kc 116, kc 121, kc 47, kc 115, kc 97, kc 99, kc 114, kc 105, kc 115, kc 116, kc 121, kc 108, kc 97, kc 119, kc 50, kc 55, kc 46, kc 73, kc 109, kc 97, kc 103, kc 101, kc 80, kc 105, kc 101, kc 99, kc 101, kc 115, kc 32, kc 115, kc 97, kc 99, kc 114, kc 105, kc 115, kc 116, kc 121, kc 47, kc 115, kc 97, kc 99, kc 114, kc 105, kc 115, kc 116, kc 121, kc 108, kc 97, kc 119, kc 50, kc 55, kc 46, kc 73, kc 109, kc 97, kc 103, kc 101, kc 70, kc 105, kc 114, kc 115, kc 116] := by
  rw [io_eq]
  exact String.toList_ofList
theorem ws_word : ∀ (w r : List Char), (w.all fun c => c != kc 32) = true → wordsSigns (w ++ kc 32 :: r) = w :: wordsSigns r
  | [], r, _ => rfl
  | c :: w, r, h => by
    simp only [List.all_cons, Bool.and_eq_true, bne_iff_ne, ne_eq] at h
    have ih := ws_word w r h.2
    rw [List.cons_append, wordsSigns]
    · rw [ih]
    · intro e; exact h.1 e
theorem io_words : ∃ ws, behindMainWord (wordsSigns Try.prog.initOrder.toList) = [kc 99, kc 117, kc 116] :: ws := by
  refine ⟨wordsSigns [kc 97, kc 116, kc 32, kc 115, kc 97, kc 99, kc 114, kc 105, kc 115, kc 116, kc 121, kc 47, kc 115, kc 97, kc 99, kc 114, kc 105, kc 115, kc 116, kc 121, kc 108, kc 97, kc 119, kc 52, kc 46, kc 83, kc 116, kc 114, kc 101, kc 97, kc 109, kc 84, kc 101, kc 108, kc 108, kc 115, kc 32, kc 115, kc 97, kc 99, kc 114, kc 105, kc 115, kc 116, kc 121, kc 47, kc 115, kc 97, kc 99, kc 114, kc 105, kc 115, kc 116, kc 121, kc 108, kc 97, kc 119, kc 50, kc 46, kc 83, kc 104, kc 97, kc 84, kc 101, kc 108, kc 108, kc 115, kc 32, kc 115, kc 97, kc 99, kc 114, kc 105, kc 115, kc 116, kc 121, kc 47, kc 115, kc 97, kc 99, kc 114, kc 105, kc 115, kc 116, kc 121, kc 108, kc 97, kc 119, kc 50, kc 46, kc 83, kc 104, kc 97, kc 72, kc 101, kc 120, kc 32, kc 115, kc 97, kc 99, kc 114, kc 105, kc 115, kc 116, kc 121, kc 47, kc 115, kc 97, kc 99, kc 114, kc 105, kc 115, kc 116, kc 121, kc 108, kc 97, kc 119, kc 50, kc 46, kc 83, kc 104, kc 97, kc 67, kc 104, kc 97, kc 105, kc 110, kc 115, kc 32, kc 115, kc 97, kc 99, kc 114, kc 105, kc 115, kc 116, kc 121, kc 47, kc 115, kc 97, kc 99, kc 114, kc 105, kc 115, kc 116, kc 121, kc 108, kc 97, kc 119, kc 50, kc 46, kc 83, kc 104, kc 97, kc 83, kc 105, kc 122, kc 101, kc 115, kc 32, kc 115, kc 97, kc 99, kc 114, kc 105, kc 115, kc 116, kc 121, kc 47, kc 115, kc 97, kc 99, kc 114, kc 105, kc 115, kc 116, kc 121, kc 108, kc 97, kc 119, kc 50, kc 46, kc 83, kc 104, kc 97, kc 80, kc 105, kc 101, kc 99, kc 101, kc 115, kc 32, kc 115, kc 97, kc 99, kc 114, kc 105, kc 115, kc 116, kc 121, kc 47, kc 115, kc 97, kc 99, kc 114, kc 105, kc 115, kc 116, kc 121, kc 108, kc 97, kc 119, kc 56, kc 46, kc 78, kc 111, kc 100, kc 101, kc 66, kc 111, kc 117, kc 110, kc 100, kc 115, kc 32, kc 115, kc 97, kc 99, kc 114, kc 105, kc 115, kc 116, kc 121, kc 47, kc 115, kc 97, kc 99, kc 114, kc 105, kc 115, kc 116, kc 121, kc 108, kc 97, kc 119, kc 56, kc 46, kc 78, kc 111, kc 100, kc 101, kc 70, kc 117, kc 108, kc 108, kc 32, kc 115, kc 97, kc 99, kc 114, kc 105, kc 115, kc 116, kc 121, kc 47, kc 115, kc 97, kc 99, kc 114, kc 105, kc 115, kc 116, kc 121, kc 108, kc 97, kc 119, kc 56, kc 46, kc 78, kc 111, kc 100, kc 101, kc 75, kc 105, kc 100, kc 115, kc 32, kc 115, kc 97, kc 99, kc 114, kc 105, kc 115, kc 116, kc 121, kc 47, kc 115, kc 97, kc 99, kc 114, kc 105, kc 115, kc 116, kc 121, kc 108, kc 97, kc 119, kc 56, kc 46, kc 78, kc 111, kc 100, kc 101, kc 82, kc 101, kc 97, kc 100, kc 115, kc 32, kc 115, kc 97, kc 99, kc 114, kc 105, kc 115, kc 116, kc 121, kc 47, kc 115, kc 97, kc 99, kc 114, kc 105, kc 115, kc 116, kc 121, kc 108, kc 97, kc 119, kc 56, kc 46, kc 78, kc 111, kc 100, kc 101, kc 66, kc 97, kc 99, kc 107, kc 32, kc 115, kc 97, kc 99, kc 114, kc 105, kc 115, kc 116, kc 121, kc 47, kc 115, kc 97, kc 99, kc 114, kc 105, kc 115, kc 116, kc 121, kc 108, kc 97, kc 119, kc 51, kc 46, kc 77, kc 97, kc 99, kc 76, kc 111, kc 110, kc 103, kc 32, kc 115, kc 97, kc 99, kc 114, kc 105, kc 115, kc 116, kc 121, kc 47, kc 115, kc 97, kc 99, kc 114, kc 105, kc 115, kc 116, kc 121, kc 108, kc 97, kc 119, kc 51, kc 46, kc 77, kc 97, kc 99, kc 66, kc 101, kc 103, kc 105, kc 110, kc 115, kc 32, kc 115, kc 97, kc 99, kc 114, kc 105, kc 115, kc 116, kc 121, kc 47, kc 115, kc 97, kc 99, kc 114, kc 105, kc 115, kc 116, kc 121, kc 108, kc 97, kc 119, kc 51, kc 46, kc 77, kc 97, kc 99, kc 65, kc 112, kc 97, kc 114, kc 116, kc 32, kc 115, kc 97, kc 99, kc 114, kc 105, kc 115, kc 116, kc 121, kc 47, kc 115, kc 97, kc 99, kc 114, kc 105, kc 115, kc 116, kc 121, kc 108, kc 97, kc 119, kc 51, kc 46, kc 77, kc 97, kc 99, kc 82, kc 111, kc 119, kc 115, kc 32, kc 115, kc 97, kc 99, kc 114, kc 105, kc 115, kc 116, kc 121, kc 47, kc 115, kc 97, kc 99, kc 114, kc 105, kc 115, kc 116, kc 121, kc 108, kc 97, kc 119, kc 51, kc 46, kc 77, kc 97, kc 99, kc 69, kc 113, kc 117, kc 97, kc 108, kc 32, kc 115, kc 97, kc 99, kc 114, kc 105, kc 115, kc 116, kc 121, kc 47, kc 115, kc 97, kc 99, kc 114, kc 105, kc 115, kc 116, kc 121, kc 108, kc 97, kc 119, kc 51, kc 46, kc 77, kc 97, kc 99, kc 84, kc 101, kc 108, kc 108, kc 115, kc 32, kc 115, kc 97, kc 99, kc 114, kc 105, kc 115, kc 116, kc 121, kc 47, kc 115, kc 97, kc 99, kc 114, kc 105, kc 115, kc 116, kc 121, kc 108, kc 97, kc 119, kc 53, kc 46, kc 83, kc 101, kc 97, kc 108, kc 84, kc 101, kc 108, kc 108, kc 115, kc 32, kc 115, kc 97, kc 99, kc 114, kc 105, kc 115, kc 116, kc 121, kc 47, kc 115, kc 97, kc 99, kc 114, kc 105, kc 115, kc 116, kc 121, kc 108, kc 97, kc 119, kc 53, kc 46, kc 83, kc 101, kc 97, kc 108, kc 66, kc 97, kc 99, kc 107, kc 32, kc 115, kc 97, kc 99, kc 114, kc 105, kc 115, kc 116, kc 121, kc 47, kc 115, kc 97, kc 99, kc 114, kc 105, kc 115, kc 116, kc 121, kc 108, kc 97, kc 119, kc 53, kc 46, kc 83, kc 101, kc 97, kc 108, kc 84, kc 97, kc 103, kc 115, kc 32, kc 115, kc 97, kc 99, kc 114, kc 105, kc 115, kc 116, kc 121, kc 47, kc 115, kc 97, kc 99, kc 114, kc 105, kc 115, kc 116, kc 121, kc 108, kc 97, kc 119, kc 53, kc 46, kc 83, kc 101, kc 97, kc 108, kc 87, kc 114, kc 97, kc 112, kc 115, kc 32, kc 115, kc 97, kc 99, kc 114, kc 105, kc 115, kc 116, kc 121, kc 47, kc 115, kc 97, kc 99, kc 114, kc 105, kc 115, kc 116, kc 121, kc 108, kc 97, kc 119, kc 53, kc 46, kc 83, kc 101, kc 97, kc 108, kc 78, kc 111, kc 110, kc 99, kc 101, kc 115, kc 32, kc 115, kc 97, kc 99, kc 114, kc 105, kc 115, kc 116, kc 121, kc 47, kc 115, kc 97, kc 99, kc 114, kc 105, kc 115, kc 116, kc 121, kc 108, kc 97, kc 119, kc 53, kc 46, kc 83, kc 101, kc 97, kc 108, kc 76, kc 101, kc 110, kc 103, kc 116, kc 104, kc 115, kc 32, kc 115, kc 97, kc 99, kc 114, kc 105, kc 115, kc 116, kc 121, kc 47, kc 115, kc 97, kc 99, kc 114, kc 105, kc 115, kc 116, kc 121, kc 108, kc 97, kc 119, kc 50, kc 55, kc 46, kc 73, kc 109, kc 97, kc 103, kc 101, kc 84, kc 101, kc 108, kc 108, kc 115, kc 32, kc 115, kc 97, kc 99, kc 114, kc 105, kc 115, kc 116, kc 121, kc 47, kc 115, kc 97, kc 99, kc 114, kc 105, kc 115, kc 116, kc 121, kc 108, kc 97, kc 119, kc 50, kc 55, kc 46, kc 73, kc 109, kc 97, kc 103, kc 101, kc 87, kc 114, kc 97, kc 112, kc 112, kc 101, kc 100, kc 32, kc 115, kc 97, kc 99, kc 114, kc 105, kc 115, kc 116, kc 121, kc 47, kc 115, kc 97, kc 99, kc 114, kc 105, kc 115, kc 116, kc 121, kc 108, kc 97, kc 119, kc 50, kc 55, kc 46, kc 73, kc 109, kc 97, kc 103, kc 101, kc 80, kc 97, kc 114, kc 116, kc 115, kc 32, kc 115, kc 97, kc 99, kc 114, kc 105, kc 115, kc 116, kc 121, kc 47, kc 115, kc 97, kc 99, kc 114, kc 105, kc 115, kc 116, kc 121, kc 108, kc 97, kc 119, kc 50, kc 55, kc 46, kc 73, kc 109, kc 97, kc 103, kc 101, kc 83, kc 101, kc 99, kc 116, kc 111, kc 114, kc 115, kc 32, kc 115, kc 97, kc 99, kc 114, kc 105, kc 115, kc 116, kc 121, kc 47, kc 115, kc 97, kc 99, kc 114, kc 105, kc 115, kc 116, kc 121, kc 108, kc 97, kc 119, kc 50, kc 55, kc 46, kc 73, kc 109, kc 97, kc 103, kc 101, kc 80, kc 105, kc 101, kc 99, kc 101, kc 115, kc 32, kc 115, kc 97, kc 99, kc 114, kc 105, kc 115, kc 116, kc 121, kc 47, kc 115, kc 97, kc 99, kc 114, kc 105, kc 115, kc 116, kc 121, kc 108, kc 97, kc 119, kc 50, kc 55, kc 46, kc 73, kc 109, kc 97, kc 103, kc 101, kc 70, kc 105, kc 114, kc 115, kc 116], ?_⟩
  rw [io_chars]
  show behindMainWord (wordsSigns ([kc 104, kc 97, kc 114, kc 110, kc 101, kc 115, kc 115] ++ kc 32 :: ([kc 97, kc 56, kc 50, kc 99, kc 49, kc 50, kc 50, kc 98, kc 48, kc 49, kc 102, kc 102, kc 56, kc 56, kc 99, kc 49, kc 51, kc 100, kc 97, kc 56, kc 53, kc 55, kc 54, kc 100, kc 56, kc 54, kc 52, kc 48, kc 102, kc 97, kc 48, kc 100, kc 54, kc 52, kc 57, kc 54, kc 50, kc 100, kc 54, kc 48, kc 48, kc 54, kc 98, kc 55, kc 101, kc 97, kc 53, kc 99, kc 98, kc 50, kc 97, kc 100, kc 98, kc 50, kc 49, kc 49, kc 56, kc 97, kc 48, kc 48, kc 48, kc 99, kc 48, kc 48] ++ kc 32 :: ([kc 99, kc 117, kc 116] ++ kc 32 :: [kc 97, kc 116, kc 32, kc 115, kc 97, kc 99, kc 114, kc 105, kc 115, kc 116, kc 121, kc 47, kc 115, kc 97, kc 99, kc 114, kc 105, kc 115, kc 116, kc 121, kc 108, kc 97, kc 119, kc 52, kc 46, kc 83, kc 116, kc 114, kc 101, kc 97, kc 109, kc 84, kc 101, kc 108, kc 108, kc 115, kc 32, kc 115, kc 97, kc 99, kc 114, kc 105, kc 115, kc 116, kc 121, kc 47, kc 115, kc 97, kc 99, kc 114, kc 105, kc 115, kc 116, kc 121, kc 108, kc 97, kc 119, kc 50, kc 46, kc 83, kc 104, kc 97, kc 84, kc 101, kc 108, kc 108, kc 115, kc 32, kc 115, kc 97, kc 99, kc 114, kc 105, kc 115, kc 116, kc 121, kc 47, kc 115, kc 97, kc 99, kc 114, kc 105, kc 115, kc 116, kc 121, kc 108, kc 97, kc 119, kc 50, kc 46, kc 83, kc 104, kc 97, kc 72, kc 101, kc 120, kc 32, kc 115, kc 97, kc 99, kc 114, kc 105, kc 115, kc 116, kc 121, kc 47, kc 115, kc 97, kc 99, kc 114, kc 105, kc 115, kc 116, kc 121, kc 108, kc 97, kc 119, kc 50, kc 46, kc 83, kc 104, kc 97, kc 67, kc 104, kc 97, kc 105, kc 110, kc 115, kc 32, kc 115, kc 97, kc 99, kc 114, kc 105, kc 115, kc 116, kc 121, kc 47, kc 115, kc 97, kc 99, kc 114, kc 105, kc 115, kc 116, kc 121, kc 108, kc 97, kc 119, kc 50, kc 46, kc 83, kc 104, kc 97, kc 83, kc 105, kc 122, kc 101, kc 115, kc 32, kc 115, kc 97, kc 99, kc 114, kc 105, kc 115, kc 116, kc 121, kc 47, kc 115, kc 97, kc 99, kc 114, kc 105, kc 115, kc 116, kc 121, kc 108, kc 97, kc 119, kc 50, kc 46, kc 83, kc 104, kc 97, kc 80, kc 105, kc 101, kc 99, kc 101, kc 115, kc 32, kc 115, kc 97, kc 99, kc 114, kc 105, kc 115, kc 116, kc 121, kc 47, kc 115, kc 97, kc 99, kc 114, kc 105, kc 115, kc 116, kc 121, kc 108, kc 97, kc 119, kc 56, kc 46, kc 78, kc 111, kc 100, kc 101, kc 66, kc 111, kc 117, kc 110, kc 100, kc 115, kc 32, kc 115, kc 97, kc 99, kc 114, kc 105, kc 115, kc 116, kc 121, kc 47, kc 115, kc 97, kc 99, kc 114, kc 105, kc 115, kc 116, kc 121, kc 108, kc 97, kc 119, kc 56, kc 46, kc 78, kc 111, kc 100, kc 101, kc 70, kc 117, kc 108, kc 108, kc 32, kc 115, kc 97, kc 99, kc 114, kc 105, kc 115, kc 116, kc 121, kc 47, kc 115, kc 97, kc 99, kc 114, kc 105, kc 115, kc 116, kc 121, kc 108, kc 97, kc 119, kc 56, kc 46, kc 78, kc 111, kc 100, kc 101, kc 75, kc 105, kc 100, kc 115, kc 32, kc 115, kc 97, kc 99, kc 114, kc 105, kc 115, kc 116, kc 121, kc 47, kc 115, kc 97, kc 99, kc 114, kc 105, kc 115, kc 116, kc 121, kc 108, kc 97, kc 119, kc 56, kc 46, kc 78, kc 111, kc 100, kc 101, kc 82, kc 101, kc 97, kc 100, kc 115, kc 32, kc 115, kc 97, kc 99, kc 114, kc 105, kc 115, kc 116, kc 121, kc 47, kc 115, kc 97, kc 99, kc 114, kc 105, kc 115, kc 116, kc 121, kc 108, kc 97, kc 119, kc 56, kc 46, kc 78, kc 111, kc 100, kc 101, kc 66, kc 97, kc 99, kc 107, kc 32, kc 115, kc 97, kc 99, kc 114, kc 105, kc 115, kc 116, kc 121, kc 47, kc 115, kc 97, kc 99, kc 114, kc 105, kc 115, kc 116, kc 121, kc 108, kc 97, kc 119, kc 51, kc 46, kc 77, kc 97, kc 99, kc 76, kc 111, kc 110, kc 103, kc 32, kc 115, kc 97, kc 99, kc 114, kc 105, kc 115, kc 116, kc 121, kc 47, kc 115, kc 97, kc 99, kc 114, kc 105, kc 115, kc 116, kc 121, kc 108, kc 97, kc 119, kc 51, kc 46, kc 77, kc 97, kc 99, kc 66, kc 101, kc 103, kc 105, kc 110, kc 115, kc 32, kc 115, kc 97, kc 99, kc 114, kc 105, kc 115, kc 116, kc 121, kc 47, kc 115, kc 97, kc 99, kc 114, kc 105, kc 115, kc 116, kc 121, kc 108, kc 97, kc 119, kc 51, kc 46, kc 77, kc 97, kc 99, kc 65, kc 112, kc 97, kc 114, kc 116, kc 32, kc 115, kc 97, kc 99, kc 114, kc 105, kc 115, kc 116, kc 121, kc 47, kc 115, kc 97, kc 99, kc 114, kc 105, kc 115, kc 116, kc 121, kc 108, kc 97, kc 119, kc 51, kc 46, kc 77, kc 97, kc 99, kc 82, kc 111, kc 119, kc 115, kc 32, kc 115, kc 97, kc 99, kc 114, kc 105, kc 115, kc 116, kc 121, kc 47, kc 115, kc 97, kc 99, kc 114, kc 105, kc 115, kc 116, kc 121, kc 108, kc 97, kc 119, kc 51, kc 46, kc 77, kc 97, kc 99, kc 69, kc 113, kc 117, kc 97, kc 108, kc 32, kc 115, kc 97, kc 99, kc 114, kc 105, kc 115, kc 116, kc 121, kc 47, kc 115, kc 97, kc 99, kc 114, kc 105, kc 115, kc 116, kc 121, kc 108, kc 97, kc 119, kc 51, kc 46, kc 77, kc 97, kc 99, kc 84, kc 101, kc 108, kc 108, kc 115, kc 32, kc 115, kc 97, kc 99, kc 114, kc 105, kc 115, kc 116, kc 121, kc 47, kc 115, kc 97, kc 99, kc 114, kc 105, kc 115, kc 116, kc 121, kc 108, kc 97, kc 119, kc 53, kc 46, kc 83, kc 101, kc 97, kc 108, kc 84, kc 101, kc 108, kc 108, kc 115, kc 32, kc 115, kc 97, kc 99, kc 114, kc 105, kc 115, kc 116, kc 121, kc 47, kc 115, kc 97, kc 99, kc 114, kc 105, kc 115, kc 116, kc 121, kc 108, kc 97, kc 119, kc 53, kc 46, kc 83, kc 101, kc 97, kc 108, kc 66, kc 97, kc 99, kc 107, kc 32, kc 115, kc 97, kc 99, kc 114, kc 105, kc 115, kc 116, kc 121, kc 47, kc 115, kc 97, kc 99, kc 114, kc 105, kc 115, kc 116, kc 121, kc 108, kc 97, kc 119, kc 53, kc 46, kc 83, kc 101, kc 97, kc 108, kc 84, kc 97, kc 103, kc 115, kc 32, kc 115, kc 97, kc 99, kc 114, kc 105, kc 115, kc 116, kc 121, kc 47, kc 115, kc 97, kc 99, kc 114, kc 105, kc 115, kc 116, kc 121, kc 108, kc 97, kc 119, kc 53, kc 46, kc 83, kc 101, kc 97, kc 108, kc 87, kc 114, kc 97, kc 112, kc 115, kc 32, kc 115, kc 97, kc 99, kc 114, kc 105, kc 115, kc 116, kc 121, kc 47, kc 115, kc 97, kc 99, kc 114, kc 105, kc 115, kc 116, kc 121, kc 108, kc 97, kc 119, kc 53, kc 46, kc 83, kc 101, kc 97, kc 108, kc 78, kc 111, kc 110, kc 99, kc 101, kc 115, kc 32, kc 115, kc 97, kc 99, kc 114, kc 105, kc 115, kc 116, kc 121, kc 47, kc 115, kc 97, kc 99, kc 114, kc 105, kc 115, kc 116, kc 121, kc 108, kc 97, kc 119, kc 53, kc 46, kc 83, kc 101, kc 97, kc 108, kc 76, kc 101, kc 110, kc 103, kc 116, kc 104, kc 115, kc 32, kc 115, kc 97, kc 99, kc 114, kc 105, kc 115, kc 116, kc 121, kc 47, kc 115, kc 97, kc 99, kc 114, kc 105, kc 115, kc 116, kc 121, kc 108, kc 97, kc 119, kc 50, kc 55, kc 46, kc 73, kc 109, kc 97, kc 103, kc 101, kc 84, kc 101, kc 108, kc 108, kc 115, kc 32, kc 115, kc 97, kc 99, kc 114, kc 105, kc 115, kc 116, kc 121, kc 47, kc 115, kc 97, kc 99, kc 114, kc 105, kc 115, kc 116, kc 121, kc 108, kc 97, kc 119, kc 50, kc 55, kc 46, kc 73, kc 109, kc 97, kc 103, kc 101, kc 87, kc 114, kc 97, kc 112, kc 112, kc 101, kc 100, kc 32, kc 115, kc 97, kc 99, kc 114, kc 105, kc 115, kc 116, kc 121, kc 47, kc 115, kc 97, kc 99, kc 114, kc 105, kc 115, kc 116, kc 121, kc 108, kc 97, kc 119, kc 50, kc 55, kc 46, kc 73, kc 109, kc 97, kc 103, kc 101, kc 80, kc 97, kc 114, kc 116, kc 115, kc 32, kc 115, kc 97, kc 99, kc 114, kc 105, kc 115, kc 116, kc 121, kc 47, kc 115, kc 97, kc 99, kc 114, kc 105, kc 115, kc 116, kc 121, kc 108, kc 97, kc 119, kc 50, kc 55, kc 46, kc 73, kc 109, kc 97, kc 103, kc 101, kc 83, kc 101, kc 99, kc 116, kc 111, kc 114, kc 115, kc 32, kc 115, kc 97, kc 99, kc 114, kc 105, kc 115, kc 116, kc 121, kc 47, kc 115, kc 97, kc 99, kc 114, kc 105, kc 115, kc 116, kc 121, kc 108, kc 97, kc 119, kc 50, kc 55, kc 46, kc 73, kc 109, kc 97, kc 103, kc 101, kc 80, kc 105, kc 101, kc 99, kc 101, kc 115, kc 32, kc 115, kc 97, kc 99, kc 114, kc 105, kc 115, kc 116, kc 121, kc 47, kc 115, kc 97, kc 99, kc 114, kc 105, kc 115, kc 116, kc 121, kc 108, kc 97, kc 119, kc 50, kc 55, kc 46, kc 73, kc 109, kc 97, kc 103, kc 101, kc 70, kc 105, kc 114, kc 115, kc 116])))) = _
  rw [ws_word _ _ (by kernel_rfl), ws_word _ _ (by kernel_rfl), ws_word _ _ (by kernel_rfl)]
  generalize wordsSigns _ = ws
  kernel_rfl
theorem w_gc : ([kc 99, kc 117, kc 116] == "gc".toList) = false := by kernel_rfl
theorem w_spec : ([kc 99, kc 117, kc 116] == "spec".toList) = false := by kernel_rfl
theorem w_cut : ([kc 99, kc 117, kc 116] == "cut".toList) = true := by kernel_rfl
theorem w_carried : ([kc 99, kc 117, kc 116] == "carried".toList) = false := by kernel_rfl
theorem w_some : (some [kc 99, kc 117, kc 116] == some "cut".toList) = true := by kernel_rfl
theorem w_lays : Try.prog.laysLater = false := by kernel_rfl
theorem w_refl : Try.prog.bearsReflect = false := by kernel_rfl
theorem w_door : Try.prog.doorFits [] = true := by kernel_rfl
theorem w_strip (ws : List (List Char)) : stripLifts liftWords ([kc 99, kc 117, kc 116] :: ws) = ([], [kc 99, kc 117, kc 116] :: ws) := by kernel_rfl
theorem may_of {P : Program} {C : List Char} {ws : List (List Char)} (h : behindMainWord (wordsSigns P.initOrder.toList) = C :: ws) (h1 : (some C == some "cut".toList) = true) (hs : stripLifts liftWords (C :: ws) = ([], C :: ws)) (h2 : P.laysLater = false) (h3 : P.bearsReflect = false) (h4 : P.doorFits [] = true) : P.mayEnter = true := by
  unfold Program.mayEnter
  rw [h]
  simp only [hs, List.head?_cons, h1, h2, h3, h4]
  simp
theorem p_mayEnter : Try.prog.mayEnter = true := by
  obtain ⟨ws, h⟩ := io_words
  exact may_of h w_some (w_strip ws) w_lays w_refl w_door
theorem p_lifts : Try.prog.liftsFinal = false := by
  obtain ⟨ws, h⟩ := io_words
  unfold Program.liftsFinal Program.headLifts
  rw [h]
  kernel_rfl
theorem make_of {P : Program} {C : List Char} {ws : List (List Char)} (h : behindMainWord (wordsSigns P.initOrder.toList) = C :: ws) (h1 : (C == "gc".toList) = false) (h2 : (C == "spec".toList) = false) (h3 : (C == "cut".toList) = true) : P.make = some .cut := by
  unfold Program.make
  rw [h]
  simp only [h1, h2, h3]
  simp
theorem p_make : Try.prog.make = some .cut := by
  obtain ⟨ws, h⟩ := io_words
  exact make_of h w_gc w_spec w_cut
theorem p_laidOut : laidOutB Try.prog = true := by kernel_rfl
theorem p_maps : mapsRowed Try.prog = true := by kernel_rfl
theorem p_stops : Try.prog.stops = [] := by kernel_rfl
theorem p_knobs : Try.prog.stopKnobs = [] := by kernel_rfl
theorem p_heard : Try.prog.stopsHeard = true := by kernel_rfl
end Go.Proofs.Ytmldccfchnlpgaa
