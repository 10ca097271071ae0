/- A part of the proof of given statements: a verified condition generator for the model, and contracts of the program's functions. No condition. -/
import Derived.Test.YthjlhookepchgaaPart2
import Derived.Maps.RangeRun
set_option linter.unusedVariables false
set_option linter.unusedSimpArgs false
set_option linter.constructorNameAsVariable false
set_option linter.unusedVariables false
set_option linter.unusedSimpArgs false
set_option maxRecDepth 10000
namespace Go.Vc
open Go Go.RowKit

section
variable {P : Program} {tt : TT} {m : Hd} {w : World} {me : Mem} {kb : Nat}

/-! ## Keys -/
theorem KR_inj {kk : KK} {a b : D} {v u : Value} (h : KR kk a v) (g : KR kk b u) : a = b ↔ v = u := by
  cases kk with
  | i =>
    obtain ⟨n, rfl, rfl⟩ := h
    obtain ⟨n', rfl, rfl⟩ := g
    simp
  | s =>
    obtain ⟨x, rfl, rfl⟩ := h
    obtain ⟨y, rfl, rfl⟩ := g
    simp
  | l8 n =>
    obtain ⟨x, rfl, _, rfl⟩ := h
    obtain ⟨y, rfl, _, rfl⟩ := g
    simp only [D.l8.injEq, Value.agg.injEq, List.toArray_inj]
    constructor
    · rintro rfl; rfl
    · intro h0
      have h : x.map E8 = y.map E8 := by simpa using congrArg Array.toList h0
      refine (List.map_inj_right (fun a b hab => ?_)).1 h
      simp only [Value.int.injEq, true_and] at hab
      exact UInt8.toNat_inj.1 (by omega)
theorem KR_of {kk : KK} {a : AV} {v : Value} {kd : D} (h : keyOfV kk a = some kd) (hv : RV m w a v) : KR kk kd v := by
  cases kk with
  | i =>
    cases a <;> simp only [keyOfV, reduceCtorEq] at h
    cases h
    simp only [RV, CR, List.cons.injEq, and_true] at hv
    exact ⟨_, rfl, hv⟩
  | s =>
    cases a <;> simp only [keyOfV, reduceCtorEq] at h
    cases h
    simp only [RV, CR, List.cons.injEq, and_true] at hv
    exact ⟨_, rfl, hv⟩
  | l8 n =>
    cases a <;> simp only [keyOfV, reduceCtorEq] at h
    rename_i k c
    cases c <;> simp only [keyOfV, reduceCtorEq] at h
    rename_i xs
    split at h
    · rename_i hb
      cases h
      have := beq_nat hb
      subst this
      simp only [RV, RC] at hv
      obtain ⟨cs, rfl, h1, rfl⟩ := hv
      exact ⟨xs, rfl, by simpa using h1, rfl⟩
    · cases h
theorem run_check8 {te : Nat} (hte : P.underlying te = some (.int .u8)) {i : TypeInfo} (hi : P.info? te = some i) (hsz : i.size = 1) (xs : List UInt8) (em : Bool) (n : Nat) : ∀ (l : List Nat), (∀ j ∈ l, j < xs.length) →
    (forIn l () (fun (j : Nat) (_ : Unit) => (do Instr.checkKey em (n + 1) te (← part te (xs.map E8).toArray (j * (← sizeOf te))); pure (ForInStep.yield ()) : Sem (ForInStep Unit)))).run P w = .ok () w
  | [], _ => rfl
  | j :: l, h => by
    have hj := h j (by simp)
    have hagg : (P.underlying te).map aggD = some false := by rw [hte]; rfl
    have hp : (part te (xs.map E8).toArray (j * 1)).run P w = .ok (E8 xs[j]) w := by
      simp [part, run_isAgg hagg, hj]
    have hc : (Instr.checkKey em (n + 1) te (E8 xs[j])).run P w = .ok () w := by
      simp [Instr.checkKey, run_underlying hte]
    rw [List.forIn_cons]
    simp only [Sem.run_bind, sizeOf, typeInfo, run_program, Result.andThen_ok, hi, Sem.run_pure, hsz, hp, hc]
    have ih := run_check8 hte hi hsz xs em n l (fun k hk => h k (by simp [hk]))
    simpa only [sizeOf, typeInfo] using ih
theorem KR_check {kt : Nat} {kk : KK} {kd : D} {v : Value} (hk : KKok P kt kk) (h : KR kk kd v) (em : Bool) : (Instr.checkKey em 10000 kt v).run P w = .ok () w := by
  cases kk with
  | i => obtain ⟨n, rfl, rfl⟩ := h; exact MapKept.run_checkKey (n := 9999) hk (show MapKept.IsKey (.int .i64) (.int .i64 n) from rfl) em
  | s => obtain ⟨x, rfl, rfl⟩ := h; exact MapKept.run_checkKey (n := 9999) hk (show MapKept.IsKey .string (.string ⟨x.toArray⟩) from trivial) em
  | l8 n =>
    obtain ⟨x, rfl, hx, rfl⟩ := h
    obtain ⟨te, i, h1, h2, h3, h4⟩ := hk
    show (Instr.checkKey em (9998 + 1 + 1) kt _).run P w = _
    rw [Instr.checkKey]
    simp only [Sem.run_bind, run_underlying h1, Result.andThen_ok]
    rw [Std.Legacy.Range.forIn_eq_forIn_range']
    simp only [Std.Legacy.Range.size, Nat.sub_zero, Nat.add_one_sub_one, Nat.div_one]
    have hr := run_check8 (P := P) (w := w) h2 h3 h4 x em 9998 (List.range' 0 n) (fun j hj => by rw [List.mem_range'_1] at hj; omega)
    exact congrArg (fun r : Result Unit => r.andThen fun a w' => Sem.run P (pure ()) w') hr
theorem KR_bits {kk : KK} {kd : D} {v : Value} (h : KR kk kd v) : Instr.sameBits 10000 v v = true := by
  cases kk with
  | i => obtain ⟨n, rfl, rfl⟩ := h; simp [Instr.sameBits]
  | s => obtain ⟨x, rfl, rfl⟩ := h; exact MapKept.sameBits_self (d := .string) (k := .string ⟨x.toArray⟩) (show MapKept.IsKey .string (.string ⟨x.toArray⟩) from trivial) _
  | l8 n =>
    obtain ⟨x, rfl, hx, rfl⟩ := h
    show Instr.sameBits (9999 + 1) _ _ = true
    simp only [Instr.sameBits, beq_self_eq_true, Bool.true_and, List.all_eq_true]
    rintro ⟨a, b⟩ hab
    have : a = b := by
      simp only [List.zip, List.mem_iff_getElem?] at hab
      obtain ⟨j, hj⟩ := hab
      rw [List.getElem?_zipWith] at hj
      cases hq : (x.map E8)[j]? with
      | none => simp [hq] at hj
      | some y => simp [hq] at hj; obtain ⟨h1, h2⟩ := hj; rw [← h1, ← h2]
    subst this
    simp only [List.mem_iff_getElem?] at hab
    obtain ⟨j, hj⟩ := hab
    simp only [List.zip, List.getElem?_zipWith] at hj
    cases hq : (x.map E8)[j]? with
    | none => simp [hq] at hj
    | some y =>
      simp [hq] at hj
      rw [List.getElem?_map] at hq
      cases hx2 : x[j]? with
      | none => simp [hx2] at hq
      | some z => simp [hx2] at hq; subst hq; subst hj; simp [Instr.sameBits]
theorem KR_stays {kk : KK} {kd : D} {v : Value} (h : KR kk kd v) : (Instr.keyThatStays v v).run P w = .ok v w := by
  simp [Instr.keyThatStays, KR_bits h]
/-- where a key stands -/
def MD.idx : List (Nat × D × D) → D → Option Nat
  | [], _ => none
  | (_, k', _) :: r, k => if k' = k then some 0 else (MD.idx r k).map (· + 1)
theorem find_now {d : TypeDesc} {kk : KK} {kd : D} {v : Value} (h : KR kk kd v) (hd : (kk = .i ∧ d = .int .i64) ∨ (kk = .s ∧ d = .string)) {vs : Sh} : ∀ (l : List (Nat × D × D)) (es : List MapEntry) (i : Nat), ER m w kk vs l es →
    Instr.findNow d v es i = some ((MD.idx l kd).bind fun j => (es[j]?).map fun e => (i + j, e.val))
  | [], es, i, he => by simp only [ER] at he; subst he; rfl
  | (b, k, x) :: l, es, i, he => by
    obtain ⟨e, r, rfl, h1, h2, h3, h4⟩ := he
    have ih := find_now h hd l r (i + 1) h4
    have hs : Instr.sameNow d v e.key = some (decide (k = kd)) := by
      have hi := KR_inj h2 h
      rcases hd with ⟨rfl, rfl⟩ | ⟨rfl, rfl⟩
      · obtain ⟨n, rfl, rfl⟩ := h
        obtain ⟨n', rfl, h6⟩ := h2
        rw [h6]
        by_cases hq : n = n'
        · subst hq; simp [Instr.sameNow]
        · have hq2 : n' ≠ n := fun e => hq e.symm
          simp [Instr.sameNow, hq, hq2]
      · obtain ⟨y, rfl, rfl⟩ := h
        obtain ⟨y', rfl, h6⟩ := h2
        rw [h6]
        by_cases hq : y = y'
        · subst hq
          simp only [Instr.sameNow, Option.some.injEq, decide_true]
          show (y.toArray == y.toArray) = true
          simp
        · have hq2 : D.s y' ≠ D.s y := fun e => by cases e; exact hq rfl
          rw [decide_eq_false hq2]
          simp only [Instr.sameNow, Option.some.injEq]
          show (y.toArray == y'.toArray) = false
          simp [hq]
    simp only [Instr.findNow, hs, MD.idx]
    by_cases hq : k = kd
    · simp [hq]
    · simp only [hq, decide_false, if_false]
      rw [ih]
      cases MD.idx l kd with
      | none => rfl
      | some j =>
        simp only [Option.map_some, Option.bind_some, List.getElem?_cons_succ]
        rw [show i + 1 + j = i + (j + 1) by omega]
theorem find_ask {kt n : Nat} {kd : D} {v : Value} (hk : KKok P kt (.l8 n)) (h : KR (.l8 n) kd v) {vs : Sh} : ∀ (l : List (Nat × D × D)) (es : List MapEntry) (i : Nat), ER m w (.l8 n) vs l es →
    (Instr.findAsking kt v es i).run P w = .ok ((MD.idx l kd).bind fun j => (es[j]?).map fun e => (i + j, e.val)) w
  | [], es, i, he => by simp only [ER] at he; subst he; rfl
  | (b, k, x) :: l, es, i, he => by
    obtain ⟨e, r, rfl, h1, h2, h3, h4⟩ := he
    have ih := find_ask hk h l r (i + 1) h4
    have hi := KR_inj h2 h
    obtain ⟨y, hy, hyl, rfl⟩ := h
    obtain ⟨y', hy', hyl', h6⟩ := h2
    obtain ⟨te, inf, k1, k2, k3, k4⟩ := hk
    have heq : (Op.equal kt (.agg (y.map E8).toArray) e.key).run P w = .ok (decide (k = kd)) w := by
      rw [h6, ints_u8, ints_u8, run_equal_ints k1 k2 k3 k4 _ _ (by simpa using hyl) (by simpa using hyl'), eqs_u8]
      rw [hy, hy']
      by_cases hq : y = y'
      · subst hq; simp
      · have hq2 : y' ≠ y := fun e => hq e.symm
        simp [hq, hq2]
    simp only [Instr.findAsking, Sem.run_bind, heq, Result.andThen_ok, MD.idx]
    by_cases hq : k = kd
    · simp [hq]
    · simp only [hq, decide_false, Bool.false_eq_true, if_false]
      rw [ih]
      cases MD.idx l kd with
      | none => rfl
      | some j =>
        simp only [Option.map_some, Option.bind_some, List.getElem?_cons_succ]
        rw [show i + 1 + j = i + (j + 1) by omega]
theorem run_find {kt : Nat} {kk : KK} {kd : D} {v : Value} (hk : KKok P kt kk) (h : KR kk kd v) {vs : Sh} {l : List (Nat × D × D)} {es : List MapEntry} (he : ER m w kk vs l es) :
    (Instr.findKey kt v es).run P w = .ok ((MD.idx l kd).bind fun j => (es[j]?).map fun e => (j, e.val)) w := by
  cases kk with
  | i => have := MapKept.run_findKey (P := P) (w := w) hk (find_now h (.inl ⟨rfl, rfl⟩) l es 0 he); simpa using this
  | s => have := MapKept.run_findKey (P := P) (w := w) hk (find_now h (.inr ⟨rfl, rfl⟩) l es 0 he); simpa using this
  | l8 n =>
    have h1 := find_ask hk h l es 0 he
    obtain ⟨te, inf, k1, _⟩ := hk
    have h2 : (Instr.findKey kt v es).run P w = (Instr.findAsking kt v es).run P w := by
      cases es with
      | nil => simp [Instr.findKey, run_underlying k1, Instr.findNow, Instr.findAsking]
      | cons e es => simp [Instr.findKey, run_underlying k1, Instr.findNow, Instr.sameNow]
    rw [h2, h1]; simp

/-! ## Plain maps -/
theorem ER_get {kk : KK} {vs : Sh} : ∀ {l : List (Nat × D × D)} {es : List MapEntry} {j : Nat} {p : Nat × D × D}, ER m w kk vs l es → l[j]? = some p → ∃ e, es[j]? = some e ∧ e.born = p.1 ∧ KR kk p.2.1 e.key ∧ DV m w vs p.2.2 e.val
  | [], es, j, p, h, hj => by simp at hj
  | (b, k, d) :: l, es, j, p, h, hj => by
    obtain ⟨e, r, rfl, h1, h2, h3, h4⟩ := h
    cases j with
    | zero => simp at hj; subst hj; exact ⟨e, rfl, h1, h2, h3⟩
    | succ j =>
      have := ER_get (l := l) (es := r) (j := j) h4 (by simpa using hj)
      simpa using this
theorem MD.idx_find : ∀ (l : List (Nat × D × D)) (k : D), (MD.idx l k = none ∧ MD.find l k = none) ∨ ∃ j b d, MD.idx l k = some j ∧ l[j]? = some (b, k, d) ∧ MD.find l k = some d
  | [], k => .inl ⟨rfl, rfl⟩
  | (b, k', d) :: l, k => by
    simp only [MD.idx, MD.find]
    by_cases h : k' = k
    · subst h; exact .inr ⟨0, b, d, by simp, rfl, by simp⟩
    · simp only [h, if_false]
      rcases MD.idx_find l k with ⟨h1, h2⟩ | ⟨j, b', d', h1, h2, h3⟩
      · exact .inl ⟨by simp [h1], h2⟩
      · exact .inr ⟨j + 1, b', d', by simp [h1], by simpa using h2, h3⟩
theorem ER_upd {kk : KK} {vs : Sh} {k d : D} {v key : Value} (hd : DV m w vs d v) (hk : KR kk k key) : ∀ {l : List (Nat × D × D)} {es : List MapEntry} {j : Nat}, ER m w kk vs l es → MD.idx l k = some j →
    ER m w kk vs (MD.upd l k d) (es.modify j fun e => { e with key := key, val := v })
  | [], es, j, h, hj => by simp [MD.idx] at hj
  | (b, k', d') :: l, es, j, h, hj => by
    obtain ⟨e, r, rfl, h1, h2, h3, h4⟩ := h
    simp only [MD.idx] at hj
    simp only [MD.upd]
    by_cases hq : k' = k
    · rw [if_pos hq] at hj ⊢
      cases hj
      exact ⟨_, r, rfl, h1, by rw [hq]; exact hk, hd, h4⟩
    · rw [if_neg hq] at hj ⊢
      cases hi : MD.idx l k with
      | none => simp [hi] at hj
      | some i =>
        simp only [hi, Option.map_some, Option.some.injEq] at hj
        subst hj
        refine ⟨e, _, ?_, h1, h2, h3, ER_upd hd hk h4 hi⟩
        simp [List.modify_succ_cons]
theorem ER_app {kk : KK} {vs : Sh} : ∀ {l l' : List (Nat × D × D)} {es es' : List MapEntry}, ER m w kk vs l es → ER m w kk vs l' es' → ER m w kk vs (l ++ l') (es ++ es')
  | [], l', es, es', h, g => by simp only [ER] at h; subst h; exact g
  | (b, k, d) :: l, l', es, es', h, g => by
    obtain ⟨e, r, rfl, h1, h2, h3, h4⟩ := h
    exact ⟨e, r ++ es', rfl, h1, h2, h3, ER_app h4 g⟩
theorem ER_rem {kk : KK} {vs : Sh} {k : D} : ∀ {l : List (Nat × D × D)} {es : List MapEntry} {j : Nat}, ER m w kk vs l es → MD.idx l k = some j → ER m w kk vs (MD.rem l k) (es.eraseIdx j)
  | [], es, j, h, hj => by simp [MD.idx] at hj
  | (b, k', d') :: l, es, j, h, hj => by
    obtain ⟨e, r, rfl, h1, h2, h3, h4⟩ := h
    simp only [MD.idx] at hj
    simp only [MD.rem]
    by_cases hq : k' = k
    · rw [if_pos hq] at hj ⊢
      cases hj
      exact h4
    · rw [if_neg hq] at hj ⊢
      cases hi : MD.idx l k with
      | none => simp [hi] at hj
      | some i =>
        simp only [hi, Option.map_some, Option.some.injEq] at hj
        subst hj
        exact ⟨e, r.eraseIdx i, rfl, h1, h2, h3, ER_rem h4 hi⟩
theorem MD.rem_none : ∀ (l : List (Nat × D × D)) (k : D), MD.idx l k = none → MD.rem l k = l
  | [], k, h => rfl
  | (b, k', d) :: l, k, h => by
    simp only [MD.idx] at h
    simp only [MD.rem]
    by_cases hq : k' = k
    · rw [if_pos hq] at h; cases h
    · rw [if_neg hq] at h ⊢
      rw [MD.rem_none l k (by cases hi : MD.idx l k <;> simp_all)]
theorem MD.upd_keys : ∀ (l : List (Nat × D × D)) (k d : D), (MD.upd l k d).map (·.2.1) = l.map (·.2.1) ∧ (MD.upd l k d).map (·.1) = l.map (·.1)
  | [], k, d => ⟨rfl, rfl⟩
  | (b, k', d') :: l, k, d => by
    simp only [MD.upd]
    split
    · exact ⟨rfl, rfl⟩
    · obtain ⟨h1, h2⟩ := MD.upd_keys l k d
      exact ⟨by simp [h1], by simp [h2]⟩
theorem MD.rem_sub : ∀ (l : List (Nat × D × D)) (k : D), (MD.rem l k).Sublist l
  | [], k => List.Sublist.refl _
  | (b, k', d') :: l, k => by
    simp only [MD.rem]
    split
    · exact List.sublist_cons_self _ _
    · exact (MD.rem_sub l k).cons_cons _
theorem MD.idx_none : ∀ (l : List (Nat × D × D)) (k : D), MD.idx l k = none → k ∉ l.map (·.2.1)
  | [], k, h => by simp
  | (b, k', d) :: l, k, h => by
    simp only [MD.idx] at h
    by_cases hq : k' = k
    · rw [if_pos hq] at h; cases h
    · rw [if_neg hq] at h
      have := MD.idx_none l k (by cases hi : MD.idx l k <;> simp_all)
      simp only [List.map_cons, List.mem_cons, not_or]
      exact ⟨fun e => hq e.symm, this⟩
theorem MD.set_ok {M : MD} (h : M.ok) (k d : D) : (M.set k d).ok := by
  obtain ⟨h1, h2, h3⟩ := h
  unfold MD.set MD.has
  rcases MD.idx_find M.es k with ⟨g1, g2⟩ | ⟨j, b, d', g1, g2, g3⟩
  · rw [g2]
    simp only [Option.isSome_none, Bool.false_eq_true, if_false]
    have hnk := MD.idx_none _ _ g1
    refine ⟨?_, ?_, fun e he => ?_⟩
    · rw [List.map_append, List.nodup_append]
      exact ⟨h1, by simp, fun a ha b hb => by simp at hb; subst hb; intro e; subst e; exact hnk ha⟩
    · rw [List.map_append, List.nodup_append]
      refine ⟨h2, by simp, fun a ha b hb => ?_⟩
      simp at hb; subst hb
      simp only [List.mem_map] at ha
      obtain ⟨e, he, rfl⟩ := ha
      have := h3 e he; omega
    · simp only [List.mem_append, List.mem_singleton] at he
      rcases he with he | he
      · have := h3 e he; show e.1 < M.clock + 1; omega
      · subst he; simp
  · rw [g3]
    simp only [Option.isSome_some, if_true]
    obtain ⟨q1, q2⟩ := MD.upd_keys M.es k d
    refine ⟨by rw [q1]; exact h1, by rw [q2]; exact h2, fun e he => ?_⟩
    have : e.1 ∈ (MD.upd M.es k d).map (·.1) := List.mem_map_of_mem he
    rw [q2] at this
    simp only [List.mem_map] at this
    obtain ⟨e', he', h4⟩ := this
    have := h3 e' he'
    simp only; omega
theorem MD.del_ok {M : MD} (h : M.ok) (k : D) : (M.del k).ok := by
  obtain ⟨h1, h2, h3⟩ := h
  have hs := MD.rem_sub M.es k
  exact ⟨(hs.map _).nodup h1, (hs.map _).nodup h2, fun e he => h3 e (hs.subset he)⟩

/-! ## The operations -/
theorem zero_DV {e : Nat} {sh : Sh} (h : ∃ i z, P.info? e = some i ∧ i.zero = some z ∧ ∀ m w, DV m w sh sh.zero z) : ∃ z, (zeroValue e).run P w = .ok z w ∧ DV m w sh sh.zero z := by
  obtain ⟨i, z, h1, h2, h3⟩ := h
  exact ⟨z, by simp [zeroValue, typeInfo, h1, h2], h3 m w⟩
theorem DV_RV {sh : Sh} {d : D} {v : Value} (h : DV m w sh d v) : RV m w (sh.av real d) v := by
  obtain ⟨cs, h1, h2⟩ := h
  have h3 := (DR_CR sh d cs).1 h1
  cases sh <;> simp only [Sh.isAgg] at h2 <;> first
    | (subst h2; simpa only [RV, Sh.av] using h3)
    | (subst h2; simp only [Sh.av] at h3 ⊢; exact RV_ag h3)
theorem DV_of {sh : Sh} {a : AV} {d : D} {v : Value} (h : dof sh a = some d) (hv : RV m w a v) : DV m w sh d v := by
  have hk : a.one = true ∨ ∃ n c, a = .ag n c := by
    have ht : ∀ l, dof sh (.tup l) = none := by intro l; cases sh <;> simp [dof, dofL8, dofSS, dofBS, dofSL, agvs]
    have hu : dof sh .u = none := by cases sh <;> simp [dof, dofL8, dofSS, dofBS, dofSL, agvs]
    cases a <;> first | exact .inl rfl | exact .inr ⟨_, _, rfl⟩ | (rw [ht] at h; cases h; done) | (rw [hu] at h; cases h; done)
  have hc := dof_sound sh a d _ h (CR_cells hk hv)
  refine ⟨v.cells.toList, hc, ?_⟩
  have hagg : sh.isAgg = true → ∃ n c, a = .ag n c := by
    intro hs
    cases sh <;> simp [Sh.isAgg] at hs <;> simp only [dof] at h
    · unfold dofL8 at h; split at h <;> first | (cases h; done) | exact ⟨_, _, rfl⟩
    · split at h
      · rename_i as hag
        unfold agvs at hag
        split at hag <;> first | (cases hag; done) | exact ⟨_, _, rfl⟩
      · cases h
  cases hs : sh.isAgg with
  | true =>
    obtain ⟨n, c, rfl⟩ := hagg hs
    simp only [RV] at hv
    obtain ⟨cs, rfl, _⟩ := hv
    simp [Value.cells]
  | false =>
    simp only
    have hl := DR_len sh d _ hc
    have h1 : sh.cells = 1 := by cases sh <;> simp_all [Sh.isAgg, Sh.cells]
    rcases hk with hk | ⟨n, c, rfl⟩
    · obtain ⟨_, _, hvs⟩ := CR_of_RV hk hv
      rw [hvs]
    · cases sh <;> simp [Sh.isAgg] at hs <;> simp [dof, dofSS, dofSL, dofBS] at h
theorem mp_write (hb : Base m w me kb) {k T : Nat} {kk : KK} {sh : Sh} {M M' : MD} {r : Nat} {es es' : Array MapEntry} {av : AV} {v1 : Value} (hab : mlook me k = some (.mp T kk sh M)) (h1 : m k = some (.map (some r))) (h2 : w.heap[r]? = some (.map es M.clock))
    (he : ER m w kk sh M'.es es'.toList) (hok : M'.ok) (hrv : ∀ w', RV m w' av v1) :
    OkE m w me kb av [(k, .mp T kk sh M')] v1 m { w with heap := w.heap.setIfInBounds r (.map es' M'.clock) } := by
  obtain ⟨g1, g2⟩ := MapKept.heap_set (o' := .map es' M'.clock) h2
  have htr := tr_write (w' := { w with heap := w.heap.setIfInBounds r (.map es' M'.clock) }) (hb.mem.live k _ _ r hab rfl h1 rfl) h1 rfl (by simp) (fun b hne => g2 b hne) rfl rfl rfl
  exact hb.write hab rfl h1 rfl (by simp) (fun b hne => g2 b hne) rfl rfl rfl ⟨r, es', h1, g1, ER_mono htr.pres _ _ he, hok⟩ (hrv _)
theorem makeMap_sound (ht : TTok P tt) (hb : Base m w me kb) {T : Nat} {e : Eff} (h : (makeMapEv tt kb T).run me = some e) :
    ∃ v m' w', (Instr.makeMap T none).run P w = .ok v w' ∧ OkE m w me kb e.v e.puts v m' w' := by
  unfold makeMapEv at h
  split at h
  · rename_i kt kk et sh _ _ _ _ hl
    simp only [Look.run, Option.some.injEq] at h
    subst h
    have hrun : (Instr.makeMap T none).run P w = .ok (.map (some w.heap.size)) (w.alloc (.map #[] 0)) := by
      simp [Instr.makeMap, run_newObj]
    refine ⟨_, hput m kb (.map (some w.heap.size)), _, hrun, hb.new (by simp) (fun b hb' => by simp [blk] at hb'; omega) (fun b hb' => by simp [blk] at hb'; subst hb'; simp) (fun b hb' => Below.heap_alloc w _ b hb') rfl rfl rfl
      ⟨w.heap.size, #[], by simp [hput_apply], heap_alloc_new w _, rfl, by simp [MD.ok]⟩ ?_⟩
    simp only [RV, CR]
    exact ⟨_, by simp [hput_apply], rfl, rfl⟩
  · exact (Look.run_no h).elim
theorem KK.beq_eq {a b : KK} (h : KK.beq a b = true) : a = b := by
  cases a <;> cases b <;> simp [KK.beq] at h <;> first | rfl | (subst h; rfl)
theorem mh_val {j T : Nat} {kk : KK} {sh : Sh} {M : MD} {vx : Value} (hb : Base m w me kb) (hab : mlook me j = some (.mp T kk sh M)) (hx : RV m w (.mh j) vx) :
    ∃ r es, vx = .map (some r) ∧ m j = some (.map (some r)) ∧ w.heap[r]? = some (.map es M.clock) ∧ ER m w kk sh M.es es.toList ∧ M.ok := by
  obtain ⟨r, es, g1, g2, g3, g4⟩ := hb.mem.at_ j _ hab
  simp only [RV, CR, List.cons.injEq, and_true] at hx
  obtain ⟨v1, q1, q2, _⟩ := hx
  rw [g1] at q1
  cases q1
  exact ⟨r, es, q2, g1, g2, g3, g4⟩
/-! ## Giving rows away -/
def pubH (m : Hd) (ks : List Nat) : Hd := ⟨m.mu, m.ok, fun b => m.pub b ∨ ∃ k v, k ∈ ks ∧ m k = some v ∧ blk v = some b⟩
theorem deads_look : ∀ (ks : List Nat) (me : Mem) (t : Nat), mlook (mputs (deads ks) me) t = if t ∈ ks then some .dead else mlook me t
  | [], me, t => by simp [deads, mputs]
  | k :: r, me, t => by
    simp only [deads, mputs, mlook_cons, deads_look r me t, List.mem_cons]
    by_cases h : k = t
    · subst h; simp
    · have h2 : ¬ t = k := fun e => h e.symm
      simp [h, h2]
theorem Base.pubs (hb : Base m w me kb) {ks : List Nat} (hk : ∀ k ∈ ks, ∃ T e c, mlook me k = some (.row T e c)) :
    Tr m w (pubH m ks) w ∧ Base (pubH m ks) w (mputs (deads ks) me) kb ∧ ∀ k ∈ ks, ∀ T e c v, mlook me k = some (.row T e c) → m k = some v → CR (pubH m ks) w (.rb e c) [v] := by
  have htr : Tr m w (pubH m ks) w := by
    refine ⟨fun _ _ h => h, rfl, fun _ h => .inl h, fun b h => ?_, Nat.le_refl _, fun _ _ _ => rfl, fun k v b h1 h2 => .inl ⟨k, v, h1, h2⟩, rfl, rfl, rfl⟩
    rcases h with h | ⟨k, v, _, h1, h2⟩
    · exact .inl h
    · exact .inr (.inl ⟨k, v, h1, h2⟩)
  refine ⟨htr, ⟨⟨fun t ab hab => ?_, fun t t' ab ab' v v' b hab hab' hl hl' hne hv hv' hbk => ?_, fun b hp => ?_, fun t ab v b hab hl hv hbk hp => ?_, fun t ab v b hab hl hv hbk => ?_, hb.mem.okn⟩, hb.bd, hb.fresh⟩, fun k hkk T e c v hab hv => ?_⟩
  · rw [deads_look] at hab
    split at hab
    · cases hab; trivial
    · exact ABR_keep (hb.mem.at_ t ab hab) (fun _ h => h) (fun _ _ _ _ => rfl) htr.pres
  · rw [deads_look] at hab hab'
    split at hab
    · cases hab; cases hl
    · split at hab'
      · cases hab'; cases hl'
      · exact hb.mem.apart t t' ab ab' v v' b hab hab' hl hl' hne hv hv' hbk
  · rcases hp with hp | ⟨k, v, _, h1, h2⟩
    · exact hb.mem.pubs b hp
    · exact hb.bd k v b h1 h2
  · rw [deads_look] at hab
    split at hab
    · cases hab; cases hl
    · rename_i hn
      rcases hp with hp | ⟨k, u, hkk, h1, h2⟩
      · exact hb.mem.live t ab v b hab hl hv hbk hp
      · obtain ⟨T, e, c, h3⟩ := hk k hkk
        exact hb.mem.apart t k ab _ v u b hab h3 hl rfl (fun e => hn (e ▸ hkk)) hv h1 hbk h2
  · rw [deads_look] at hab
    split at hab
    · cases hab; cases hl
    · exact hb.mem.okl t ab v b hab hl hv hbk
  · obtain ⟨v', n, cs, g1, g2, g3⟩ := hb.mem.at_ k _ hab
    rw [hv] at g1; cases g1
    have g4 := RC_mono htr.pres _ _ g3
    rcases g2.2 with ⟨ad, rfl, h4⟩ | ⟨g, o, cap, cur, fz, rfl, h5, h6, h7, h8, h9⟩
    · simp only [CR]
      exact ⟨ad, 0, 0, cs, rfl, g4, by rw [g2.1, h4], Nat.le_refl _, fun h => absurd h (by omega)⟩
    · simp only [CR]
      refine ⟨_, n, cap, cs, rfl, g4, g2.1, h7, fun hn => ⟨_, rfl, ⟨(Array.getElem?_eq_some_iff.1 h5).1, hb.mem.okl k _ _ g hab rfl hv (blk_slice h8), .inl (.inr ⟨k, _, hkk, hv, blk_slice h8⟩)⟩, fun j x hx => ?_⟩⟩
      have hj : 0 < cs.length := by
        have := (List.getElem?_eq_some_iff.1 hx).1; omega
      obtain ⟨g', o', cap', cur', fz', pre, rest, q0, q1, q2, q3, q4, q5, q6, q7, q8⟩ := row_open g2 hj
      cases q0
      have := cells_at q1 q7 q8 j x hx
      exact this
theorem pubL_sound : ∀ (l : List AV) (K : List AV → List Nat → Look) (cs : List Value) (e : Eff), LR m w l cs → (pubL l K).run me = some e →
    ∃ l' ks, (K l' ks).run me = some e ∧ (∀ k ∈ ks, ∃ T e c, mlook me k = some (.row T e c)) ∧ ∀ m', Pres m w m' w → (∀ k ∈ ks, ∀ T e c v, mlook me k = some (.row T e c) → m k = some v → CR m' w (.rb e c) [v]) → LR m' w l' cs
  | [], K, cs, e, hl, h => ⟨[], [], h, (by simp), fun m' hp _ => LR_mono hp [] cs hl⟩
  | a :: r, K, cs, e, hl, h => by
    simp only [LR] at hl
    obtain ⟨c1, c2, rfl, h1, h2⟩ := hl
    unfold pubL at h
    split at h
    · rename_i k
      have h' := Look.run_look h
      clear h
      obtain ⟨ab, hab, h⟩ := h'
      split at h
      · rename_i T e' c
        obtain ⟨l', ks, g1, g2, g3⟩ := pubL_sound r _ c2 e h2 h
        refine ⟨_, _, g1, fun k' hk' => ?_, fun m' hp hc => ?_⟩
        · simp only [List.mem_cons] at hk'
          rcases hk' with rfl | hk'
          · exact ⟨_, _, _, hab⟩
          · exact g2 k' hk'
        · simp only [LR]
          simp only [CR] at h1
          obtain ⟨v, q1, rfl, q2⟩ := h1
          exact ⟨[v], c2, rfl, hc k (by simp) _ _ _ v hab q1, g3 m' hp (fun k' hk' => hc k' (by simp [hk']))⟩
      · exact (Look.run_no h).elim
    · obtain ⟨l', ks, g1, g2, g3⟩ := pubL_sound r _ c2 e h2 h
      refine ⟨_, _, g1, g2, fun m' hp hc => ?_⟩
      simp only [LR]
      exact ⟨c1, c2, rfl, CR_mono hp _ _ h1, g3 m' hp hc⟩
theorem pubV_sound {v : AV} {K : AV → List Nat → Look} {x : Value} {e : Eff} (hv : RV m w v x) (h : (pubV v K).run me = some e) :
    ∃ v' ks, (K v' ks).run me = some e ∧ (∀ k ∈ ks, ∃ T e c, mlook me k = some (.row T e c)) ∧ ∀ m', Pres m w m' w → (∀ k ∈ ks, ∀ T e c v, mlook me k = some (.row T e c) → m k = some v → CR m' w (.rb e c) [v]) → RV m' w v' x := by
  unfold pubV at h
  split at h
  · rename_i k
    have h' := Look.run_look h
    clear h
    obtain ⟨ab, hab, h⟩ := h'
    split at h
    · rename_i T e' c
      refine ⟨_, _, h, fun k' hk' => ?_, fun m' hp hc => ?_⟩
      · simp only [List.mem_singleton] at hk'; subst hk'; exact ⟨_, _, _, hab⟩
      · simp only [RV, CR, List.cons.injEq, and_true] at hv
        obtain ⟨u, q1, rfl, q2⟩ := hv
        exact hc k (by simp) _ _ _ _ hab q1
    · exact (Look.run_no h).elim
  · rename_i n c
    split at h
    · rename_i l
      simp only [RV, RC] at hv
      obtain ⟨cs, rfl, h1, h2⟩ := hv
      obtain ⟨l', ks, g1, g2, g3⟩ := pubL_sound l _ cs e h2 h
      refine ⟨_, _, g1, g2, fun m' hp hc => ?_⟩
      simp only [RV, RC]
      exact ⟨cs, rfl, h1, g3 m' hp hc⟩
    · exact ⟨_, _, h, (by simp), fun m' hp _ => RV_mono hp _ _ hv⟩
  · exact ⟨_, _, h, (by simp), fun m' hp _ => RV_mono hp _ _ hv⟩
theorem mapSet_sound (ht : TTok P tt) (hb : Base m w me kb) {T : Nat} {x k y : AV} {vx vk vy : Value} {e : Eff} (hx : RV m w x vx) (hk : RV m w k vk) (hy : RV m w y vy) (h : (mapSetEv real tt T x k y).run me = some e) :
    ∃ m' w', (Instr.mapUpdate T vx vk vy).run P w = .ok () w' ∧ OkE m w me kb e.v e.puts undef m' w' := by
  unfold mapSetEv at h
  split at h
  · rename_i kt kk0 et sh0 _ _ _ _ hl
    split at h
    · rename_i j
      have h' := Look.run_look h
      clear h
      obtain ⟨ab, hab, h⟩ := h'
      split at h
      · rename_i T' kk sh M
        split at h
        · rename_i hTT hKK hSS
          have hTT := beq_nat hTT
          have hKK := KK.beq_eq hKK
          have hSS := Sh.beq_eq _ _ hSS
          subst hTT hKK hSS
          split at h
          · rename_i kd hkd
            obtain ⟨v', ks, h, hks, hy'⟩ := pubV_sound hy h
            split at h
            · rename_i d hd
              simp only [Look.run, Option.some.injEq] at h
              subst h
              obtain ⟨htr, hb', hrb⟩ := hb.pubs hks
              have hab' : mlook (mputs (deads ks) me) j = some (.mp T kk0 sh0 M) := by
                rw [deads_look, if_neg]
                · exact hab
                · intro hj
                  obtain ⟨_, _, _, hq⟩ := hks j hj
                  rw [hab] at hq; cases hq
              obtain ⟨hT, hok, _⟩ := (ht.look hl).k
              obtain ⟨r, es, rfl, g1, g2, g3, g4⟩ := mh_val hb' hab' (RV_mono htr.pres _ _ hx)
              have hkr := KR_of hkd hk
              have hdv := DV_of hd (hy' _ htr.pres hrb)
              have fin : ∀ {w'}, OkE (pubH m ks) w (mputs (deads ks) me) kb .u [(j, .mp T kk0 sh0 (M.set kd d))] undef (pubH m ks) w' → OkE m w me kb .u ((j, .mp T kk0 sh0 (real.mset M kd d)) :: deads ks) undef (pubH m ks) w' := fun hq =>
                ⟨htr.trans hq.tr, hq.rv, hq.mem, fun k hk => .inl hk, hq.bd⟩
              have hfind := run_find (P := P) (w := w) hok hkr g3
              rcases MD.idx_find M.es kd with ⟨i1, i2⟩ | ⟨jx, b, d', i1, i2, i3⟩
              · have hset : M.set kd d = ⟨M.es ++ [(M.clock, kd, d)], M.clock + 1⟩ := by simp [MD.set, MD.has, i2]
                rw [i1, Option.bind_none] at hfind
                refine ⟨_, { w with heap := w.heap.setIfInBounds r (.map (es.push ⟨vk, vy, M.clock⟩) (M.set kd d).clock) }, ?_, fin (mp_write hb' hab' g1 g2 (M' := M.set kd d) ?_ (MD.set_ok g4 kd d) (fun w' => by simp only [RV]))⟩
                · simp [Instr.mapUpdate, run_underlying hT, MapKept.run_getObj_map g2, KR_check hok hkr, hfind, MapKept.run_setObj_map _ g2, Result.andThen, hset]
                · rw [hset, Array.toList_push]
                  exact ER_app g3 ⟨_, [], rfl, rfl, hkr, hdv, rfl⟩
              · have hset : M.set kd d = ⟨MD.upd M.es kd d, M.clock⟩ := by simp [MD.set, MD.has, i3]
                obtain ⟨e0, e1, e2, e3, e4⟩ := ER_get g3 i2
                have hkey : e0.key = vk := (KR_inj e3 hkr).1 rfl
                rw [i1, Option.bind_some, e1, Option.map_some] at hfind
                have e1' : es[jx]? = some e0 := by simpa using e1
                refine ⟨_, { w with heap := w.heap.setIfInBounds r (.map (es.modify jx fun e => { e with key := vk, val := vy }) (M.set kd d).clock) }, ?_, fin (mp_write hb' hab' g1 g2 (M' := M.set kd d) ?_ (MD.set_ok g4 kd d) (fun w' => by simp only [RV]))⟩
                · simp [Instr.mapUpdate, run_underlying hT, MapKept.run_getObj_map g2, KR_check hok hkr, hfind, e1', hkey, KR_stays hkr, MapKept.run_setObj_map _ g2, Result.andThen, hset]
                · rw [hset, Array.toList_modify]
                  exact ER_upd hdv hkr g3 i1
            · exact (Look.run_no h).elim
          · exact (Look.run_no h).elim
        · exact (Look.run_no h).elim
      · exact (Look.run_no h).elim
    · exact (Look.run_no h).elim
  · exact (Look.run_no h).elim
theorem mapGet_sound (ht : TTok P tt) (hb : Base m w me kb) {T : Nat} {x k : AV} {ok : Bool} {vx vk : Value} {e : Eff} (hx : RV m w x vx) (hk : RV m w k vk) (h : (mapGetEv real tt T x k ok).run me = some e) :
    ∃ v, (Instr.lookup T vx vk ok).run P w = .ok v w ∧ OkE m w me kb e.v e.puts v m w := by
  unfold mapGetEv at h
  split at h
  · rename_i kt kk0 et sh0 _ _ _ _ hl
    split at h
    · rename_i j
      have h' := Look.run_look h
      clear h
      obtain ⟨ab, hab, h⟩ := h'
      split at h
      · rename_i T' kk sh M
        split at h
        · rename_i hTT hKK hSS
          have hTT := beq_nat hTT
          have hKK := KK.beq_eq hKK
          have hSS := Sh.beq_eq _ _ hSS
          subst hTT hKK hSS
          split at h
          · rename_i kd hkd
            obtain ⟨hT, hok, hz⟩ := (ht.look hl).k
            obtain ⟨r, es, rfl, g1, g2, g3, g4⟩ := mh_val hb hab hx
            have hkr := KR_of hkd hk
            have hfind := run_find (P := P) (w := w) hok hkr g3
            obtain ⟨z, hz1, hz2⟩ := zero_DV (m := m) (w := w) hz
            have key : ∃ v b, (Instr.lookup T (.map (some r)) vk ok).run P w = .ok (if ok = true then .tuple #[v, .bool b] else v) w ∧ DV m w sh0 (M.get kd sh0.zero) v ∧ b = M.has kd := by
              rcases MD.idx_find M.es kd with ⟨i1, i2⟩ | ⟨jx, b, d', i1, i2, i3⟩
              · rw [i1, Option.bind_none] at hfind
                refine ⟨z, false, ?_, by simpa [MD.get, i2] using hz2, by simp [MD.has, i2]⟩
                simp [Instr.lookup, run_underlying hT, MapKept.run_getObj_map g2, KR_check hok hkr, hfind, hz1, Result.andThen]
              · obtain ⟨e0, e1, e2, e3, e4⟩ := ER_get g3 i2
                rw [i1, Option.bind_some, e1, Option.map_some] at hfind
                refine ⟨e0.val, true, ?_, by simpa [MD.get, i3] using e4, by simp [MD.has, i3]⟩
                simp [Instr.lookup, run_underlying hT, MapKept.run_getObj_map g2, KR_check hok hkr, hfind, Result.andThen]
            obtain ⟨v, b, h1, h2, h3⟩ := key
            split at h
            · have := Look.run_pure1 h; subst this
              refine ⟨_, h1, hb.same ?_⟩
              simp only [RV, RVs, if_true]
              exact ⟨[v, .bool b], by simp, v, _, rfl, DV_RV h2, .bool b, [], rfl, by simp [RV, CR, h3]; rfl, rfl⟩
            · have := Look.run_pure1 h; subst this
              exact ⟨_, h1, hb.same (DV_RV h2)⟩
          · exact (Look.run_no h).elim
        · exact (Look.run_no h).elim
      · exact (Look.run_no h).elim
    · exact (Look.run_no h).elim
  · exact (Look.run_no h).elim
theorem mapDel_sound (ht : TTok P tt) (hb : Base m w me kb) {T U ty : Nat} {x k : AV} {vx vk : Value} {e : Eff} (hx : RV m w x vx) (hk : RV m w k vk) (h : (mapDelEv real tt T x k).run me = some e) :
    ∃ v w', (Builtin.delete_ #[T, U] ty #[vx, vk]).run P w = .ok v w' ∧ OkE m w me kb e.v e.puts v m w' := by
  unfold mapDelEv at h
  split at h
  · rename_i kt kk0 et sh0 _ _ _ _ hl
    split at h
    · rename_i j
      have h' := Look.run_look h
      clear h
      obtain ⟨ab, hab, h⟩ := h'
      split at h
      · rename_i T' kk sh M
        split at h
        · rename_i hTT hKK hSS
          have hTT := beq_nat hTT
          have hKK := KK.beq_eq hKK
          have hSS := Sh.beq_eq _ _ hSS
          subst hTT hKK hSS
          split at h
          · rename_i kd hkd
            simp only [Look.run, Option.some.injEq] at h
            subst h
            obtain ⟨hT, hok, _⟩ := (ht.look hl).k
            obtain ⟨r, es, rfl, g1, g2, g3, g4⟩ := mh_val hb hab hx
            have hkr := KR_of hkd hk
            have hfind := run_find (P := P) (w := w) hok hkr g3
            rcases MD.idx_find M.es kd with ⟨i1, i2⟩ | ⟨jx, b, d', i1, i2, i3⟩
            · rw [i1, Option.bind_none] at hfind
              have hrem : (M.del kd).es = M.es := MD.rem_none _ _ i1
              refine ⟨.tuple #[], { w with heap := w.heap.setIfInBounds r (.map es (M.del kd).clock) }, ?_, mp_write hb hab g1 g2 (M' := M.del kd) (by rw [hrem]; exact g3) (MD.del_ok g4 kd) (fun w' => by simp [RV, RVs])⟩
              simp [Builtin.delete_, run_underlying hT, MapKept.run_getObj_map g2, KR_check hok hkr, hfind, MapKept.run_setObj_map _ g2, Result.andThen, MD.del]
            · obtain ⟨e0, e1, e2, e3, e4⟩ := ER_get g3 i2
              rw [i1, Option.bind_some, e1, Option.map_some] at hfind
              refine ⟨.tuple #[], { w with heap := w.heap.setIfInBounds r (.map (es.eraseIdxIfInBounds jx) (M.del kd).clock) }, ?_, mp_write hb hab g1 g2 (M' := M.del kd) ?_ (MD.del_ok g4 kd) (fun w' => by simp [RV, RVs])⟩
              · simp [Builtin.delete_, run_underlying hT, MapKept.run_getObj_map g2, KR_check hok hkr, hfind, MapKept.run_setObj_map _ g2, Result.andThen, MD.del]
              · rw [Array.toList_eraseIdxIfInBounds]
                exact ER_rem g3 i1
          · exact (Look.run_no h).elim
        · exact (Look.run_no h).elim
      · exact (Look.run_no h).elim
    · exact (Look.run_no h).elim
  · exact (Look.run_no h).elim
theorem mapClear_sound (ht : TTok P tt) (hb : Base m w me kb) {T ty : Nat} {x : AV} {vx : Value} {e : Eff} (hx : RV m w x vx) (h : (mapClearEv real tt T x).run me = some e) :
    ∃ v w', (Builtin.clear_ #[T] ty #[vx]).run P w = .ok v w' ∧ OkE m w me kb e.v e.puts v m w' := by
  unfold mapClearEv at h
  split at h
  · rename_i kt kk0 et sh0 _ _ _ _ hl
    split at h
    · rename_i j
      have h' := Look.run_look h
      clear h
      obtain ⟨ab, hab, h⟩ := h'
      split at h
      · rename_i T' kk sh M
        split at h
        · rename_i hTT hKK hSS
          have hTT := beq_nat hTT
          have hKK := KK.beq_eq hKK
          have hSS := Sh.beq_eq _ _ hSS
          subst hTT hKK hSS
          simp only [Look.run, Option.some.injEq] at h
          subst h
          obtain ⟨hT, hok, _⟩ := (ht.look hl).k
          obtain ⟨r, es, rfl, g1, g2, g3, g4⟩ := mh_val hb hab hx
          refine ⟨.tuple #[], { w with heap := w.heap.setIfInBounds r (.map #[] (real.mclr M).clock) }, ?_, mp_write hb hab g1 g2 (M' := real.mclr M) ?_ ?_ (fun w' => by simp [RV, RVs])⟩
          · simp [Builtin.clear_, run_underlying hT, MapKept.run_getObj_map g2, MapKept.run_setObj_map _ g2, Result.andThen, real]
          · simp [real, ER]
          · simp [real, MD.ok]
        · exact (Look.run_no h).elim
      · exact (Look.run_no h).elim
    · exact (Look.run_no h).elim
  · exact (Look.run_no h).elim
end
end Go.Vc
set_option linter.unusedVariables false
namespace Go.Vc
open Go Go.RowKit
section
variable {P : Program} {m : Hd} {w : World} {me : Mem} {kb : Nat} {tt : TT}
theorem range_sound (ht : TTok P tt) (hb : Base m w me kb) {T : Nat} {x : AV} {vx : Value} {e : Eff} (hx : RV m w x vx) (h : (rangeEv real tt kb T x).run me = some e) :
    ∃ v m' w', (Instr.range T vx).run P w = .ok v w' ∧ OkE m w me kb e.v e.puts v m' w' := by
  unfold rangeEv at h
  split at h
  · rename_i kt kk0 et sh0 _ _ _ _ hl
    split at h
    · rename_i j
      have h' := Look.run_look h
      clear h
      obtain ⟨ab, hab, h⟩ := h'
      split at h
      · rename_i T' kk sh M
        split at h
        · rename_i hTT hKK hSS
          have hTT := beq_nat hTT
          have hKK := KK.beq_eq hKK
          have hSS := Sh.beq_eq _ _ hSS
          subst hTT hKK hSS
          simp only [Look.run, Option.some.injEq] at h
          subst h
          obtain ⟨hT, hok, _⟩ := (ht.look hl).k
          obtain ⟨r, es, rfl, g1, g2, g3, g4⟩ := mh_val hb hab hx
          have hrun : (Instr.range T (.map (some r))).run P w = .ok (.pointer (some ⟨w.heap.size, 0, none⟩)) (w.alloc (.mapIter (some r) M.clock #[] M.clock)) := by
            simp [Instr.range, run_underlying hT, MapKept.run_getObj_map g2, Result.andThen]
          refine ⟨_, hput m kb (.pointer (some ⟨w.heap.size, 0, none⟩)), _, hrun, hb.new (by simp) (fun b hb' => by simp [blk] at hb'; omega) (fun b hb' => by simp [blk] at hb'; subst hb'; simp) (fun b hb' => Below.heap_alloc w _ b hb') rfl rfl rfl ⟨w.heap.size, r, by simp [hput_apply], ?_, heap_alloc_new w _⟩ ?_⟩
          · have hk := hb.fresh kb (Nat.le_refl _) (by omega)
            rw [hput_apply]
            split
            · rename_i e2
              subst e2
              rw [g1] at hk
              cases hk
            · exact g1
          · simp only [RV, CR]
            refine ⟨_, by simp [hput_apply]; rfl, ?_⟩
            rfl
        · exact (Look.run_no h).elim
      · exact (Look.run_no h).elim
    · exact (Look.run_no h).elim
  · exact (Look.run_no h).elim
/-! ## What comes next -/
theorem MD.atB_of : ∀ (l : List (Nat × D × D)) (b : Nat), (l.map (·.1)).Nodup → ∀ {j : Nat} {k d : D}, l[j]? = some (b, k, d) → MD.atB l b = some (k, d)
  | [], b, h, j, k, d, hj => by simp at hj
  | (b', k', d') :: l, b, h, j, k, d, hj => by
    simp only [List.map_cons, List.nodup_cons] at h
    simp only [MD.atB]
    cases j with
    | zero => simp at hj; obtain ⟨rfl, rfl, rfl⟩ := hj; simp
    | succ j =>
      simp only [List.getElem?_cons_succ] at hj
      have hm : b ∈ l.map (·.1) := List.mem_map.2 ⟨_, List.mem_of_getElem? hj, rfl⟩
      have hne : b' ≠ b := fun e => by subst e; exact h.1 hm
      rw [if_neg hne]
      exact MD.atB_of l b h.2 hj
theorem ER_back {kk : KK} {vs : Sh} : ∀ {l : List (Nat × D × D)} {es : List MapEntry} {e : MapEntry}, ER m w kk vs l es → e ∈ es → ∃ (j : Nat) (k d : D), l[j]? = some (e.born, k, d) ∧ KR kk k e.key ∧ DV m w vs d e.val
  | [], es, e, h, hj => by simp only [ER] at h; subst h; simp at hj
  | (b, k, d) :: l, es, e, h, hj => by
    obtain ⟨e', r, rfl, h1, h2, h3, h4⟩ := h
    simp only [List.mem_cons] at hj
    rcases hj with rfl | hj
    · exact ⟨0, k, d, by simp [h1], h2, h3⟩
    · obtain ⟨j, k2, d2, g1, g2, g3⟩ := ER_back h4 hj
      exact ⟨j + 1, k2, d2, by simpa using g1, g2, g3⟩
theorem ER_born {kk : KK} {vs : Sh} : ∀ {l : List (Nat × D × D)} {es : List MapEntry}, ER m w kk vs l es → es.map (·.born) = l.map (·.1)
  | [], es, h => by simp only [ER] at h; subst h; rfl
  | (b, k, d) :: l, es, h => by
    obtain ⟨e', r, rfl, h1, h2, h3, h4⟩ := h
    simp [h1, ER_born h4]
theorem KR_RV {kk : KK} {d : D} {v : Value} (h : KR kk d v) : RV m w (kk.av real d) v := by
  cases kk with
  | i => obtain ⟨n, rfl, rfl⟩ := h; simp only [KK.av, RV, CR]; rfl
  | s => obtain ⟨x, rfl, rfl⟩ := h; simp only [KK.av, RV, CR]; rfl
  | l8 n => obtain ⟨x, rfl, hx, rfl⟩ := h; simp only [KK.av, RV, RC]; exact ⟨_, rfl, by simpa using hx, rfl⟩
theorem it_val {k j since last : Nat} {seen : List Nat} {T : Nat} {kk : KK} {sh : Sh} {M : MD} {vx : Value} (hb : Base m w me kb) (hit : mlook me k = some (.it j since seen last)) (hab : mlook me j = some (.mp T kk sh M)) (hx : RV m w (.p k 0 0) vx) :
    ∃ r rm es, vx = .pointer (some ⟨r, 0, none⟩) ∧ m k = some (.pointer (some ⟨r, 0, none⟩)) ∧ w.heap[r]? = some (.mapIter (some rm) since seen.toArray last) ∧ m j = some (.map (some rm)) ∧ w.heap[rm]? = some (.map es M.clock) ∧ ER m w kk sh M.es es.toList ∧ M.ok := by
  obtain ⟨r, rm, g1, g2, g3⟩ := hb.mem.at_ k _ hit
  obtain ⟨r', es, k1, k2, k3, k4⟩ := hb.mem.at_ j _ hab
  rw [g2] at k1
  cases k1
  simp only [RV, CR, List.cons.injEq, and_true] at hx
  obtain ⟨g, q1, q2⟩ := hx
  rw [g1] at q1
  cases q1
  exact ⟨r, rm, es, q2, g1, g3, g2, k2, k3, k4⟩
theorem entry_sound (hb : Base m w me kb) {x : AV} {vx : Value} {e : Eff} (hx : RV m w x vx) (h : (entryEv real x).run me = some e) (hc : e.c) :
    ∃ v, (Instr.entry vx).run P w = .ok v w ∧ OkE m w me kb e.v e.puts v m w := by
  unfold entryEv at h
  split at h
  · rename_i k
    have h' := Look.run_look h
    clear h
    obtain ⟨ab, hit, h⟩ := h'
    split at h
    · rename_i j since seen last
      have h' := Look.run_look h
      clear h
      obtain ⟨ab, hab, h⟩ := h'
      split at h
      · rename_i T kk sh M
        have := Look.run_pure1 h; subst this
        obtain ⟨r, rm, es, rfl, g1, g2, g3, g4, g5, g6⟩ := it_val hb hit hab hx
        obtain ⟨c1, c2, c3, c4⟩ := hc
        rw [← ER_born g5] at c4
        obtain ⟨e0, e1, e2⟩ := List.mem_map.1 c4
        obtain ⟨jx, kd, d, q1, q2, q3⟩ := ER_back g5 e1
        have hat := MD.atB_of _ _ g6.2.1 q1
        have hs : seen.toArray = seen.dropLast.toArray.push e0.born := by
          rw [e2]
          have h9 := List.dropLast_concat_getLast c3
          have h10 : seen.getLastD 0 = seen.getLast c3 := by rw [List.getLastD_eq_getLast?, List.getLast?_eq_some_getLast c3]; rfl
          rw [h10, List.push_toArray, h9]
        have hr : w.heap[r]? = some (.mapIter (some rm) since (seen.dropLast.toArray.push e0.born) M.clock) := by rw [c2] at g2; rw [← hs, c1]; exact g2
        have hnd : (es.toList.map (·.born)).Nodup := by rw [ER_born g5]; exact g6.2.1
        refine ⟨_, run_entry_at w r rm since _ es M.clock e0 hr g4 (by simpa using e1) hnd, hb.same ?_⟩
        simp only [RV, RVs]
        refine ⟨[e0.key, e0.val], by simp, e0.key, _, rfl, ?_, e0.val, [], rfl, ?_, rfl⟩
        · have : real.mkeyB M (real.backN seen) = kd := by show MD.keyB M (seen.getLastD 0) = kd; unfold MD.keyB; rw [← e2, hat]; rfl
          rw [this]; exact KR_RV q2
        · have : real.mvalB M (real.backN seen) = d := by show MD.valB M (seen.getLastD 0) = d; unfold MD.valB; rw [← e2, hat]; rfl
          rw [this]; exact DV_RV q3
      · exact (Look.run_no h).elim
    · exact (Look.run_no h).elim
  · exact (Look.run_no h).elim
theorem next_run (hb : Base m w me kb) {ty k j since last T : Nat} {seen : List Nat} {kk : KK} {sh : Sh} {M : MD} {vx : Value} (hit : mlook me k = some (.it j since seen last)) (hab : mlook me j = some (.mp T kk sh M)) (hx : RV m w (.p k 0 0) vx) (hc : real.pRng M since last) :
    M.ok ∧ ((real.pNoLeft M seen ∧ (Instr.next vx false ty).run P w = .ok (.tuple #[.bool false]) w ∧ OkE m w me kb (.tup [.kb false]) [] (.tuple #[.bool false]) m w) ∨
      ∃ b v w', real.pLeft M seen b ∧ (Instr.next vx false ty).run P w = .ok v w' ∧ OkE m w me kb (.tup [.kb true, .u, .u]) [(k, .it j since (real.appN seen b) last)] v m w') := by
  obtain ⟨r, rm, es, rfl, g1, g2, g3, g4, g5, g6⟩ := it_val hb hit hab hx
  obtain ⟨c1, c2⟩ := hc
  refine ⟨g6, ?_⟩
  have hold : ∀ x ∈ es.toList, x.born < since := by
    intro x hx
    obtain ⟨jx, kd, d, q1, _⟩ := ER_back g5 hx
    have := g6.2.2 _ (List.mem_of_getElem? q1)
    simp only at this
    omega
  rcases run_next_at (P := P) w ty r rm since last seen.toArray es M.clock g2 g4 hold (by omega) with ⟨h1, h2⟩ | ⟨e, he, w1, hw1, hrun⟩
  · left
    refine ⟨?_, h2, hb.same ?_⟩
    · intro b hbm
      rw [← ER_born g5] at hbm
      obtain ⟨x, x1, rfl⟩ := List.mem_map.1 hbm
      by_cases hs : x.born ∈ seen
      · exact hs
      · exfalso
        have hx : x ∈ leftOf es seen.toArray := by
          unfold leftOf
          rw [Array.mem_filter]
          exact ⟨by simpa using x1, by simpa using hs⟩
        have := Array.size_pos_of_mem hx
        omega
    · simp only [RV, RVs]
      exact ⟨[.bool false], by simp, _, [], rfl, by simp [CR], rfl⟩
  · right
    have he' : e ∈ es ∧ e.born ∉ seen := by
      unfold leftOf at he
      simp only [Array.toList_filter, List.mem_filter] at he
      exact ⟨by simpa using he.1, by simpa using he.2⟩
    have hos : w1.os = w.os ∧ w1.tape = w.tape ∧ w1.output = w.output ∧ w1.heap = w.heap := by rcases hw1 with rfl | rfl <;> exact ⟨rfl, rfl, rfl, rfl⟩
    have hr1 : w1.heap[r]? = some (.mapIter (some rm) since seen.toArray last) := by rw [hos.2.2.2]; exact g2
    have hlt : r < w1.heap.size := (Array.getElem?_eq_some_iff.1 hr1).1
    refine ⟨e.born, _, _, ⟨?_, he'.2⟩, hrun, ?_⟩
    · rw [← ER_born g5]; exact List.mem_map.2 ⟨e, by simpa using he'.1, rfl⟩
    · have hset : (ChangeMaps.setBlock w1 r (.mapIter (some rm) since (seen.toArray.push e.born) M.clock)).heap = w.heap.setIfInBounds r (.mapIter (some rm) since (seen.toArray.push e.born) M.clock) := by
        rw [← hos.2.2.2]; rfl
      refine hb.write hit rfl g1 (g := r) rfl (by rw [hset]; simp) (fun b hne => by rw [hset]; exact Array.getElem?_setIfInBounds_ne (Ne.symm hne)) hos.1 hos.2.1 hos.2.2.1 ⟨r, rm, g1, g3, ?_⟩ ?_
      · rw [hset, Array.getElem?_setIfInBounds_self_of_lt (by rw [← hos.2.2.2]; exact hlt)]
        simp [real, c1, c2]
      · simp only [RV, RVs]
        exact ⟨[.bool true, e.key, e.val], by simp, _, _, rfl, by simp [CR], _, _, rfl, trivial, _, [], rfl, trivial, rfl⟩
end
end Go.Vc
set_option linter.unusedVariables false
set_option linter.unusedSimpArgs false
namespace Go.Vc
open Go Go.RowKit

/-- a function that can be entered -/
def Ready (P : Program) (f : Nat) : Prop := (P.funcs[f]?).map (fun fn => fn.body.isSome && !(fn.name == "runtime.NumGoroutine")) = some true
/-- the variables of the program's packages lie as in some world of its shape, and nothing turns them -/
def GInv (P : Program) (m : Hd) (w : World) : Prop := ∃ w0 : World, w0.ShapedOpen P ∧ ∀ g o, g < P.globals.size → w0.heap[g]? = some o → Stable m w g ∧ w.heap[g]? = some o
/-- a function's contract, as of an operation -/
def SpecOK (P : Program) (f : Nat) (sp : Spec) : Prop :=
  ∀ (m : Hd) (w : World) (me : Mem) (kb : Nat) (args : List AV) (vals : List Value) (e : Eff), GInv P m w → Base m w me kb → RVs m w args vals → (sp args kb).run me = some e → e.c →
    Calls P f vals.toArray w fun en w' => ∃ v, en = .returned v ∧ ∃ m', OkE m w me kb e.v e.puts v m' w'
def SpecsOK (P : Program) (sps : Specs) : Prop := ∀ p ∈ sps, Ready P p.1 ∧ SpecOK P p.1 p.2
theorem SpecsOK.look {P : Program} {sps : Specs} (h : SpecsOK P sps) {f : Nat} {s : Spec} (hl : splook sps f = some s) : Ready P f ∧ SpecOK P f s := by
  induction sps with
  | nil => simp [splook] at hl
  | cons a r ih =>
    obtain ⟨k, t⟩ := a
    simp only [splook] at hl
    split at hl
    · rename_i e
      have := Nat.eq_of_beq_eq_true e
      subst this; cases hl
      exact h (k, s) (by simp)
    · exact ih (fun p hp => h p (by simp [hp])) hl

section
variable {P : Program} {tt : TT} {sps : Specs} {m : Hd} {w : World} {me : Mem} {kb : Nat}
theorem OpRun.val {ρ : Operand → Value} {o : Oper} {s : Sem Value} {post : Value → World → Prop} {v : Value} {w' : World} (he : execOp ρ o = (do pure (.value (← s)))) (hr : s.run P w = .ok v w') (hp : post v w') :
    OpRun P ρ o w post := by
  unfold OpRun
  rw [he, Sem.run_bind, hr]
  exact hp
theorem OpRun.unit {ρ : Operand → Value} {o : Oper} {s : Sem Unit} {post : Value → World → Prop} {w' : World} (he : execOp ρ o = (do s; pure .skip)) (hr : s.run P w = .ok () w') (hp : post undef w') :
    OpRun P ρ o w post := by
  unfold OpRun
  rw [he, Sem.run_bind, hr]
  exact hp
theorem gets_sound {sl : List (Nat × AV)} {a : Act} (h : SlR m w sl a) : ∀ (l : List Operand), RVs m w (aop.gets real sl l) (l.map a.eval)
  | [] => by simp [aop.gets, RVs]
  | x :: r => by
    simp only [aop.gets, List.map_cons, RVs]
    exact ⟨_, _, rfl, oget_sound h x, gets_sound h r⟩
theorem parts_sound {sl : List (Nat × AV)} {a : Act} (h : SlR m w sl a) : ∀ (l : List (Nat × Operand)), PartsR m w (aop.parts real sl l) (l.map fun p => (p.1, a.eval p.2))
  | [] => by simp [aop.parts, PartsR]
  | (i, x) :: r => by
    simp only [aop.parts, List.map_cons, PartsR]
    exact ⟨trivial, oget_sound h x, parts_sound h r⟩
theorem optGet_sound {sl : List (Nat × AV)} {a : Act} (h : SlR m w sl a) (x : Option Operand) : OptR m w (aop.optGet real sl x) (x.map a.eval) := by
  cases x with
  | none => simp [aop.optGet, OptR]
  | some y => simp only [aop.optGet, Option.map_some, OptR]; exact oget_sound h y

theorem allOne_sound : ∀ {l : List AV} {vs : List Value}, aop.allOne l = true → (RVs m w l vs ↔ LR m w l vs)
  | [], vs, h => by simp [RVs, LR]
  | a :: r, vs, h => by
    simp only [aop.allOne] at h
    split at h
    · rename_i h1
      simp only [RVs, LR]
      constructor
      · rintro ⟨v, q, rfl, g1, g2⟩
        exact ⟨[v], q, rfl, (CR_of_RV h1 g1).1, (allOne_sound h).1 g2⟩
      · rintro ⟨c1, c2, rfl, g1, g2⟩
        obtain ⟨v, rfl⟩ := one_cell h1 g1
        exact ⟨v, c2, rfl, RV_of_CR h1 g1, (allOne_sound h).2 g2⟩
    · cases h
theorem lapp_sound : ∀ {l l' : List AV} {vs vs' : List Value}, RVs m w l vs → RVs m w l' vs' → RVs m w (aop.lapp l l') (vs ++ vs')
  | [], l', vs, vs', h, g => by simp only [RVs] at h; subst h; exact g
  | a :: r, l', vs, vs', h, g => by
    simp only [RVs] at h
    obtain ⟨v, q, rfl, h1, h2⟩ := h
    simp only [aop.lapp, RVs]
    exact ⟨v, q ++ vs', rfl, h1, lapp_sound h2 g⟩
theorem RVs_one {x : AV} {vals : List Value} (h : RVs m w [x] vals) : ∃ v, vals = [v] ∧ RV m w x v := by
  simp only [RVs] at h
  obtain ⟨v, r, rfl, h1, rfl⟩ := h
  exact ⟨v, rfl, h1⟩
theorem RVs_two {x y : AV} {vals : List Value} (h : RVs m w [x, y] vals) : ∃ v u, vals = [v, u] ∧ RV m w x v ∧ RV m w y u := by
  simp only [RVs] at h
  obtain ⟨v, r, rfl, h1, u, r2, rfl, h2, rfl⟩ := h
  exact ⟨v, u, rfl, h1, h2⟩

theorem bltin_sound (ht : TTok P tt) (hb : Base m w me kb) {b : Builtin} {tys : Array Nat} {ty : Nat} {consts : Array Bool} {args : List AV} {vals : List Value} {e : Eff} (ha : RVs m w args vals)
    (h : (builtinEv real tt kb b tys.toList args).run me = some e) (hc : e.c) :
    ∃ v m' w', (builtin b tys ty consts vals.toArray).run P w = .ok (.value v) w' ∧ OkE m w me kb e.v e.puts v m' w' := by
  generalize htl : tys.toList = tl at h
  have htys : tys = tl.toArray := by rw [← htl]
  subst htys
  unfold builtinEv at h
  split at h
  · rename_i T x
    obtain ⟨vx, rfl, hx⟩ := RVs_one ha
    have h' : (builtinEv real tt kb .len [T] [x]).run me = some e := by simp only [builtinEv]; exact h
    obtain ⟨v, h1, h2⟩ := len_sound (ty := ty) ht hb hx h'
    exact ⟨v, m, w, by simp [builtin, h1], h2⟩
  · rename_i T U s x
    obtain ⟨vs, vx, rfl, hs, hx⟩ := RVs_two ha
    split at h
    · rename_i e2 _ _ _ _ hl
      have hU : P.underlying U = some (.slice e2) := (ht.look hl).k
      obtain ⟨v, m', w', h1, h2⟩ := append_sound (ty := ty) ht hb hU (.inl ⟨_, rfl⟩) hs hx h hc
      exact ⟨v, m', w', by simp [builtin, h1], h2⟩
    · rename_i hl
      have hU : P.underlying U = some .string := (ht.look hl).k
      obtain ⟨v, m', w', h1, h2⟩ := append_sound (ty := ty) ht hb hU (.inr rfl) hs hx h hc
      exact ⟨v, m', w', by simp [builtin, h1], h2⟩
    · rename_i kq _ _ _ _ hl
      have hU : P.underlying U = some (.int kq) := (ht.look hl).k
      obtain ⟨v, m', w', h1, h2⟩ := appendZ_sound (ty := ty) ht hb hU hs hx h hc
      exact ⟨v, m', w', by simp [builtin, h1], h2⟩
    · exact (Look.run_no h).elim
  · rename_i T U s x
    obtain ⟨vs, vx, rfl, hs, hx⟩ := RVs_two ha
    obtain ⟨v, w', h1, h2⟩ := copy_sound (U := U) (ty := ty) ht hb hs hx h hc
    exact ⟨v, m, w', by simp [builtin, h1], h2⟩
  · rename_i T U x k
    obtain ⟨vx, vk, rfl, hx, hk⟩ := RVs_two ha
    obtain ⟨v, w', h1, h2⟩ := mapDel_sound (U := U) (ty := ty) ht hb hx hk h
    exact ⟨v, m, w', by simp [builtin, h1], h2⟩
  · rename_i T x
    obtain ⟨vx, rfl, hx⟩ := RVs_one ha
    obtain ⟨v, w', h1, h2⟩ := mapClear_sound (ty := ty) ht hb hx h
    exact ⟨v, m, w', by simp [builtin, h1], h2⟩
  · rename_i a b _ _
    obtain ⟨va, vb, rfl, h1, h2⟩ := RVs_two ha
    split at h
    · rename_i r hr
      have := Look.run_pure1 h; subst this
      obtain ⟨v, h3, h4⟩ := min2_sound (P := P) hr h1 h2
      exact ⟨v, m, w, by simp [builtin, Builtin.min_, h3], hb.same h4⟩
    · exact (Look.run_no h).elim
  · rename_i a b _ _
    obtain ⟨va, vb, rfl, h1, h2⟩ := RVs_two ha
    split at h
    · rename_i r hr
      have := Look.run_pure1 h; subst this
      obtain ⟨v, h3, h4⟩ := max2_sound (P := P) hr h1 h2
      exact ⟨v, m, w, by simp [builtin, Builtin.max_, h3], hb.same h4⟩
    · exact (Look.run_no h).elim
  · exact (Look.run_no h).elim

def isCst : Operand → Bool
  | .const _ => true
  | _ => false
theorem callFunc_run {f : Nat} (h : Ready P f) (args : Array Value) (w : World) : (callFunc f args).run P w = .ok (.enter f args) w := by
  unfold Ready at h
  cases hf : P.funcs[f]? with
  | none => simp [hf] at h
  | some fn =>
    rw [hf] at h
    simp only [Option.map_some, Option.some.injEq, Bool.and_eq_true, Bool.not_eq_true'] at h
    have hb : fn.body.isNone = false := by cases hq : fn.body <;> simp_all
    unfold callFunc
    simp only [Sem.run_bind, run_program, Result.andThen_ok, hf]
    rw [if_neg (by simp [h.2]), if_neg (by simp [hb])]
    rfl

theorem nonagg_guard {op : BinOp} {T : Nat} {x y : Operand} {a b : Value} (ha : ∀ c, a ≠ .agg c) (hn : a ≠ .nilIface) (w : World) : (eqGuard op T x y a b).run P w = .ok () w := by
  unfold eqGuard
  cases op <;> simp <;> split <;> first | rfl | (exfalso; first | exact hn rfl | exact ha _ rfl)
theorem binEv_no {op : BinOp} {x y : AV} {r : Prop × AV} (h : (match x with | .i _ => true | .w8 _ => true | .w16 _ => true | .w32 _ => true | .w64 _ => true | .s _ => true | _ => false) = false) (he : binEv real op x y = some r) : False := by
  unfold binEv at he
  split at he
  · split at he
    · cases he
    · split at he <;> first | (cases he; done) | (simp at h)
  · split at he
    · cases he
    · split at he <;> first | (cases he; done) | (simp at h)
  · unfold binEv2 at he
    split at he <;> first | (cases he; done) | (simp at h)
theorem binEv_shape {op : BinOp} {x y : AV} {r : Prop × AV} {vx : Value} (he : binEv real op x y = some r) (hx : RV m w x vx) : (∀ c, vx ≠ .agg c) ∧ vx ≠ .nilIface := by
  cases x <;> first
    | (exact (binEv_no rfl he).elim)
    | (simp only [RV, CR, List.cons.injEq, and_true] at hx; subst hx; exact ⟨fun c h => (by cases h), fun h => (by cases h)⟩)
theorem binop_sound (ht : TTok P tt) (hb : Base m w me kb) {op : BinOp} {T : Nat} {x y : AV} {vx vy : Value} {e : Eff} {ox oy : Operand} (hx : RV m w x vx) (hy : RV m w y vy)
    (h : (binopEv real tt op T x y).run me = some e) (hc : e.c) : ∃ v, (do eqGuard op T ox oy vx vy; binOp op T vx vy : Sem Value).run P w = .ok v w ∧ OkE m w me kb e.v e.puts v m w := by
  have hbool : ∀ a, vx = .bool a → (boolEq real tt op T a y).run me = some e → ∃ v, (do eqGuard op T ox oy vx vy; binOp op T vx vy : Sem Value).run P w = .ok v w ∧ OkE m w me kb e.v e.puts v m w := by
    rintro a rfl h
    unfold boolEq at h
    split at h
    · rename_i b _ _ _ _ hbo hl
      have hT : P.underlying T = some .bool := (ht.look hl).k
      have := isBool_sound hbo hy
      subst this
      split at h
      · have := Look.run_pure1 h; subst this
        refine ⟨.bool (a == b), ?_, hb.same (by simp [RV, CR, real])⟩
        rw [Sem.run_bind, nonagg_guard (by simp) (by simp)]
        exact run_eql_bool w T a b hT
      · have := Look.run_pure1 h; subst this
        refine ⟨.bool (!(a == b)), ?_, hb.same (by simp [RV, CR, real])⟩
        rw [Sem.run_bind, nonagg_guard (by simp) (by simp)]
        simp only [Result.andThen_ok, binOp]
        simp [run_equal_bool w T a b hT]
      · exact (Look.run_no h).elim
    · exact (Look.run_no h).elim
  unfold binopEv at h
  split at h
  · rename_i a
    simp only [RV, CR, List.cons.injEq, and_true] at hx
    exact hbool a hx h
  · rename_i a
    simp only [RV, CR, List.cons.injEq, and_true] at hx
    exact hbool a hx h
  · split at h
    · split at h
      · rename_i c b he
        have := Look.run_pure1 h; subst this
        obtain ⟨h1, h2, a, d, rfl, rfl⟩ := eq_sound ht he hx hy
        refine ⟨.bool b, ?_, hb.same (by simp [RV, CR])⟩
        rw [Sem.run_bind, run_eqGuard_agg w .eql T ox oy a d h2]
        simp only [Result.andThen_ok, binOp]
        simp [h1]
      · exact (Look.run_no h).elim
    · split at h
      · rename_i c b he
        have := Look.run_pure1 h; subst this
        obtain ⟨h1, h2, a, d, rfl, rfl⟩ := eq_sound ht he hx hy
        refine ⟨.bool (!b), ?_, hb.same (by simp [RV, CR, real])⟩
        rw [Sem.run_bind, run_eqGuard_agg w .neq T ox oy a d h2]
        simp only [Result.andThen_ok, binOp]
        simp [h1]
      · exact (Look.run_no h).elim
    · exact (Look.run_no h).elim
  · obtain ⟨c, v, he, rfl⟩ := oneEff_run h
    obtain ⟨v', h1, h2⟩ := binEv_sound (P := P) (T := T) he hc hx hy
    refine ⟨v', ?_, hb.same h2⟩
    have hshape : (∀ c, vx ≠ .agg c) ∧ vx ≠ .nilIface := by
      exact binEv_shape he hx
    rw [Sem.run_bind, nonagg_guard hshape.1 hshape.2]
    exact h1

theorem aop_sound (ht : TTok P tt) (hs : SpecsOK P sps) (hgi : GInv P m w) (hb : Base m w me kb) {sl : List (Nat × AV)} {a : Act} (hsl : SlR m w sl a) {o : Oper} {e : Eff} (h : (aop real tt sps sl kb o.op).run me = some e) (hc : e.c) :
    OpRun P a.eval o w fun v w' => ∃ m', OkE m w me kb e.v e.puts v m' w' := by
  obtain ⟨dst, op, type, pos, after, guard⟩ := o
  have G := oget_sound hsl
  unfold aop at h
  split at h
  · rename_i x hop
    (try simp only at hop); subst hop
    have := Look.run_pure1 h; subst this
    exact OpRun.val (s := pure (a.eval x)) rfl rfl ⟨m, hb.same (G x)⟩
  · rename_i x hop
    (try simp only at hop); subst hop
    have := Look.run_pure1 h; subst this
    exact OpRun.val (s := pure (a.eval x)) rfl rfl ⟨m, hb.same (G x)⟩
  · rename_i c x y hop
    (try simp only at hop); subst hop
    obtain ⟨b, h1, h2⟩ := pick_sound hb (G c) (G x) (G y) h
    unfold OpRun
    simp only [execOp, Sem.run_bind, h1, asBool, Sem.run_pure, Result.andThen_ok]
    exact ⟨m, h2⟩
  · rename_i T hop
    (try simp only at hop); subst hop
    obtain ⟨v, m', w', h1, h2⟩ := alloc_sound (P := P) ht hb h
    exact OpRun.val rfl h1 ⟨m', h2⟩
  · rename_i T x hop
    (try simp only at hop); subst hop
    obtain ⟨v, m', w', h1, h2⟩ := box_sound (P := P) ht hb (G x) h
    exact OpRun.val rfl h1 ⟨m', h2⟩
  · rename_i T ps hop
    (try simp only at hop); subst hop
    obtain ⟨v, h1, h2⟩ := build_sound (P := P) (vparts := ps.map fun (i, x) => (i, a.eval x)) ht hb (by simpa using parts_sound hsl ps.toList) h hc
    exact OpRun.val rfl h1 ⟨m, h2⟩
  · rename_i T n ps hop
    (try simp only at hop); subst hop
    obtain ⟨v, m', w', h1, h2⟩ := buildSlice_sound (P := P) (vparts := ps.map fun (i, x) => (i, a.eval x)) ht hb (by simpa using parts_sound hsl ps.toList) h
    exact OpRun.val rfl h1 ⟨m', h2⟩
  · rename_i T x hop
    (try simp only at hop); subst hop
    obtain ⟨v, h1, h2⟩ := load_sound (P := P) ht hb (G x) h hc
    exact OpRun.val rfl h1 ⟨m, h2⟩
  · rename_i T x y hop
    (try simp only at hop); subst hop
    obtain ⟨m', w', h1, h2⟩ := store_sound (P := P) ht hb (G x) (G y) h hc
    exact OpRun.unit rfl h1 ⟨m', h2⟩
  · rename_i x hop
    (try simp only at hop); subst hop
    have hx := G x
    split at h
    · rename_i k g o hq
      have := Look.run_pure1 h; subst this
      rw [hq] at hx
      have hx' := hx
      simp only [RV, CR] at hx'
      obtain ⟨gb, _, h2⟩ := hx'
      simp only [List.cons.injEq, and_true] at h2
      unfold OpRun
      simp only [execOp, h2, Sem.run_pure]
      rw [← h2]
      exact ⟨m, hb.same hx⟩
    · rename_i k g o e' i' hq
      have := Look.run_pure1 h; subst this
      rw [hq] at hx
      have hx' := hx
      simp only [RV, CR] at hx'
      obtain ⟨_, gb, _, _, h2⟩ := hx'
      simp only [List.cons.injEq, and_true] at h2
      unfold OpRun
      simp only [execOp, h2, Sem.run_pure]
      rw [← h2]
      exact ⟨m, hb.same hx⟩
    · rename_i b hq
      have := Look.run_pure1 h; subst this
      rw [hq] at hx
      have hx' := hx
      simp only [RV, CR] at hx'
      obtain ⟨ad, ds, h2, _⟩ := hx'
      simp only [List.cons.injEq, and_true] at h2
      unfold OpRun
      simp only [execOp, h2, Sem.run_pure]
      rw [← h2]
      exact ⟨m, hb.same hx⟩
    · rename_i k g o e' i' j' c' hq
      have := Look.run_pure1 h; subst this
      rw [hq] at hx
      have hx' := hx
      simp only [RV, CR] at hx'
      obtain ⟨_, gb, _, _, h2⟩ := hx'
      simp only [List.cons.injEq, and_true] at h2
      unfold OpRun
      simp only [execOp, h2, Sem.run_pure]
      rw [← h2]
      exact ⟨m, hb.same hx⟩
    · exact (Look.run_no h).elim
  · rename_i op T x y U hop
    (try simp only at hop); subst hop
    obtain ⟨v, h1, h2⟩ := binop_sound (P := P) (ox := x) (oy := y) ht hb (G x) (G y) h hc
    exact OpRun.val rfl h1 ⟨m, h2⟩
  · rename_i op T x hop
    (try simp only at hop); subst hop
    obtain ⟨c, v, he, rfl⟩ := oneEff_run h
    obtain ⟨v', h1, h2⟩ := unEv_sound (P := P) he (G x)
    exact OpRun.val rfl h1 ⟨m, hb.same h2⟩
  · rename_i src dst x hop
    (try simp only at hop); subst hop
    obtain ⟨v, m', w', h1, h2⟩ := conv_sound (P := P) ht hb (G x) h hc
    exact OpRun.val rfl h1 ⟨m', h2⟩
  · rename_i T n c hop
    (try simp only at hop); subst hop
    obtain ⟨v, m', w', h1, h2⟩ := makeSlice_sound (P := P) ht hb (G n) (G c) h hc
    exact OpRun.val rfl h1 ⟨m', h2⟩
  · rename_i T hop
    (try simp only at hop); subst hop
    obtain ⟨v, m', w', h1, h2⟩ := makeMap_sound (P := P) ht hb h
    exact OpRun.val rfl h1 ⟨m', h2⟩
  · rename_i T x k y hop
    (try simp only at hop); subst hop
    obtain ⟨m', w', h1, h2⟩ := mapSet_sound (P := P) ht hb (G x) (G k) (G y) h
    exact OpRun.unit rfl h1 ⟨m', h2⟩
  · rename_i T x k y hop
    (try simp only at hop); subst hop
    obtain ⟨m', w', h1, h2⟩ := mapSet_sound (P := P) ht hb (G x) (G k) (G y) h
    exact OpRun.unit rfl h1 ⟨m', h2⟩
  · rename_i T x k ok hop
    (try simp only at hop); subst hop
    obtain ⟨v, h1, h2⟩ := mapGet_sound (P := P) ht hb (G x) (G k) h
    exact OpRun.val rfl h1 ⟨m, h2⟩
  · rename_i T x hop
    (try simp only at hop); subst hop
    obtain ⟨v, m', w', h1, h2⟩ := range_sound (P := P) ht hb (G x) h
    exact OpRun.val rfl h1 ⟨m', h2⟩
  · rename_i x hop
    (try simp only at hop); subst hop
    obtain ⟨v, h1, h2⟩ := entry_sound (P := P) hb (G x) h hc
    exact OpRun.val rfl h1 ⟨m, h2⟩
  · rename_i T x lo hi mx hop
    (try simp only at hop); subst hop
    split at h
    · rename_i h00
      unfold aop.is00 at h00
      split at h00 <;> first | (cases h00; done) | skip
      obtain ⟨v, h1, h2⟩ := slice0_sound (P := P) ht hb (G x) h
      exact OpRun.val rfl h1 ⟨m, h2⟩
    · obtain ⟨v, h1, h2⟩ := slice_sound (P := P) ht hb (G x) (optGet_sound hsl lo) (optGet_sound hsl hi) (optGet_sound hsl mx) h hc
      exact OpRun.val rfl h1 ⟨m, h2⟩
  · rename_i T x f hop
    (try simp only at hop); subst hop
    obtain ⟨v, h1, h2⟩ := field_sound (P := P) ht hb (G x) h
    exact OpRun.val rfl h1 ⟨m, h2⟩
  · rename_i T x f hop
    (try simp only at hop); subst hop
    obtain ⟨v, h1, h2⟩ := fieldAddr_sound (P := P) ht hb (G x) h
    exact OpRun.val rfl h1 ⟨m, h2⟩
  · rename_i T x i hop
    (try simp only at hop); subst hop
    obtain ⟨v, h1, h2⟩ := idxAddr_sound (P := P) ht hb (G x) (G i) h hc
    exact OpRun.val rfl h1 ⟨m, h2⟩
  · rename_i T x i hop
    (try simp only at hop); subst hop
    obtain ⟨v, h1, h2⟩ := idx_sound (P := P) ht hb (G x) (G i) h hc
    exact OpRun.val rfl h1 ⟨m, h2⟩
  · rename_i x i hop
    (try simp only at hop); subst hop
    have hx := G x
    split at h
    · rename_i l hq
      split at h
      · rename_i hlt
        have := Look.run_pure1 h; subst this
        rw [hq] at hx
        simp only [RV] at hx
        obtain ⟨vs, h1, h2⟩ := hx
        have hget : ∀ (l : List AV) (vs : List Value) (i : Nat), RVs m w l vs → i < llen l → ∃ v, vs[i]? = some v ∧ RV m w (lget l i) v := by
          intro l
          induction l with
          | nil => intro vs i _ hi; simp [llen] at hi
          | cons b r ih =>
            intro vs i hv hi
            simp only [RVs] at hv
            obtain ⟨v, q, rfl, g1, g2⟩ := hv
            cases i with
            | zero => exact ⟨v, rfl, g1⟩
            | succ i => simpa [lget] using ih q i g2 (by simpa [llen] using hi)
        obtain ⟨v, g1, g2⟩ := hget l vs i h2 (by simp [Nat.blt] at hlt; omega)
        refine OpRun.val (v := v) (w' := w) rfl ?_ ⟨m, hb.same g2⟩
        simp [Instr.extract, h1, g1]
      · exact (Look.run_no h).elim
    · exact (Look.run_no h).elim
  · rename_i f first caps hop
    (try simp only at hop); subst hop
    split at h
    · rename_i hf
      split at h
      · rename_i h1
        have := Look.run_pure1 h; subst this
        have hfe : first.map a.eval = #[] := by
          have : first = #[] := by rw [← Array.toList_inj, hf]
          rw [this]; simp
        refine OpRun.val (v := .func (.func f) (first.map a.eval) (caps.map a.eval)) (w' := w) rfl rfl ⟨m, hb.same ?_⟩
        rw [hfe]
        simp only [RV, CR]
        exact ⟨caps.toList.map a.eval, by rw [← Array.toList_map, Array.toArray_toList], (allOne_sound h1).1 (gets_sound hsl caps.toList)⟩
      · exact (Look.run_no h).elim
    · exact (Look.run_no h).elim
  · rename_i b args tys hop
    (try simp only at hop); subst hop
    obtain ⟨v, m', w', h1, h2⟩ := bltin_sound (P := P) (ty := type) (consts := args.map isCst) ht hb (gets_sound hsl args.toList) h hc
    have key : execOp a.eval { dst := dst, op := Op.call { callee := .builtin b, args := args, argTypes := tys }, type := type, pos := pos, after := after, guard := guard } = builtin b tys type (args.map isCst) (args.map a.eval) := rfl
    have e1 : (args.toList.map a.eval).toArray = args.map a.eval := by rw [← Array.toList_map, Array.toArray_toList]
    rw [e1] at h1
    unfold OpRun
    rw [key, h1]
    exact ⟨m', h2⟩
  · rename_i f args tys hop
    (try simp only at hop); subst hop
    split at h
    · rename_i s hsp
      obtain ⟨hr, hok⟩ := hs.look hsp
      have hcall := hok m w me kb _ _ e hgi hb (gets_sound hsl args.toList) h hc
      have e1 : (args.toList.map a.eval).toArray = args.map a.eval := by rw [← Array.toList_map, Array.toArray_toList]
      rw [e1] at hcall
      have key : execOp a.eval { dst := dst, op := Op.call { callee := .value (.func f), args := args, argTypes := tys }, type := type, pos := pos, after := after, guard := guard } = callFunc f ((#[] ++ args.map a.eval) ++ #[]) := rfl
      unfold OpRun
      rw [key, callFunc_run hr, Array.append_empty, Array.empty_append]
      exact hcall
    · exact (Look.run_no h).elim
  · rename_i x args tys hnf hop
    (try simp only at hop); subst hop
    have hx := G x
    split at h
    · rename_i f caps hq
      rw [hq] at hx
      split at h
      · rename_i s hsp h1
        simp only [RV, CR, List.cons.injEq, and_true] at hx
        obtain ⟨vs, hv, hlr⟩ := hx
        obtain ⟨hr, hok⟩ := hs.look hsp
        have hcall := hok m w me kb _ _ e hgi hb (lapp_sound (gets_sound hsl args.toList) ((allOne_sound h1).2 hlr)) h hc
        have e1 : (args.toList.map a.eval ++ vs).toArray = args.map a.eval ++ vs.toArray := by
          rw [← Array.toList_inj]; simp
        rw [e1] at hcall
        have key : execOp a.eval { dst := dst, op := Op.call { callee := .value x, args := args, argTypes := tys }, type := type, pos := pos, after := after, guard := guard } = callFunc f ((#[] ++ args.map a.eval) ++ vs.toArray) := by
          show (do let d ← Deferred.ofValue (a.eval x) (args.map a.eval); invoke d.target d.args) = _
          rw [hv]; rfl
        unfold OpRun
        rw [key, callFunc_run hr, Array.empty_append]
        exact hcall
      · exact (Look.run_no h).elim
    · exact (Look.run_no h).elim
  · exact (Look.run_no h).elim
end
end Go.Vc
set_option linter.unusedVariables false
set_option linter.unusedSimpArgs false
namespace Go.Vc
open Go Go.RowKit

/-- the world against the one in which the call began: W: the blocks that may be written -/
structure Env where
  w0 : World
  W : List Nat
  ok : Nat → Prop
  keep : Option (Hd × World)
  pin : List (Nat × Value)
  pb : Nat → Prop
structure Fr (E : Env) (m : Hd) (w : World) : Prop where
  os : w.os = E.w0.os
  tape : w.tape = E.w0.tape
  output : w.output = E.w0.output
  size : E.w0.heap.size ≤ w.heap.size
  ok : m.ok = E.ok
  block : ∀ b, b < E.w0.heap.size → b ∉ E.W → w.heap[b]? = E.w0.heap[b]?
  own : ∀ k v b, m k = some v → blk v = some b → E.w0.heap.size ≤ b ∨ b ∈ E.W
  keep : ∀ m0 w1, E.keep = some (m0, w1) → Pres m0 w1 m w
  pin : ∀ j v, (j, v) ∈ E.pin → m j = some v
  pub : ∀ b, m.pub b → b < E.w0.heap.size → b ∉ E.W → E.pb b
  pubm : ∀ b, E.pb b → m.pub b
theorem Fr.step {E : Env} {m m' : Hd} {w w' : World} (h : Fr E m w) (t : Tr m w m' w') : Fr E m' w' := by
  refine ⟨t.os.trans h.os, t.tape.trans h.tape, t.output.trans h.output, Nat.le_trans h.size t.size, t.ok.trans h.ok, fun b hb hw => ?_, fun k v b hk hv => ?_, fun m0 w1 he => (h.keep m0 w1 he).trans t.pres, fun j v hj => t.mu j v (h.pin j v hj), fun b hb h1 h2 => ?_, fun b hb => t.pub b (h.pubm b hb)⟩
  · rw [t.old b (Nat.lt_of_lt_of_le hb h.size) (.inr fun k v hk hv => ?_), h.block b hb hw]
    rcases h.own k v b hk hv with h1 | h1
    · omega
    · exact hw h1
  · rcases t.own k v b hk hv with ⟨k0, v0, h1, h2⟩ | h1
    · exact h.own k0 v0 b h1 h2
    · exact .inl (Nat.le_trans h.size h1)
  · rcases t.pubn b hb with h3 | ⟨k, v, h3, h4⟩ | h3
    · exact h.pub b h3 h1 h2
    · rcases h.own k v b h3 h4 with h5 | h5
      · omega
      · exact absurd h5 h2
    · have := h.size; omega

/-- the call began where the packages' variables lay as they should, and may not write them -/
def GE (P : Program) (E : Env) : Prop := ∃ w0 : World, w0.ShapedOpen P ∧ ∀ g o, g < P.globals.size → w0.heap[g]? = some o → g < E.w0.heap.size ∧ g ∉ E.W ∧ E.ok g ∧ E.w0.heap[g]? = some o
theorem GE.inv {P : Program} {E : Env} {m : Hd} {w : World} (h : GE P E) (hf : Fr E m w) : GInv P m w := by
  obtain ⟨w0, hs, hg⟩ := h
  refine ⟨w0, hs, fun g o h1 h2 => ?_⟩
  obtain ⟨a, b, c, d⟩ := hg g o h1 h2
  refine ⟨⟨Nat.lt_of_lt_of_le a hf.size, by rw [hf.ok]; exact c, .inr fun k v hk hv => ?_⟩, by rw [hf.block g a b]; exact d⟩
  rcases hf.own k v g hk hv with h3 | h3
  · omega
  · exact b h3
theorem GInv.ge {P : Program} {m : Hd} {w : World} (h : GInv P m w) {E : Env} (e0 : E.w0 = w) (hok : ∀ b, Stable m w b → E.ok b) (hW : ∀ b, Stable m w b → b ∉ E.W) : GE P E := by
  obtain ⟨w0, hs, hg⟩ := h
  refine ⟨w0, hs, fun g o h1 h2 => ?_⟩
  obtain ⟨a, b⟩ := hg g o h1 h2
  rw [e0]
  exact ⟨a.1, hW g a, hok g a, b⟩

/-- memory's part of a state -/
structure StM (E : Env) (me : Mem) (nk : Nat) (m : Hd) (w : World) : Prop where
  mem : MemR m w me
  bd : Bd m w
  nk : ∀ k, nk ≤ k → m k = none
  fr : Fr E m w
/-- a call's contract, by what follows it -/
def KSpecOK (P : Program) (f : Nat) (ks : KSpec) : Prop :=
  ∀ (E : Env) (s : AS) (m : Hd) (w : World) (args : List AV) (vals : List Value) (K : AV → AS → Prop), GE P E → StM E s.me s.nk m w → RVs m w args vals → ks args s K →
    Calls P f vals.toArray w fun en w' => ∃ v, en = .returned v ∧ ∃ av s' m', K av s' ∧ RV m' w' av v ∧ StM E s'.me s'.nk m' w' ∧ Pres m w m' w'
def KSpecsOK (P : Program) (kss : List (Nat × KSpec)) : Prop := ∀ p ∈ kss, Ready P p.1 ∧ KSpecOK P p.1 p.2
theorem KSpecsOK.look {P : Program} {kss : List (Nat × KSpec)} (h : KSpecsOK P kss) {f : Nat} {s : KSpec} (hl : klook kss f = some s) : Ready P f ∧ KSpecOK P f s := by
  induction kss with
  | nil => simp [klook] at hl
  | cons a r ih =>
    obtain ⟨k, t⟩ := a
    simp only [klook] at hl
    split at hl
    · rename_i e
      have := Nat.eq_of_beq_eq_true e
      subst this; cases hl
      exact h (k, s) (by simp)
    · exact ih (fun p hp => h p (by simp [hp])) hl
structure XOK (P : Program) (x : Cx) : Prop where
  tt : TTok P x.tt
  sp : SpecsOK P x.sp
  ks : KSpecsOK P x.ks

structure StR (E : Env) (nt : Nat) (s : AS) (m : Hd) (a : Act) (w : World) : Prop where
  sl : SlR m w s.sl a
  mem : MemR m w s.me
  bd : Bd m w
  nk : ∀ k, s.nk ≤ k → m k = none
  tm : a.tmps.size = nt
  df : a.defers = []
  fr : Fr E m w

section
variable {P : Program} {E : Env} {x : Cx} {s : AS} {m : Hd} {a : Act} {w : World}

theorem SlR.put {sl : List (Nat × AV)} (h : SlR m w sl a) {d : Nat} {av : AV} {v : Value} (hd : d < a.tmps.size) (hv : RV m w av v) : SlR m w ((d, av) :: sl) (a.put (some d) v) := by
  intro t
  simp only [sget, Act.put]
  split
  · rename_i e
    have := beq_nat e; subst this
    simp [hd, hv]
  · rename_i e
    have hne : d ≠ t := fun h => by subst h; simp at e
    have := h t
    simpa [Array.getD_eq_getD_getElem?, Array.getElem?_setIfInBounds_ne hne] using this
theorem SlR.mono {m' : Hd} {w' : World} {sl : List (Nat × AV)} (h : SlR m w sl a) (hp : Pres m w m' w') : SlR m' w' sl a := fun t => RV_mono hp _ _ (h t)
theorem SlR.putU {sl : List (Nat × AV)} (h : SlR m w sl a) {d : Nat} : SlR m w ((d, .tup []) :: sl) (a.put (some d) undef) := by
  intro t
  simp only [sget, Act.put]
  split
  · rename_i e
    have := beq_nat e; subst this
    simp only [RV, RVs]
    refine ⟨[], ?_, rfl⟩
    by_cases hd : d < a.tmps.size
    · simp [hd, undef]
    · simp [Array.getElem?_eq_none (Nat.le_of_not_lt hd), undef]
  · rename_i e
    have hne : d ≠ t := fun h => by subst h; simp at e
    have := h t
    simpa [Array.getD_eq_getD_getElem?, Array.getElem?_setIfInBounds_ne hne] using this
theorem SlR.know {sl : List (Nat × AV)} (h : SlR m w sl a) {d : Nat} {av : AV} (hv : RV m w av (a.tmps.getD d undef)) : SlR m w ((d, av) :: sl) a := by
  intro t
  simp only [sget]
  split
  · rename_i e
    have := beq_nat e; subst this
    exact hv
  · exact h t

theorem StR.base (h : StR E x.nt s m a w) : Base m w s.me s.nk := ⟨h.mem, h.bd, fun k hk _ => h.nk k hk⟩
theorem put_size (a : Act) (d : Option Nat) (v : Value) : (a.put d v).tmps.size = a.tmps.size := by cases d <;> simp [Act.put]
theorem put_defers (a : Act) (d : Option Nat) (v : Value) : (a.put d v).defers = a.defers := by cases d <;> rfl
theorem StR.step (h : StR E x.nt s m a w) {dst : Option Nat} (hd : dstOk x.nt dst = true) {av : AV} {puts : Mem} {v : Value} {m' : Hd} {w' : World} (hk : OkE m w s.me s.nk av puts v m' w') :
    StR E x.nt (s.upd dst av puts) m' (a.put dst v) w' := by
  have hsl := h.sl.mono hk.tr.pres
  refine ⟨?_, ?_, hk.bd, fun k hk1 => ?_, ?_, ?_, h.fr.step hk.tr⟩
  · cases dst with
    | none => exact hsl
    | some d => exact hsl.put (by simp [dstOk, Nat.blt] at hd; rw [h.tm]; omega) hk.rv
  · cases dst <;> exact hk.mem
  · have hnk : (s.upd dst av puts).nk = s.nk + 8 := by cases dst <;> rfl
    cases hm : m' k with
    | none => rfl
    | some u =>
      exfalso
      rcases hk.keys k (by simp [hm]) with h1 | h1
      · exact h1 (h.nk k (by omega))
      · omega
  · rw [put_size]; exact h.tm
  · rw [put_defers]; exact h.df
theorem StR.skip (h : StR E x.nt s m a w) {dst : Option Nat} : StR E x.nt (s.putO dst (.tup [])) m (a.put dst undef) w := by
  refine ⟨?_, ?_, h.bd, ?_, ?_, ?_, h.fr⟩
  · cases dst with
    | none => exact h.sl
    | some d => exact h.sl.putU
  · cases dst <;> exact h.mem
  · cases dst <;> exact h.nk
  · rw [put_size]; exact h.tm
  · rw [put_defers]; exact h.df
theorem StR.know (h : StR E x.nt s m a w) {d : Nat} {av : AV} (hv : RV m w av (a.tmps.getD d undef)) : StR E x.nt (s.put d av) m a w :=
  ⟨h.sl.know hv, h.mem, h.bd, h.nk, h.tm, h.df, h.fr⟩

theorem nth_get {α : Type} : ∀ (l : List α) (i : Nat), nth l i = l[i]?
  | [], i => by simp [nth]
  | a :: r, 0 => rfl
  | a :: r, i + 1 => by simp [nth, nth_get r i]
theorem yielded_of {all : List Oper} {j dj : Nat} {oj : Oper} (h1 : nth all j = some oj) (h2 : oj.dst = some dj) : yielded all.toArray a.tmps j = (match a.tmps[dj]? with | some (.bool b) => some b | _ => none) := by
  rw [nth_get] at h1
  simp only [yielded, List.getElem?_toArray, h1, Option.bind_some, h2]
  rfl
theorem yielded_bool {all : List Oper} {j dj : Nat} {oj : Oper} (h1 : nth all j = some oj) (h2 : oj.dst = some dj) {b : Bool} (hv : a.tmps.getD dj undef = .bool b) : yielded all.toArray a.tmps j = some b := by
  rw [yielded_of h1 h2]
  rw [Array.getD_eq_getD_getElem?] at hv
  cases h : a.tmps[dj]? with
  | none => rw [h] at hv; simp [undef] at hv
  | some u => rw [h] at hv; simp at hv; subst hv; rfl
theorem yielded_undef {all : List Oper} {j dj : Nat} {oj : Oper} (h1 : nth all j = some oj) (h2 : oj.dst = some dj) (hv : a.tmps.getD dj undef = undef) : yielded all.toArray a.tmps j = none := by
  rw [yielded_of h1 h2]
  rw [Array.getD_eq_getD_getElem?] at hv
  cases h : a.tmps[dj]? with
  | none => rfl
  | some u => rw [h] at hv; simp at hv; subst hv; rfl

theorem StR.stM (h : StR E x.nt s m a w) : StM E s.me s.nk m w := ⟨h.mem, h.bd, h.nk, h.fr⟩
theorem StR.back (h : StR E x.nt s m a w) {dst : Option Nat} (hd : dstOk x.nt dst = true) {av : AV} {s' : AS} {v : Value} {m' : Hd} {w' : World} (hv : RV m' w' av v) (hs : StM E s'.me s'.nk m' w') (hp : Pres m w m' w') :
    StR E x.nt (s.ret dst av s') m' (a.put dst v) w' := by
  have hsl := h.sl.mono hp
  refine ⟨?_, ?_, hs.bd, ?_, ?_, ?_, hs.fr⟩
  · cases dst with
    | none => exact hsl
    | some d => exact hsl.put (by simp [dstOk, Nat.blt] at hd; rw [h.tm]; omega) hv
  · cases dst <;> exact hs.mem
  · cases dst <;> exact hs.nk
  · rw [put_size]; exact h.tm
  · rw [put_defers]; exact h.df

theorem kcall_run (hs : KSpecsOK P x.ks) (hE : GE P E) {o : Oper} {ks : KSpec} {args : List Operand} (hk : kcall x.ks o.op = some (ks, args)) (hr : StR E x.nt s m a w) {K : AV → AS → Prop} (h : ks (aop.gets real s.sl args) s K) :
    OpRun P a.eval o w fun v w' => ∃ av s' m', K av s' ∧ RV m' w' av v ∧ StM E s'.me s'.nk m' w' ∧ Pres m w m' w' := by
  obtain ⟨dst, op, type, pos, after, guard⟩ := o
  unfold kcall at hk
  split at hk
  · rename_i f args' tys hop
    simp only at hop; subst hop
    split at hk
    · rename_i k hl
      cases hk
      obtain ⟨hr1, hok⟩ := hs.look hl
      have hcall := hok E s m w _ _ K hE hr.stM (gets_sound hr.sl args'.toList) h
      have e1 : (args'.toList.map a.eval).toArray = args'.map a.eval := by rw [← Array.toList_map, Array.toArray_toList]
      rw [e1] at hcall
      have key : execOp a.eval { dst := dst, op := Op.call { callee := .value (.func f), args := args', argTypes := tys }, type := type, pos := pos, after := after, guard := guard } = callFunc f ((#[] ++ args'.map a.eval) ++ #[]) := rfl
      unfold OpRun
      rw [key, callFunc_run hr1, Array.append_empty, Array.empty_append]
      exact hcall
    · cases hk
  · cases hk

theorem acNil_of {c : AC} {e : Nat} (he : c.isE e = true) {cs : List Value} (h : RC m w c cs) (hl : cs.length = 0) : acNil c := by
  obtain ⟨h1, h2⟩ := isE_spec he
  have h3 := RC_len h1 h
  rw [hl] at h3
  have h4 : c.len real = 0 := by
    cases hq : c.len real with
    | zero => rfl
    | succ k =>
      rw [hq, Nat.succ_mul] at h3
      omega
  cases c <;> simp only [AC.len, real] at h4 <;> first
    | exact List.length_eq_zero_iff.1 h4
    | exact h4
    | (simp [AC.esz] at h1)
/-- comparing with nil -/
theorem run_eql_slice {T el : Nat} (w : World) (hT : P.underlying T = some (.slice el)) (ad : Option Addr) (n c : Nat) : (Op.equal T (.slice ad n c) (.slice none 0 0)).run P w = .ok ad.isNone w := by
  show (Op.equalIn (9999 + 1) T _ _).run P w = _
  unfold Op.equalIn
  simp only [Sem.run_bind, run_underlying hT, Result.andThen_ok]
  cases ad <;> rfl
theorem run_eql_ptr {T el : Nat} (w : World) (hT : P.underlying T = some (.pointer el)) (ad : Option Addr) : (Op.equal T (.pointer ad) (.pointer none)).run P w = .ok ad.isNone w := by
  show (Op.equalIn (9999 + 1) T _ _).run P w = _
  unfold Op.equalIn
  simp only [Sem.run_bind, run_underlying hT, Result.andThen_ok]
  cases ad <;> rfl
theorem nilB_RV (eq b : Bool) : RV m w (nilB real eq b) (.bool (if eq then b else !b)) := by cases eq <;> simp [nilB, RV, CR, real]
theorem knownB_RV (eq b : Bool) : RV m w (knownB eq b) (.bool (if eq then b else !b)) := by cases eq <;> cases b <;> simp [knownB, RV, CR]
def nilZ : Bool → Value
  | true => .slice none 0 0
  | false => .pointer none
theorem nilOp_run {o : Oper} {sl : Bool} {T : Nat} {eq : Bool} {y : Operand} (h : nilOp o.op = some (sl, T, eq, y)) (hv : (∃ ad n c, a.eval y = .slice ad n c) ∨ ∃ ad, a.eval y = .pointer ad)
    {b : Bool} (hb : (Op.equal T (a.eval y) (nilZ sl)).run P w = .ok b w) {Q : Value → World → Prop} (hQ : Q (.bool (if eq then b else !b)) w) : OpRun P a.eval o w Q := by
  obtain ⟨dst, op, type, pos, after, guard⟩ := o
  have hv1 : (∀ c, a.eval y ≠ .agg c) ∧ a.eval y ≠ .nilIface := by
    rcases hv with ⟨_, _, _, h1⟩ | ⟨_, h1⟩ <;> rw [h1] <;> exact ⟨fun c h => (by cases h), fun h => (by cases h)⟩
  have key : ((do eqGuard .eql T y (.const (nilZ sl)) (a.eval y) (nilZ sl); binOp .eql T (a.eval y) (nilZ sl) : Sem Value).run P w = .ok (.bool b) w) ∧ ((do eqGuard .neq T y (.const (nilZ sl)) (a.eval y) (nilZ sl); binOp .neq T (a.eval y) (nilZ sl) : Sem Value).run P w = .ok (.bool !b) w) := by
    rw [Sem.run_bind, nonagg_guard hv1.1 hv1.2, Sem.run_bind, nonagg_guard hv1.1 hv1.2]
    simp only [Result.andThen_ok]
    cases sl <;> simp only [nilZ] at hb ⊢ <;> rcases hv with ⟨ad, n, c, h1⟩ | ⟨ad, h1⟩ <;> rw [h1] at hb ⊢ <;> exact ⟨by simp [binOp, hb], by simp [binOp, hb]⟩
  unfold nilOp at h
  split at h <;> first | (cases h; done) | skip
  all_goals
    rename_i hop
    (try simp only at hop)
    subst hop
    cases h
    first
      | exact OpRun.val (v := .bool b) rfl key.1 (by simpa using hQ)
      | exact OpRun.val (v := .bool !b) rfl key.2 (by simpa using hQ)
theorem nilVc_sound (hx : XOK P x) (hr : StR E x.nt s m a w) {o : Oper} {sl : Bool} {T : Nat} {eq : Bool} {y : Operand} (h : nilOp o.op = some (sl, T, eq, y)) {K : AV → Prop} (hk : nilVc real x.tt sl T eq s.me (oget real s.sl y) K) :
    OpRun P a.eval o w fun v w' => ∃ av, K av ∧ OkE m w s.me s.nk av [] v m w' := by
  have hy := oget_sound hr.sl y
  have slc : ∀ el ad n c, P.underlying T = some (.slice el) → sl = true → a.eval y = .slice ad n c → ∀ av, K av → RV m w av (.bool (if eq then ad.isNone else !ad.isNone)) → OpRun P a.eval o w fun v w' => ∃ av, K av ∧ OkE m w s.me s.nk av [] v m w' := by
    intro el ad n c hT hs hv av hK hrv
    subst hs
    exact nilOp_run h (.inl ⟨ad, n, c, hv⟩) (by rw [hv]; exact run_eql_slice w hT ad n c) ⟨av, hK, hr.base.same hrv⟩
  have ptr : ∀ el ad, P.underlying T = some (.pointer el) → sl = false → a.eval y = .pointer ad → ∀ av, K av → RV m w av (.bool (if eq then ad.isNone else !ad.isNone)) → OpRun P a.eval o w fun v w' => ∃ av, K av ∧ OkE m w s.me s.nk av [] v m w' := by
    intro el ad hT hs hv av hK hrv
    subst hs
    exact nilOp_run h (.inr ⟨ad, hv⟩) (by rw [hv]; exact run_eql_ptr w hT ad) ⟨av, hK, hr.base.same hrv⟩
  unfold nilVc at hk
  split at hk
  · rename_i el _ _ _ _ hl
    have hT : P.underlying T = some (.slice el) := (hx.tt.look hl).k
    split at hk
    · exact hk.elim
    · split at hk
      · rename_i hq
        rw [hq] at hy
        simp only [RV, CR, List.cons.injEq, and_true] at hy
        exact slc el none 0 0 hT rfl hy _ hk (knownB_RV eq true)
      · rename_i hq
        rw [hq] at hy
        simp only [RV, CR, List.cons.injEq, and_true] at hy
        obtain ⟨ad, hy⟩ := hy
        exact slc el ad 0 0 hT rfl hy _ (hk ad.isNone) (nilB_RV eq _)
      · rename_i k g o' e i n hq
        rw [hq] at hy
        simp only [RV, CR, List.cons.injEq, and_true] at hy
        obtain ⟨v, ad, cap, _, hy, hn, hc, _⟩ := hy
        refine slc el ad n cap hT rfl hy _ (hk ad.isNone (fun hb => ?_)) (nilB_RV eq _)
        by_cases h0 : 0 < cap
        · obtain ⟨g', _, rfl⟩ := hc h0
          cases hb
        · omega
      · rename_i e c hq
        split at hk
        · rename_i hE
          rw [hq] at hy
          simp only [RV, CR, List.cons.injEq, and_true] at hy
          obtain ⟨ad, n, cap, ds, hy, h1, h2, h3, h4⟩ := hy
          refine slc el ad n cap hT rfl hy _ (hk ad.isNone (fun hb => ?_)) (nilB_RV eq _)
          by_cases h0 : 0 < n
          · obtain ⟨g', rfl, _⟩ := h4 h0
            cases hb
          · exact acNil_of hE h1 (by rw [h2, show n = 0 by omega]; simp)
        · exact hk.elim
      · rename_i k hq
        split at hk
        · rename_i T' e c hl2
          split at hk
          · rename_i hE
            rw [hq] at hy
            simp only [RV, CR, List.cons.injEq, and_true] at hy
            obtain ⟨v, hv, hy, _⟩ := hy
            obtain ⟨v', n, cs, h1, h2, h3⟩ := row_cells hr.mem hl2
            rw [hv] at h1; cases h1
            have hlen := h2.1
            rcases h2.2 with ⟨ad, rfl, _⟩ | ⟨g, o', cap, cur, fz, rfl, h5, h6, h7, h8, h9⟩
            · refine slc el ad 0 0 hT rfl hy _ (hk ad.isNone (fun hb => acNil_of hE h3 ?_)) (nilB_RV eq _)
              simp_all
            · exact slc el _ _ _ hT rfl hy _ (hk false (fun hb => by cases hb)) (nilB_RV eq _)
          · exact hk.elim
        · exact hk.elim
      · exact hk.elim
  · rename_i el _ _ _ _ hl
    have hT : P.underlying T = some (.pointer el) := (hx.tt.look hl).k
    split at hk
    · exact hk.elim
    · split at hk
      · rename_i hq
        rw [hq] at hy
        simp only [RV, CR, List.cons.injEq, and_true] at hy
        exact ptr el none hT rfl hy _ hk (knownB_RV eq true)
      · rename_i k g o' hq
        rw [hq] at hy
        simp only [RV, CR, List.cons.injEq, and_true] at hy
        obtain ⟨g', _, hy⟩ := hy
        exact ptr el _ hT rfl hy _ hk (knownB_RV eq false)
      · rename_i a' hq
        rw [hq] at hy
        simp only [RV, CR, List.cons.injEq, and_true] at hy
        obtain ⟨ad, ds, hy, _⟩ := hy
        exact ptr el _ hT rfl hy _ hk (knownB_RV eq false)
      · exact hk.elim
  · exact hk.elim
theorem nextVc_sound (hr : StR E x.nt s m a w) {o : Oper} {y : Operand} (h : nextOp o.op = some y) {K : AV → Mem → Prop} (hk : nextVc real s.me (oget real s.sl y) K) :
    OpRun P a.eval o w fun v w' => ∃ av puts, K av puts ∧ OkE m w s.me s.nk av puts v m w' := by
  have hy := oget_sound hr.sl y
  obtain ⟨dst, op, type, pos, after, guard⟩ := o
  unfold nextOp at h
  split at h <;> first | (cases h; done) | skip
  rename_i x0 hop
  simp only at hop
  subst hop
  cases h
  unfold nextVc at hk
  split at hk
  · rename_i k hq
    rw [hq] at hy
    split at hk
    · rename_i j since seen last hit
      split at hk
      · rename_i T kk sh M hab
        obtain ⟨hok, h1 | ⟨b, v, w', h1, h2, h3⟩⟩ := next_run (P := P) (ty := type) hr.base hit hab hy hk.1
        · exact OpRun.val rfl h1.2.1 ⟨_, _, hk.2.1 hok h1.1, h1.2.2⟩
        · exact OpRun.val rfl h2 ⟨_, _, hk.2.2 b hok h1, h3⟩
      · exact hk.elim
    · exact hk.elim
  · exact hk.elim
theorem opVc_sound (hx : XOK P x) (hE : GE P E) {o : Oper} {K : AS → Prop} (h : opVc real x o s K) (hr : StR E x.nt s m a w) {K' : Act → World → Prop} {Q : Exit → Act → World → Prop}
    (hK : ∀ s' m' a' w', StR E x.nt s' m' a' w' → K s' → K' a' w') : o.wp P a w K' Q := by
  unfold opVc at h
  split at h
  · rename_i hd
    split at h
    · rename_i ks args hks
      exact (kcall_run hx.ks hE hks hr h).wp fun v w' ⟨av, s', m', hk, hv, hm, hp⟩ => hK _ m' _ w' (hr.back hd hv hm hp) hk
    · split at h
      · rename_i sl T eq y hn
        exact (nilVc_sound hx hr hn h).wp fun v w' ⟨av, hk, ho⟩ => hK _ m _ w' (hr.step hd ho) hk
      · split at h
        · rename_i y hn
          exact (nextVc_sound hr hn h).wp fun v w' ⟨av, puts, hk, ho⟩ => hK _ m _ w' (hr.step hd ho) hk
        · split at h
          · rename_i e he
            exact (aop_sound hx.tt hx.sp (hE.inv hr.fr) hr.base hr.sl he h.1).wp fun v w' ⟨m', hk⟩ => hK _ m' _ w' (hr.step hd hk) h.2
          · exact h.elim
  · exact h.elim

theorem opsVc_sound (hx : XOK P x) (hE : GE P E) (mu : Bool) (all : List Oper) {Q : Exit → Act → World → Prop} : ∀ (l : List Oper) (s : AS) (m : Hd) (a : Act) (w : World) (K : AS → Prop), opsVc real x mu all l s K → StR E x.nt s m a w →
    (∀ s' m' a' w', StR E x.nt s' m' a' w' → K s' → Q .normal a' w') → wpList P all.toArray Q l a w
  | [], s, m, a, w, K, h, hr, hK => hK s m a w hr h
  | o :: r, s, m, a, w, K, h, hr, hK => by
    have exec : ∀ s1, Region.wanted o (yielded all.toArray a.tmps) = true → opVc real x o s1 (fun s' => opsVc real x mu all r s' K) → StR E x.nt s1 m a w → wpList P all.toArray Q (o :: r) a w := by
      intro s1 hw h1 hr1
      unfold wpList
      rw [if_pos hw]
      exact .inl (opVc_sound hx hE h1 hr1 fun s' m' a' w' hr' h' => opsVc_sound hx hE mu all r s' m' a' w' K h' hr' hK)
    have skip : ∀ s1, Region.wanted o (yielded all.toArray a.tmps) = false → opsVc real x mu all r (s1.putO o.dst (.tup [])) K → StR E x.nt s1 m a w → wpList P all.toArray Q (o :: r) a w := by
      intro s1 hw h1 hr1
      unfold wpList
      rw [if_neg (by simp [hw])]
      exact opsVc_sound hx hE mu all r _ m _ w K h1 hr1.skip hK
    unfold opsVc at h
    split at h
    · rename_i hg
      exact exec s (by simp [Region.wanted, hg]) h hr
    · rename_i j want hg
      have hwant : ∀ b, yielded all.toArray a.tmps j = some b → Region.wanted o (yielded all.toArray a.tmps) = (b == want) := by
        intro b hb; simp [Region.wanted, hg, hb]
      have hwant0 : yielded all.toArray a.tmps j = none → Region.wanted o (yielded all.toArray a.tmps) = false := by
        intro hb; simp [Region.wanted, hg, hb]
      split at h
      · exact h.elim
      · rename_i oj hj
        split at h
        · exact h.elim
        · rename_i dj hdj
          have hsl := hr.sl dj
          split at h
          · rename_i hq
            rw [hq] at hsl
            simp only [RV, CR, List.cons.injEq, and_true] at hsl
            have hy := hwant _ (yielded_bool hj hdj hsl)
            cases want with
            | true => exact exec s (by rw [hy]; rfl) h hr
            | false => exact skip s (by rw [hy]; rfl) h hr
          · rename_i hq
            rw [hq] at hsl
            simp only [RV, CR, List.cons.injEq, and_true] at hsl
            have hy := hwant _ (yielded_bool hj hdj hsl)
            cases want with
            | false => exact exec s (by rw [hy]; rfl) h hr
            | true => exact skip s (by rw [hy]; rfl) h hr
          · rename_i y hq
            rw [hq] at hsl
            simp only [RV, CR, List.cons.injEq, and_true] at hsl
            have hy := hwant _ (yielded_bool hj hdj hsl)
            have hkn : ∀ b, y = b → StR E x.nt (s.put dj (.kb b)) m a w := fun b hb => hr.know (by simp only [RV, CR]; rw [hsl, hb])
            cases mu with
            | true =>
              obtain ⟨hyt, h⟩ := h
              have hyt : y = true := by simpa [real] using hyt
              subst hyt
              cases want with
              | true => exact exec _ (by rw [hy]; rfl) h (hkn true rfl)
              | false => exact skip _ (by rw [hy]; rfl) h (hkn true rfl)
            | false =>
            cases want with
            | true =>
              cases y with
              | true => exact exec _ (by rw [hy]; rfl) (h.1.resolve_left (fun e => by simp [real] at e)) (hkn true rfl)
              | false => exact skip _ (by rw [hy]; rfl) (h.2.resolve_left (fun e => by simp [real] at e)) (hkn false rfl)
            | false =>
              cases y with
              | false => exact exec _ (by rw [hy]; rfl) (h.1.resolve_left (fun e => by simp [real] at e)) (hkn false rfl)
              | true => exact skip _ (by rw [hy]; rfl) (h.2.resolve_left (fun e => by simp [real] at e)) (hkn true rfl)
          · rename_i hq
            rw [hq] at hsl
            simp only [RV, RVs] at hsl
            obtain ⟨vs, h1, rfl⟩ := hsl
            exact skip s (hwant0 (yielded_undef hj hdj h1)) h hr
          · exact h.elim
end
end Go.Vc
set_option linter.unusedVariables false
set_option linter.unusedSimpArgs false
namespace Go.Vc
open Go Go.RowKit

/-! ## Regions whose order is drawn -/
def isTmp : Operand → Option Nat
  | .tmp t => some t
  | _ => none
def tmpsOf : List Operand → List Nat
  | [] => []
  | x :: r => match isTmp x with
    | some t => t :: tmpsOf r
    | none => tmpsOf r
def Oper.reads (o : Oper) : List Nat := tmpsOf o.op.operands.toList
def rdSl (sl : List (Nat × AV)) : List Nat → List (Nat × AV)
  | [] => []
  | t :: r => (t, sget sl t) :: rdSl sl r
/-- no look into memory -/
def opPure (tt : TT) : Op → Bool
  | .move _ => true
  | .assign _ => true
  | .pick _ _ _ => true
  | .binOp _ _ _ _ _ => true
  | .unOp _ _ _ => true
  | .extract _ _ => true
  | .build _ _ => true
  | .nilCheck _ => true
  | .fieldAddr _ _ _ => true
  | .field _ _ _ => true
  | .indexAddr T _ _ => match tlook tt T with
    | some ⟨.arr _ _, _, _, _, _⟩ => true
    | _ => false
  | _ => false
/-- may change what was there -/
def isMut : Op → Bool
  | .store _ _ _ => true
  | .mapUpdate _ _ _ _ => true
  | .insert _ _ _ _ => true
  | .call { callee := .builtin .delete, .. } => true
  | .call { callee := .builtin .clear, .. } => true
  | .call { callee := .builtin .copy, .. } => true
  | .call { callee := .builtin .append, args := args, .. } => match args.toList with
    | .const _ :: _ => false
    | _ => true
  | _ => false
/-- is it one of the names of this operation of the region; from 5000 on: one name of before the region -/
def dropHit (nk0 k j : Nat) : Bool :=
  if j < 5000 then match Nat.ble (nk0 + 8 * j) k with
    | true => Nat.blt k (nk0 + 8 * j + 8)
    | false => false
  else if k + 5000 < j then false
  else if j < k + 5000 then false
  else if k < nk0 then true
  else false
def inDrop (nk0 : Nat) (k : Nat) : List Nat → Bool
  | [] => false
  | j :: r => match dropHit nk0 k j with
    | true => true
    | false => inDrop nk0 k r
def noAbs : List Nat → Bool
  | [] => true
  | j :: r => match Nat.ble 5000 j with
    | true => false
    | false => noAbs r
def memDrop (nk0 : Nat) (ds : List Nat) : Mem → Mem
  | [] => []
  | (k, a) :: r => match inDrop nk0 k ds with
    | true => memDrop nk0 ds r
    | false => (k, a) :: memDrop nk0 ds r
def memBelow (nk : Nat) : Mem → Bool
  | [] => true
  | (k, _) :: r => match Nat.blt k nk with
    | true => memBelow nk r
    | false => false
/-- names of before the region, given away -/
def outOk (nk0 k : Nat) (ks : List Nat) : AB → Bool
  | .dead => match Nat.blt k nk0 with
    | true => lmem 4000 ks
    | false => false
  | _ => false
where
  lmem (k : Nat) : List Nat → Bool
    | [] => false
    | j :: r => match Nat.beq k j with
      | true => true
      | false => lmem k r
def putsOk (pu mu : Bool) (ks : List Nat) (nk0 nk : Nat) : Mem → Bool
  | [] => true
  | (k, a) :: r => match pu, mu, Nat.ble nk k, Nat.blt k (nk + 8), inDrop nk0 k ks with
    | false, true, _, true, _ => putsOk pu mu ks nk0 nk r
    | false, false, true, true, _ => putsOk pu mu ks nk0 nk r
    | false, false, false, true, true => putsOk pu mu ks nk0 nk r
    | false, false, false, true, false => match outOk nk0 k ks a with
      | true => putsOk pu mu ks nk0 nk r
      | false => false
    | _, _, _, _, _ => false
def dl : List (Nat × List Nat) → Nat → List Nat
  | [], _ => []
  | (k, a) :: r, t => match Nat.beq k t with
    | true => a
    | false => dl r t
/-- the names that an operation is not to look at; those that it may turn -/
abbrev Drops := List (Nat × List Nat) × List (Nat × List Nat)
def dlook (drs : Drops) (i : Nat) : List Nat := match drs with
  | (a, _) => dl a i
/-- of which operations of this region the names may be turned by this one -/
def kls (drs : Drops) (i : Nat) : List Nat := match drs with
  | (_, b) => dl b i
def isMutK (drs : Drops) (i : Nat) (op : Op) : Bool := match isMut op, kls drs i with
  | true, [] => true
  | false, [4001] => true
  | _, _ => false
/-- without what was given away -/
def memLive (ds : List Nat) : Mem → Mem
  | [] => []
  | (k, a) :: r => match a with
    | .dead => memLive (k :: ds) r
    | a => match outOk.lmem k ds with
      | true => memLive ds r
      | false => (k, a) :: memLive ds r
def dMem (tt : TT) (drs : Drops) (nk0 i : Nat) (op : Op) (me : Mem) : Mem :=
  match opPure tt op with
  | true => []
  | false => match dlook drs i with
    | [] => me
    | ds => memLive [] (memDrop nk0 ds me)
def dRun (F : Fs) (x : Cx) (drs : Drops) (nk0 i : Nat) (o : Oper) (s : AS) : Option Eff :=
  (aop F x.tt x.sp (rdSl s.sl (Oper.reads o)) s.nk o.op).run (dMem x.tt drs nk0 i o.op s.me)
def AS.skipD (s : AS) (dst : Option Nat) : AS := ⟨(s.putO dst (.tup [])).sl, s.me, s.nk + 8⟩
def dOp (F : Fs) (x : Cx) (drs : Drops) (nk0 i : Nat) (o : Oper) (s : AS) (K : AS → Prop) : Prop :=
  match dstOk x.nt o.dst with
  | true => match dRun F x drs nk0 i o s with
    | some e => match putsOk (opPure x.tt o.op) (isMutK drs i o.op) (kls drs i) nk0 s.nk e.puts with
      | true => e.c ∧ K (s.upd o.dst e.v e.puts)
      | false => False
    | none => False
  | false => False
def drawVc (F : Fs) (x : Cx) (mu : Bool) (drs : Drops) (nk0 : Nat) (all : List Oper) : Nat → List Oper → AS → (AS → Prop) → Prop
  | _, [], s, K => K s
  | i, o :: r, s, K => match o.guard with
    | none => dOp F x drs nk0 i o s fun s' => drawVc F x mu drs nk0 all (Nat.succ i) r s' K
    | some (j, want) => match nth all j with
      | none => False
      | some oj => match oj.dst with
        | none => False
        | some dj => match sget s.sl dj with
          | .kb true => match want with
            | true => dOp F x drs nk0 i o s fun s' => drawVc F x mu drs nk0 all (Nat.succ i) r s' K
            | false => drawVc F x mu drs nk0 all (Nat.succ i) r (s.skipD o.dst) K
          | .kb false => match want with
            | false => dOp F x drs nk0 i o s fun s' => drawVc F x mu drs nk0 all (Nat.succ i) r s' K
            | true => drawVc F x mu drs nk0 all (Nat.succ i) r (s.skipD o.dst) K
          | .b y => match mu with
            | true => F.pB y true ∧ (match want with
              | true => dOp F x drs nk0 i o (s.put dj (.kb true)) fun s' => drawVc F x mu drs nk0 all (Nat.succ i) r s' K
              | false => drawVc F x mu drs nk0 all (Nat.succ i) r ((s.put dj (.kb true)).skipD o.dst) K)
            | false => match want with
            | true => (F.pB y false ∨ dOp F x drs nk0 i o (s.put dj (.kb true)) fun s' => drawVc F x mu drs nk0 all (Nat.succ i) r s' K) ∧
                (F.pB y true ∨ drawVc F x mu drs nk0 all (Nat.succ i) r ((s.put dj (.kb false)).skipD o.dst) K)
            | false => (F.pB y true ∨ dOp F x drs nk0 i o (s.put dj (.kb false)) fun s' => drawVc F x mu drs nk0 all (Nat.succ i) r s' K) ∧
                (F.pB y false ∨ drawVc F x mu drs nk0 all (Nat.succ i) r ((s.put dj (.kb true)).skipD o.dst) K)
          | .tup [] => drawVc F x mu drs nk0 all (Nat.succ i) r (s.skipD o.dst) K
          | _ => False

/-! ## What of a region can be seen without running it -/
def bmask (B : List Nat) (o : Oper) : Nat := o.after.toList.foldl (fun s e => if Region.binds .any e then s ||| 2 ^ e.on ||| B.getD e.on 0 else s) 0
def gslot (all : List Oper) (o : Oper) : List Nat := match o.guard with
  | none => []
  | some (j, _) => match all[j]? with
    | some oj => oj.dst.toList
    | none => []
def comp (B : List Nat) (i j : Nat) : Bool := (B.getD i 0).testBit j || (B.getD j 0).testBit i
/-- an operation behind all the others -/
def lastOk (tt : TT) (ops : List Oper) (B : List Nat) (i : Nat) : Bool := (List.range ops.length).all fun j => j == i || match ops[j]? with
  | none => true
  | some q => opPure tt q.op || (B.getD i 0).testBit j
/-- everything that hangs on the ways of ordering alone -/
def drawOk (tt : TT) (drs : Drops) (ops : List Oper) : Bool :=
  let B := (Region.before ops.toArray).toList
  decide (ops.length ≤ 4000) && (List.range ops.length).all fun i => match ops[i]? with
    | none => true
    | some o => (o.after.toList.all fun e => !Region.binds .any e || e.on < i) && (B.getD i 0 == bmask B o) &&
      (match o.guard with
        | none => true
        | some (j, _) => (B.getD i 0).testBit j) &&
      (!(kls drs i).contains 4000 || noAbs (kls drs i)) &&
      (List.range ops.length).all fun j => match ops[j]? with
        | none => true
        | some q => j == i || (
          (match q.dst with
            | none => true
            | some d => (!(Oper.reads o).contains d || comp B i j) && !(o.dst == some d)) &&
          (opPure tt o.op || !isMutK drs j q.op || comp B i j) &&
          (opPure tt o.op || opPure tt q.op || !(j < i) || (B.getD i 0).testBit j || (dlook drs i).contains j) &&
          (opPure tt o.op || opPure tt q.op || comp B i j || (kls drs j).all fun k => k == 4000 || (dlook drs i).contains k && !(i == k) && !(kls drs i).contains k) &&
          (!(kls drs j).contains 4000 || (noAbs (kls drs i) && (!isMutK drs i o.op || lastOk tt ops B i) && (opPure tt o.op || opPure tt q.op || comp B i j || decide (j < i)))))
abbrev DrawT := List (Nat × Drops)
def drlook : DrawT → Nat → Drops
  | [], _ => ([], [])
  | (k, a) :: r, t => match Nat.beq k t with
    | true => a
    | false => drlook r t
def drawsOk (tt : TT) (dr : DrawT) : Code → Bool
  | .region id ops true => drawOk tt (drlook dr id) ops.toList
  | .seq a b => drawsOk tt dr a && drawsOk tt dr b
  | .block _ b => drawsOk tt dr b
  | .cond _ a b => drawsOk tt dr a && drawsOk tt dr b
  | .loop b => drawsOk tt dr b
  | _ => true

structure DStat (tt : TT) (drs : Drops) (ops : List Oper) (B : List Nat) : Prop where
  on : ∀ i o e, ops[i]? = some o → e ∈ o.after → Region.binds .any e = true → e.on < i
  msk : ∀ i o, ops[i]? = some o → B.getD i 0 = bmask B o
  gd : ∀ i o j b, ops[i]? = some o → o.guard = some (j, b) → (B.getD i 0).testBit j = true
  rd : ∀ (i : Nat) (o : Oper) (j : Nat) (q : Oper) (d : Nat), ops[i]? = some o → ops[j]? = some q → j ≠ i → q.dst = some d → d ∈ Oper.reads o → comp B i j = true
  ds : ∀ (i : Nat) (o : Oper) (j : Nat) (q : Oper) (d : Nat), ops[i]? = some o → ops[j]? = some q → j ≠ i → q.dst = some d → o.dst ≠ some d
  mt : ∀ i o j q, ops[i]? = some o → ops[j]? = some q → j ≠ i → opPure tt o.op = false → isMutK drs j q.op = true → comp B i j = true
  dr : ∀ i o j q, ops[i]? = some o → ops[j]? = some q → j < i → opPure tt o.op = false → opPure tt q.op = false → (B.getD i 0).testBit j = true ∨ j ∈ dlook drs i
  kl : ∀ i o j q k, ops[i]? = some o → ops[j]? = some q → j ≠ i → opPure tt o.op = false → opPure tt q.op = false → k ∈ kls drs j → comp B i j = true ∨ k = 4000 ∨ (k ∈ dlook drs i ∧ i ≠ k ∧ k ∉ kls drs i)
  len : ops.length ≤ 4000
  na : ∀ i o, ops[i]? = some o → 4000 ∈ kls drs i → noAbs (kls drs i) = true
  ko : ∀ i o j q, ops[i]? = some o → ops[j]? = some q → j ≠ i → 4000 ∈ kls drs j → noAbs (kls drs i) = true ∧ (isMutK drs i o.op = false ∨ ∀ i' o', ops[i']? = some o' → i' ≠ i → opPure tt o'.op = false → (B.getD i 0).testBit i' = true) ∧ (opPure tt o.op = false → opPure tt q.op = false → comp B i j = true ∨ j < i)
theorem drawOk_spec {tt : TT} {drs : Drops} {ops : List Oper} (h : drawOk tt drs ops = true) : DStat tt drs ops (Region.before ops.toArray).toList := by
  unfold drawOk at h
  rw [Bool.and_eq_true, decide_eq_true_eq] at h
  obtain ⟨hlen, h⟩ := h
  simp only [List.all_eq_true, List.mem_range] at h
  have key : ∀ i o, ops[i]? = some o → i < ops.length := fun i o h => (List.getElem?_eq_some_iff.1 h).1
  have h1 : ∀ i o, ops[i]? = some o → _ := fun i o ho => by have := h i (key i o ho); rw [ho] at this; exact this
  refine ⟨fun i o e ho he hb => ?_, fun i o ho => ?_, fun i o j b ho hg => ?_, fun i o j q d ho hq hne hd hr => ?_, fun i o j q d ho hq hne hd hr => ?_, fun i o j q ho hq hne hp hm => ?_, fun i o j q ho hq hlt hp hpq => ?_, fun i o j q k ho hq hne hp hpq hk => ?_, hlen, fun i o ho hk => ?_, fun i o j q ho hq hne hk => ?_⟩
  · have := h1 i o ho
    simp only [Bool.and_eq_true, List.all_eq_true] at this
    have := this.1.1.1.1 e (by simpa using he)
    simpa [hb] using this
  · have := h1 i o ho
    simp only [Bool.and_eq_true, List.all_eq_true] at this
    simpa using this.1.1.1.2
  · have := h1 i o ho
    simp only [Bool.and_eq_true, List.all_eq_true, hg] at this
    exact this.1.1.2
  rotate_left 5
  · have := h1 i o ho
    simp only [Bool.and_eq_true, Bool.or_eq_true, Bool.not_eq_true', List.contains_eq_mem, decide_eq_true hk] at this
    have := this.1.2
    simpa using this
  rotate_left 1
  all_goals
    have := h1 i o ho
    simp only [Bool.and_eq_true, List.all_eq_true] at this
    have := this.2 j (by rw [List.mem_range]; exact key j q hq)
    rw [hq] at this
    simp only [Bool.or_eq_true, beq_iff_eq, Bool.and_eq_true] at this
  · have := ((this.resolve_left hne).1.1.1.1)
    rw [hd] at this
    simp only [Bool.and_eq_true, Bool.or_eq_true, Bool.not_eq_true', List.contains_eq_mem, decide_eq_false_iff_not] at this
    exact this.1.resolve_left (fun h => h hr)
  · have := ((this.resolve_left hne).1.1.1.1)
    rw [hd] at this
    simp only [Bool.and_eq_true, Bool.or_eq_true, Bool.not_eq_true', beq_eq_false_iff_ne] at this
    exact this.2 hr
  · have := ((this.resolve_left hne).1.1.1.2)
    simpa [hp, hm] using this
  · have := ((this.resolve_left (by omega)).1.1.2)
    simpa [hp, hpq, hlt] using this
  · have := ((this.resolve_left hne).1.2)
    simp only [hp, hpq, Bool.false_eq_true, false_or, Bool.or_eq_true, beq_iff_eq, List.all_eq_true, Bool.and_eq_true, List.contains_eq_mem, decide_eq_true_eq, Bool.not_eq_true', beq_eq_false_iff_ne, decide_eq_false_iff_not] at this
    rcases this with h | h
    · exact .inl h
    · rcases h k hk with h | h
      · exact .inr (.inl h)
      · exact .inr (.inr ⟨h.1.1, h.1.2, h.2⟩)
  · have := ((this.resolve_left hne).2)
    simp only [List.contains_eq_mem, decide_eq_true hk, Bool.not_true, Bool.false_eq_true, false_or, Bool.and_eq_true, Bool.not_eq_true', Bool.or_eq_true, decide_eq_true_eq] at this
    refine ⟨this.1.1, this.1.2.imp_right fun hl i' o' h1 h2 h3 => ?_, fun hp hpq => ?_⟩
    · unfold lastOk at hl
      rw [List.all_eq_true] at hl
      have := hl i' (List.mem_range.2 (List.getElem?_eq_some_iff.1 h1).1)
      rw [h1] at this
      simp only [Bool.or_eq_true, beq_iff_eq, h3, Bool.false_eq_true, false_or] at this
      exact this.resolve_left h2
    rcases this.2 with ((h | h) | h) | h
    · rw [hp] at h; cases h
    · rw [hpq] at h; cases h
    · exact .inl h
    · exact .inr h
end Go.Vc
set_option linter.unusedVariables false
set_option linter.unusedSimpArgs false
namespace Go.Vc
open Go Go.RowKit

/-! ## What the text's order gives -/
inductive Gd (ops : List Oper) (o : Oper) (s : AS) : AS → Bool → Prop
  | no : o.guard = none → Gd ops o s s true
  | kb (j : Nat) (want : Bool) (oj : Oper) (dj : Nat) (y : Bool) : o.guard = some (j, want) → ops[j]? = some oj → oj.dst = some dj → sget s.sl dj = .kb y → Gd ops o s s (y == want)
  | b (j : Nat) (want : Bool) (oj : Oper) (dj : Nat) (y : Bool) : o.guard = some (j, want) → ops[j]? = some oj → oj.dst = some dj → sget s.sl dj = .b y → Gd ops o s (s.put dj (.kb y)) (y == want)
  | un (j : Nat) (want : Bool) (oj : Oper) (dj : Nat) : o.guard = some (j, want) → ops[j]? = some oj → oj.dst = some dj → sget s.sl dj = .tup [] → Gd ops o s s false
def StepOK (x : Cx) (drs : Drops) (nk0 : Nat) (ops : List Oper) (i : Nat) (o : Oper) (s : AS) (r : Option Eff) (s2 : AS) : Prop :=
  ∃ s' b, Gd ops o s s' b ∧ match r with
    | some e => b = true ∧ dstOk x.nt o.dst = true ∧ dRun real x drs nk0 i o s' = some e ∧ e.c ∧ putsOk (opPure x.tt o.op) (isMutK drs i o.op) (kls drs i) nk0 s'.nk e.puts = true ∧ s2 = s'.upd o.dst e.v e.puts
    | none => b = false ∧ s2 = s'.skipD o.dst
theorem dOp_spec {x : Cx} {drs : Drops} {nk0 i : Nat} {o : Oper} {s : AS} {K : AS → Prop} (h : dOp real x drs nk0 i o s K) :
    ∃ e, dstOk x.nt o.dst = true ∧ dRun real x drs nk0 i o s = some e ∧ e.c ∧ putsOk (opPure x.tt o.op) (isMutK drs i o.op) (kls drs i) nk0 s.nk e.puts = true ∧ K (s.upd o.dst e.v e.puts) := by
  unfold dOp at h
  split at h
  · rename_i hd
    split at h
    · rename_i e he
      split at h
      · rename_i hp
        exact ⟨e, hd, he, h.1, hp, h.2⟩
      · exact h.elim
    · exact h.elim
  · exact h.elim
def HasTr (x : Cx) (drs : Drops) (nk0 : Nat) (ops l : List Oper) (i : Nat) (s : AS) (K : AS → Prop) : Prop :=
  ∃ (st : Nat → AS) (res : Nat → Option Eff), st i = s ∧ (∀ n o, l[n]? = some o → StepOK x drs nk0 ops (i + n) o (st (i + n)) (res (i + n)) (st (i + n + 1))) ∧ K (st (i + l.length))
theorem drawVc_trace {x : Cx} {mu : Bool} {drs : Drops} {nk0 : Nat} {ops : List Oper} : ∀ (l : List Oper) (i : Nat) (s : AS) (K : AS → Prop), drawVc real x mu drs nk0 ops i l s K → HasTr x drs nk0 ops l i s K
  | [], i, s, K, h => ⟨fun _ => s, fun _ => none, rfl, fun n o hn => by simp at hn, h⟩
  | o :: r, i, s, K, h => by
    have fin : ∀ s2 r0, StepOK x drs nk0 ops i o s r0 s2 → drawVc real x mu drs nk0 ops (i + 1) r s2 K → HasTr x drs nk0 ops (o :: r) i s K := by
      intro s2 r0 hs hd
      obtain ⟨st, res, h1, h2, h3⟩ := drawVc_trace r (i + 1) s2 K hd
      refine ⟨fun n => if n ≤ i then s else st n, fun n => if n ≤ i then r0 else res n, by simp, fun n q hn => ?_, ?_⟩
      · cases n with
        | zero =>
          simp only [List.getElem?_cons_zero, Option.some.injEq] at hn
          subst hn
          have e1 : ¬ (i + 0 + 1 ≤ i) := by omega
          simp only [Nat.add_zero, Nat.le_refl, if_true, if_neg e1]
          rw [h1]; exact hs
        | succ n =>
          have := h2 n q (by simpa using hn)
          have e0 : i + (n + 1) = i + 1 + n := by omega
          simp only [e0]
          rw [if_neg (by omega), if_neg (by omega), if_neg (by omega)]
          exact this
      · have e0 : i + (o :: r).length = i + 1 + r.length := by simp; omega
        rw [e0]
        show K (if _ then _ else _)
        rw [if_neg (by omega)]
        exact h3
    have exec : ∀ s1, Gd ops o s s1 true → dOp real x drs nk0 i o s1 (fun s' => drawVc real x mu drs nk0 ops (i + 1) r s' K) → HasTr x drs nk0 ops (o :: r) i s K := fun s1 hg h1 => by
      obtain ⟨e, g1, g2, g3, g4, g5⟩ := dOp_spec h1
      exact fin _ (some e) ⟨s1, true, hg, rfl, g1, g2, g3, g4, rfl⟩ g5
    have skip : ∀ s1, Gd ops o s s1 false → drawVc real x mu drs nk0 ops (i + 1) r (s1.skipD o.dst) K → HasTr x drs nk0 ops (o :: r) i s K := fun s1 hg h1 =>
      fin _ none ⟨s1, false, hg, rfl, rfl⟩ h1
    unfold drawVc at h
    split at h
    · rename_i hg
      exact exec s (.no hg) h
    · rename_i j want hg
      split at h
      · exact h.elim
      · rename_i oj hj
        rw [nth_get] at hj
        split at h
        · exact h.elim
        · rename_i dj hdj
          split at h
          · rename_i hq
            have := Gd.kb (s := s) j want oj dj true hg hj hdj hq
            cases want with
            | true => exact exec s this h
            | false => exact skip s this h
          · rename_i hq
            have := Gd.kb (s := s) j want oj dj false hg hj hdj hq
            cases want with
            | true => exact skip s this h
            | false => exact exec s this h
          · rename_i y hq
            have := Gd.b (s := s) j want oj dj y hg hj hdj hq
            cases mu with
            | true =>
              obtain ⟨hyt, h⟩ := h
              have hyt : y = true := by simpa [real] using hyt
              subst hyt
              cases want with
              | true => exact exec _ this h
              | false => exact skip _ this h
            | false =>
            cases want with
            | true =>
              cases y with
              | true => exact exec _ this (h.1.resolve_left (fun e => by simp [real] at e))
              | false => exact skip _ this (h.2.resolve_left (fun e => by simp [real] at e))
            | false =>
              cases y with
              | false => exact exec _ this (h.1.resolve_left (fun e => by simp [real] at e))
              | true => exact skip _ this (h.2.resolve_left (fun e => by simp [real] at e))
          · rename_i hq
            exact skip s (.un j want oj dj hg hj hdj hq) h
          · exact h.elim

/-! ## Memory, by who has written -/
def look (res : Nat → Option Eff) (me : Mem) (p : Nat → Bool) : Nat → Nat → Option AB
  | 0, k => mlook me k
  | i + 1, k => match p i, res i with
    | true, some e => match mlook e.puts k with
      | some ab => some ab
      | none => look res me p i k
    | _, _ => look res me p i k
theorem mlook_mputs : ∀ (p me : Mem) (k : Nat), mlook (mputs p me) k = match mlook p k with
    | some ab => some ab
    | none => mlook me k
  | [], me, k => rfl
  | (t, a) :: r, me, k => by
    simp only [mputs]
    rw [mlook_cons, mlook_cons]
    split
    · rfl
    · exact mlook_mputs r me k
theorem look_congr {res : Nat → Option Eff} {me : Mem} {p q : Nat → Bool} {k : Nat} : ∀ (n : Nat), (∀ i e, i < n → res i = some e → mlook e.puts k ≠ none → p i = q i) → look res me p n k = look res me q n k
  | 0, _ => rfl
  | n + 1, h => by
    have ih := look_congr (me := me) n (fun i e hi => h i e (by omega))
    simp only [look]
    cases hr : res n with
    | none => cases p n <;> cases q n <;> exact ih
    | some e =>
      cases hm : mlook e.puts k with
      | none => cases p n <;> cases q n <;> simp [hm, ih]
      | some ab =>
        rw [h n e (by omega) hr (by simp [hm])]
        cases q n
        · exact ih
        · simp [hm]
theorem look_up {res : Nat → Option Eff} {me : Mem} {p : Nat → Bool} {k i : Nat} : ∀ (n : Nat), i ≤ n → (∀ j, j < n → p j = true → j < i ∨ ∀ e, res j = some e → mlook e.puts k = none) → look res me p n k = look res me p i k
  | 0, hi, _ => by rw [show i = 0 by omega]
  | n + 1, hi, h => by
    by_cases e : i = n + 1
    · rw [e]
    · rw [← look_up n (by omega) (fun j hj => h j (by omega))]
      simp only [look]
      cases hp : p n with
      | false => rfl
      | true =>
        rcases h n (by omega) hp with h1 | h1
        · omega
        · cases hr : res n with
          | none => rfl
          | some e => simp [h1 e hr]
theorem look_src {res : Nat → Option Eff} {me : Mem} {p : Nat → Bool} {k : Nat} {ab : AB} : ∀ (n : Nat), look res me p n k = some ab → mlook me k = some ab ∨ ∃ j e, j < n ∧ p j = true ∧ res j = some e ∧ mlook e.puts k ≠ none
  | 0, h => .inl h
  | n + 1, h => by
    simp only [look] at h
    split at h
    · rename_i e hp hr
      split at h
      · rename_i ab' hm
        exact .inr ⟨n, e, by omega, hp, hr, by simp [hm]⟩
      · rcases look_src n h with h1 | ⟨j, e', h1, h2⟩
        · exact .inl h1
        · exact .inr ⟨j, e', by omega, h2⟩
    · rcases look_src n h with h1 | ⟨j, e', h1, h2⟩
      · exact .inl h1
      · exact .inr ⟨j, e', by omega, h2⟩
theorem outOk_spec {nk0 k : Nat} {ks : List Nat} {a : AB} (h : outOk nk0 k ks a = true) : k < nk0 ∧ a = .dead ∧ 4000 ∈ ks := by
  have hm : ∀ {l : List Nat}, outOk.lmem 4000 l = true → 4000 ∈ l := by
    intro l
    induction l with
    | nil => intro h; simp [outOk.lmem] at h
    | cons j r ih =>
      intro h
      simp only [outOk.lmem] at h
      split at h
      · rename_i e; rw [beq_nat e]; exact List.mem_cons_self
      · exact List.mem_cons_of_mem _ (ih h)
  unfold outOk at h
  split at h
  · split at h
    · rename_i h1
      simp [Nat.blt] at h1
      exact ⟨by omega, rfl, hm h⟩
    · cases h
  · cases h
theorem putsOk_spec {pu mu : Bool} {ks : List Nat} {nk0 nk : Nat} : ∀ {ps : Mem} {k : Nat}, putsOk pu mu ks nk0 nk ps = true → mlook ps k ≠ none → pu = false ∧ k < nk + 8 ∧ (mu = true ∨ nk ≤ k ∨ inDrop nk0 k ks = true ∨ (k < nk0 ∧ mlook ps k = some .dead ∧ 4000 ∈ ks))
  | [], k, h, hm => absurd rfl hm
  | (t, a) :: r, k, h, hm => by
    simp only [putsOk] at h
    by_cases e : t = k
    · subst e
      split at h
      · rename_i h1; simp [Nat.blt] at h1; exact ⟨rfl, by omega, .inl rfl⟩
      · rename_i h1 h2; simp [Nat.blt] at h2; exact ⟨rfl, by omega, .inr (.inl (Nat.le_of_ble_eq_true h1))⟩
      · rename_i h0 h1 h2; simp [Nat.blt] at h1; exact ⟨rfl, by omega, .inr (.inr (.inl h2))⟩
      · rename_i h0 h1 h2
        split at h
        · rename_i h3
          obtain ⟨g1, g2, g3⟩ := outOk_spec h3
          simp [Nat.blt] at h1
          exact ⟨rfl, by omega, .inr (.inr (.inr ⟨g1, by rw [mlook_cons, if_pos rfl, g2], g3⟩))⟩
        · cases h
      · cases h
    · rw [mlook_cons, if_neg e] at hm ⊢
      have h' : putsOk pu mu ks nk0 nk r = true := by
        split at h
        · exact h
        · exact h
        · exact h
        · split at h
          · exact h
          · cases h
        · cases h
      exact putsOk_spec h' hm
theorem inDrop_has {nk0 k : Nat} : ∀ {ds : List Nat}, inDrop nk0 k ds = true → ∃ j, j ∈ ds ∧ dropHit nk0 k j = true
  | [], h => by simp [inDrop] at h
  | d :: r, h => by
    simp only [inDrop] at h
    split at h
    · rename_i h1; exact ⟨d, List.mem_cons_self, h1⟩
    · obtain ⟨j, h3, h4⟩ := inDrop_has h
      exact ⟨j, List.mem_cons_of_mem _ h3, h4⟩
/-- what a hit says -/
theorem dropHit_iff {nk0 k j : Nat} : dropHit nk0 k j = true ↔ (5000 ≤ j ∧ j = k + 5000 ∧ k < nk0) ∨ (j < 5000 ∧ nk0 + 8 * j ≤ k ∧ k < nk0 + 8 * j + 8) := by
  unfold dropHit
  split
  · rename_i h1
    split
    · rename_i h2
      have h2 := Nat.le_of_ble_eq_true h2
      simp only [Nat.blt, Nat.ble_eq]
      omega
    · rename_i h2
      have h2 : ¬ nk0 + 8 * j ≤ k := fun h => by rw [Nat.ble_eq_true_of_le h] at h2; cases h2
      simp only [Bool.false_eq_true, false_iff]
      omega
  · repeat' split
    all_goals (simp only [Bool.false_eq_true, false_iff, true_iff]; omega)
theorem noAbs_spec : ∀ {ds : List Nat}, noAbs ds = true → ∀ j ∈ ds, j < 5000
  | [], h, j, hj => by simp at hj
  | d :: r, h, j, hj => by
    simp only [noAbs] at h
    split at h
    · cases h
    · rename_i h1
      have h1 : ¬ 5000 ≤ d := fun h => by rw [Nat.ble_eq_true_of_le h] at h1; cases h1
      rcases List.mem_cons.1 hj with e | e
      · omega
      · exact noAbs_spec h j e
theorem memBelow_spec {nk : Nat} : ∀ {me : Mem} {k : Nat} {ab : AB}, memBelow nk me = true → mlook me k = some ab → k < nk
  | [], k, ab, h, hm => by simp [mlook] at hm
  | (t, a) :: r, k, ab, h, hm => by
    simp only [memBelow] at h
    rw [mlook_cons] at hm
    split at h
    · rename_i h1
      split at hm
      · rename_i e; subst e; simp [Nat.blt] at h1; omega
      · exact memBelow_spec h hm
    · cases h
theorem inDrop_spec {nk0 k : Nat} : ∀ {ds : List Nat} {j : Nat}, inDrop nk0 k ds = false → j ∈ ds → ¬ dropHit nk0 k j = true
  | [], j, h, hj => by simp at hj
  | d :: r, j, h, hj => by
    simp only [inDrop] at h
    split at h
    · cases h
    · rename_i h1
      rcases List.mem_cons.1 hj with e | e
      · subst e; rw [h1]; decide
      · exact inDrop_spec h e
theorem memDrop_spec {nk0 : Nat} {ds : List Nat} {k : Nat} {ab : AB} : ∀ {me : Mem}, mlook (memDrop nk0 ds me) k = some ab → inDrop nk0 k ds = false ∧ mlook me k = some ab
  | [], h => by simp [memDrop, mlook] at h
  | (t, a) :: r, h => by
    simp only [memDrop] at h
    rw [mlook_cons]
    split at h
    · rename_i h1
      obtain ⟨g1, g2⟩ := memDrop_spec h
      refine ⟨g1, ?_⟩
      rw [if_neg]
      · exact g2
      · intro e; subst e; rw [h1] at g1; cases g1
    · rename_i h1
      rw [mlook_cons] at h
      split at h
      · rename_i e; subst e; exact ⟨h1, by simpa using h⟩
      · rename_i e
        obtain ⟨g1, g2⟩ := memDrop_spec h
        exact ⟨g1, by rw [if_neg e]; exact g2⟩
theorem memLive_spec : ∀ {me : Mem} {ds : List Nat} {k : Nat} {ab : AB}, mlook (memLive ds me) k = some ab → k ∉ ds ∧ mlook me k = some ab ∧ ab ≠ .dead
  | [], ds, k, ab, h => by simp [memLive, mlook] at h
  | (t, a) :: r, ds, k, ab, h => by
    have hl : ∀ {l : List Nat} {x : Nat}, outOk.lmem x l = false → x ∉ l := by
      intro l x
      induction l with
      | nil => intro _; simp
      | cons j r ih =>
        intro h
        simp only [outOk.lmem] at h
        split at h
        · cases h
        · rename_i hb
          intro hm
          rcases List.mem_cons.1 hm with e | e
          · subst e; simp at hb
          · exact ih h e
    simp only [memLive] at h
    split at h
    · obtain ⟨g1, g2, g3⟩ := memLive_spec h
      have hne : ¬ t = k := fun e => g1 (by rw [e]; exact List.mem_cons_self)
      exact ⟨fun hm => g1 (List.mem_cons_of_mem _ hm), by rw [mlook_cons, if_neg hne]; exact g2, g3⟩
    · rename_i hnd
      split at h
      · rename_i hin
        obtain ⟨g1, g2, g3⟩ := memLive_spec h
        have hin' : t ∈ ds := by
          cases hq : outOk.lmem t ds with
          | false => rw [hq] at hin; cases hin
          | true =>
            clear hin g1 g2 g3 h
            induction ds with
            | nil => simp [outOk.lmem] at hq
            | cons j r ih =>
              simp only [outOk.lmem] at hq
              split at hq
              · rename_i e; rw [beq_nat e]; exact List.mem_cons_self
              · exact List.mem_cons_of_mem _ (ih hq)
        have hne : ¬ t = k := fun e => g1 (e ▸ hin')
        exact ⟨g1, by rw [mlook_cons, if_neg hne]; exact g2, g3⟩
      · rename_i hin
        rw [mlook_cons] at h
        split at h
        · rename_i e
          subst e
          cases h
          exact ⟨hl (by simpa using hin), by rw [mlook_cons, if_pos rfl], hnd⟩
        · rename_i e
          obtain ⟨g1, g2, g3⟩ := memLive_spec h
          exact ⟨g1, by rw [mlook_cons, if_neg e]; exact g2, g3⟩
theorem dMem_spec {tt : TT} {drs : Drops} {nk0 i : Nat} {op : Op} {me : Mem} {k : Nat} {ab : AB} (h : mlook (dMem tt drs nk0 i op me) k = some ab) :
    opPure tt op = false ∧ inDrop nk0 k (dlook drs i) = false ∧ mlook me k = some ab ∧ (dlook drs i ≠ [] → ab ≠ .dead) := by
  unfold dMem at h
  split at h
  · simp [mlook] at h
  · rename_i hp
    split at h
    · rename_i hd; rw [hd]; exact ⟨hp, rfl, h, fun h => absurd rfl h⟩
    · obtain ⟨_, g0, g3⟩ := memLive_spec h
      obtain ⟨g1, g2⟩ := memDrop_spec g0
      exact ⟨hp, g1, g2, fun _ => g3⟩
/-- what all who have written there gave away -/
theorem look_dead {res : Nat → Option Eff} {me : Mem} {p : Nat → Bool} {k : Nat} : ∀ (n : Nat), (∃ j e, j < n ∧ p j = true ∧ res j = some e ∧ mlook e.puts k ≠ none) → (∀ j e, j < n → p j = true → res j = some e → mlook e.puts k ≠ none → mlook e.puts k = some .dead) → look res me p n k = some .dead
  | 0, ⟨j, e, hj, _⟩, _ => by omega
  | n + 1, ⟨j, e, hj, hp, he, hk⟩, hall => by
    simp only [look]
    by_cases e1 : j = n
    · subst e1
      rw [hp, he]
      simp only [hall j e (by omega) hp he hk]
    · have ih := look_dead (me := me) n ⟨j, e, by omega, hp, he, hk⟩ (fun j e hj => hall j e (by omega))
      cases hpn : p n with
      | false => exact ih
      | true =>
        cases hr : res n with
        | none => exact ih
        | some e' =>
          cases hm : mlook e'.puts k with
          | none => simp only [hm]; exact ih
          | some ab =>
            have := hall n e' (by omega) hpn hr (by rw [hm]; simp)
            rw [hm] at this
            simp only [hm, this]
theorem run_mono {me me' : Mem} (h : ∀ k ab, mlook me k = some ab → mlook me' k = some ab) : ∀ (l : Look) (e : Eff), l.run me = some e → l.run me' = some e
  | .no, e, hr => by simp [Look.run] at hr
  | .ret _, e, hr => hr
  | .look k f, e, hr => by
    simp only [Look.run] at hr ⊢
    split at hr
    · rename_i ab hm
      rw [h k ab hm]
      exact run_mono h (f ab) e hr
    · cases hr

/-! ## The bits of what goes before -/
theorem fold_bit {B : List Nat} {j : Nat} : ∀ (l : List Edge) (s : Nat), ((l.foldl (fun s e => if Region.binds .any e then s ||| 2 ^ e.on ||| B.getD e.on 0 else s) s).testBit j = true) →
    s.testBit j = true ∨ ∃ e ∈ l, Region.binds .any e = true ∧ (e.on = j ∨ (B.getD e.on 0).testBit j = true)
  | [], s, h => .inl h
  | e :: l, s, h => by
    rw [List.foldl_cons] at h
    rcases fold_bit l _ h with h1 | ⟨q, h1, h2⟩
    · split at h1
      · rename_i hb
        rw [Nat.testBit_or, Nat.testBit_or, Nat.testBit_two_pow] at h1
        simp only [Bool.or_eq_true, decide_eq_true_eq] at h1
        rcases h1 with (h1 | h1) | h1
        · exact .inl h1
        · exact .inr ⟨e, by simp, hb, .inl h1⟩
        · exact .inr ⟨e, by simp, hb, .inr h1⟩
      · exact .inl h1
    · exact .inr ⟨q, by simp [h1], h2⟩
section
variable {tt : TT} {drs : Drops} {ops : List Oper} {B : List Nat}
theorem DStat.lt (h : DStat tt drs ops B) : ∀ (i : Nat) (o : Oper) (j : Nat), ops[i]? = some o → (B.getD i 0).testBit j = true → j < i := by
  intro i
  induction i using Nat.strongRecOn with
  | _ i ih =>
    intro o j ho hb
    rw [h.msk i o ho] at hb
    rcases fold_bit _ _ hb with h1 | ⟨e, he, hbd, h1⟩
    · simp at h1
    · have hlt := h.on i o e ho (by simpa using he) hbd
      rcases h1 with h1 | h1
      · omega
      · have := (List.getElem?_eq_some_iff.1 ho).1
        obtain ⟨o', ho'⟩ : ∃ o', ops[e.on]? = some o' := ⟨_, List.getElem?_eq_getElem (by omega)⟩
        have := ih e.on hlt o' j ho' h1
        omega
theorem DStat.listed (h : DStat tt drs ops B) {p : Nat → Bool} (hp : ∀ i o e, ops[i]? = some o → p i = true → e ∈ o.after → Region.binds .any e = true → p e.on = true) :
    ∀ (i : Nat) (o : Oper) (j : Nat), ops[i]? = some o → (∀ e, e ∈ o.after → Region.binds .any e = true → p e.on = true) → (B.getD i 0).testBit j = true → p j = true := by
  intro i
  induction i using Nat.strongRecOn with
  | _ i ih =>
    intro o j ho hall hb
    rw [h.msk i o ho] at hb
    rcases fold_bit _ _ hb with h1 | ⟨e, he, hbd, h1⟩
    · simp at h1
    · have he' : e ∈ o.after := by simpa using he
      have hlt := h.on i o e ho he' hbd
      rcases h1 with h1 | h1
      · rw [← h1]; exact hall e he' hbd
      · have := (List.getElem?_eq_some_iff.1 ho).1
        obtain ⟨o', ho'⟩ : ∃ o', ops[e.on]? = some o' := ⟨_, List.getElem?_eq_getElem (by omega)⟩
        exact ih e.on hlt o' j ho' (fun e2 he2 hb2 => hp e.on o' e2 ho' (hall e he' hbd) he2 hb2) h1
end
end Go.Vc
set_option linter.unusedVariables false
set_option linter.unusedSimpArgs false
namespace Go.Vc
open Go Go.RowKit
def RVeq (a b : AV) : Prop := ∀ (m : Hd) (w : World) (v : Value), RV m w a v ↔ RV m w b v
theorem RVeq.rfl' {a : AV} : RVeq a a := fun _ _ _ => Iff.rfl
theorem RVeq.trans {a b c : AV} (h : RVeq a b) (g : RVeq b c) : RVeq a c := fun m w v => (h m w v).trans (g m w v)
theorem RVeq.symm {a b : AV} (h : RVeq a b) : RVeq b a := fun m w v => (h m w v).symm
theorem sget_cons (d : Nat) (a : AV) (r : List (Nat × AV)) (t : Nat) : sget ((d, a) :: r) t = if d = t then a else sget r t := by
  simp only [sget]
  by_cases h : d = t
  · subst h; simp
  · rw [if_neg h]
    split
    · rename_i e; exact absurd (beq_nat e) h
    · rfl
section
variable {P : Program} {E : Env} {x : Cx} {drs : Drops} {ops : List Oper} {B : List Nat} {nk0 : Nat} {s0 : AS} {st : Nat → AS} {res : Nat → Option Eff} {m : Hd} {a : Act} {w : World}
theorem gd_slot {o : Oper} {s s' : AS} {b : Bool} (h : Gd ops o s s' b) (t : Nat) : RVeq (sget s.sl t) (sget s'.sl t) := by
  cases h with
  | no _ => exact .rfl'
  | kb => exact .rfl'
  | un => exact .rfl'
  | b j want oj dj y h1 h2 h3 h4 =>
    simp only [AS.put]
    rw [sget_cons]
    split
    · rename_i e; subst e
      rw [h4]; intro m w v; simp [RV, CR]
    · exact .rfl'
theorem gd_rest {o : Oper} {s s' : AS} {b : Bool} (h : Gd ops o s s' b) : s'.me = s.me ∧ s'.nk = s.nk := by
  cases h <;> exact ⟨rfl, rfl⟩
theorem step_slot {i : Nat} {o : Oper} {s s2 : AS} {r : Option Eff} (h : StepOK x drs nk0 ops i o s r s2) {t : Nat} (ht : o.dst ≠ some t) : RVeq (sget s.sl t) (sget s2.sl t) := by
  obtain ⟨s', b, hg, h⟩ := h
  refine (gd_slot hg t).trans ?_
  split at h
  · obtain ⟨_, _, _, _, _, rfl⟩ := h
    cases hd : o.dst with
    | none => exact .rfl'
    | some d =>
      simp only [AS.upd]
      rw [sget_cons, if_neg (fun e => ht (by rw [hd, e]))]
      exact .rfl'
  · obtain ⟨_, rfl⟩ := h
    cases hd : o.dst with
    | none => exact .rfl'
    | some d =>
      simp only [AS.skipD, AS.putO, AS.put]
      rw [sget_cons, if_neg (fun e => ht (by rw [hd, e]))]
      exact .rfl'
structure Trc (x : Cx) (drs : Drops) (nk0 : Nat) (ops : List Oper) (s0 : AS) (st : Nat → AS) (res : Nat → Option Eff) : Prop where
  h0 : st 0 = s0
  nk : s0.nk = nk0
  low : memBelow nk0 s0.me = true
  step : ∀ i o, ops[i]? = some o → StepOK x drs nk0 ops i o (st i) (res i) (st (i + 1))
theorem Trc.op (i : Nat) (h : i < ops.length) : ∃ o, ops[i]? = some o := ⟨_, List.getElem?_eq_getElem h⟩
theorem Trc.nks (h : Trc x drs nk0 ops s0 st res) : ∀ i, i ≤ ops.length → (st i).nk = nk0 + 8 * i
  | 0, _ => by rw [h.h0, h.nk]; rfl
  | i + 1, hi => by
    obtain ⟨o, ho⟩ := Trc.op (ops := ops) i (by omega)
    have ih := h.nks i (by omega)
    obtain ⟨s', b, hg, hs⟩ := h.step i o ho
    have := (gd_rest hg).2
    split at hs
    · obtain ⟨_, _, _, _, _, e⟩ := hs
      rw [e]
      cases o.dst <;> simp only [AS.upd] <;> omega
    · obtain ⟨_, e⟩ := hs
      rw [e]
      simp only [AS.skipD]
      omega
theorem Trc.mes (h : Trc x drs nk0 ops s0 st res) (k : Nat) : ∀ i, i ≤ ops.length → mlook (st i).me k = look res s0.me (fun _ => true) i k
  | 0, _ => by rw [h.h0]; rfl
  | i + 1, hi => by
    obtain ⟨o, ho⟩ := Trc.op (ops := ops) i (by omega)
    have ih := h.mes k i (by omega)
    obtain ⟨s', b, hg, hs⟩ := h.step i o ho
    have hme := (gd_rest hg).1
    simp only [look]
    split at hs
    · rename_i e he
      obtain ⟨_, _, _, _, _, e1⟩ := hs
      have : (st (i + 1)).me = mputs e.puts s'.me := by rw [e1]; cases o.dst <;> rfl
      rw [this, mlook_mputs, hme, ih]
      simp only [he]
    · rename_i he
      obtain ⟨_, e1⟩ := hs
      have : (st (i + 1)).me = s'.me := by rw [e1]; rfl
      rw [this, hme, ih]
      simp only [he]
theorem Trc.puts (h : Trc x drs nk0 ops s0 st res) {j : Nat} {q : Oper} {e : Eff} {k : Nat} (hq : ops[j]? = some q) (he : res j = some e) (hk : mlook e.puts k ≠ none) :
    opPure x.tt q.op = false ∧ k < nk0 + 8 * j + 8 ∧ (isMutK drs j q.op = true ∨ nk0 + 8 * j ≤ k ∨ inDrop nk0 k (kls drs j) = true ∨ (k < nk0 ∧ mlook e.puts k = some .dead ∧ 4000 ∈ kls drs j)) := by
  obtain ⟨s', b, hg, hs⟩ := h.step j q hq
  rw [he] at hs
  obtain ⟨_, _, _, _, hp, _⟩ := hs
  have := putsOk_spec hp hk
  rw [(gd_rest hg).2, h.nks j (by have := (List.getElem?_eq_some_iff.1 hq).1; omega)] at this
  exact this
theorem inDrop_lo {nk0 k : Nat} {ds : List Nat} (h : inDrop nk0 k ds = true) (hn : noAbs ds = true) : nk0 ≤ k := by
  obtain ⟨j, hj, h1⟩ := inDrop_has h
  have := noAbs_spec hn j hj
  rw [dropHit_iff] at h1
  omega
/-- a name of before that one gives away: all who write there give it away -/
theorem Trc.dead (h : Trc x drs nk0 ops s0 st res) (hd : DStat x.tt drs ops B) {i : Nat} {o : Oper} (ho : ops[i]? = some o) (hk4 : 4000 ∈ kls drs i) {k : Nat} (hk : k < nk0) {j : Nat} {q : Oper} {e : Eff} (hq : ops[j]? = some q) (he : res j = some e) (hp : mlook e.puts k ≠ none) {n : Nat} {r : Oper} (hr : ops[n]? = some r) (hrp : opPure x.tt r.op = false) (hn : n ≠ j → (B.getD j 0).testBit n = true → False) (hnj : n = j → n = i) : mlook e.puts k = some .dead := by
  obtain ⟨_, _, g⟩ := h.puts hq he hp
  have hna : noAbs (kls drs j) = true := by
    by_cases e1 : j = i
    · subst e1; exact hd.na j q hq hk4
    · exact (hd.ko j q i o hq ho (fun e => e1 e.symm) hk4).1
  have hm : isMutK drs j q.op = false := by
    by_cases e1 : j = i
    · subst e1
      unfold isMutK
      split
      · rename_i hn; rw [hn] at hk4; simp at hk4
      · rename_i hn; rw [hn] at hk4; simp at hk4
      · rfl
    · rcases (hd.ko j q i o hq ho (fun e => e1 e.symm) hk4).2.1 with h1 | h1
      · exact h1
      · by_cases e2 : n = j
        · exact absurd (e2.symm.trans (hnj e2)) e1
        · exact (hn e2 (h1 n r hr e2 hrp)).elim
  rcases g with g | g | g | g
  · rw [hm] at g; cases g
  · omega
  · have := inDrop_lo g hna; omega
  · exact g.2.1
theorem Trc.fwd (h : Trc x drs nk0 ops s0 st res) {t : Nat} : ∀ i, i ≤ ops.length → (∀ j q, j < i → ops[j]? = some q → q.dst ≠ some t) → RVeq (sget s0.sl t) (sget (st i).sl t)
  | 0, _, _ => by rw [h.h0]; exact .rfl'
  | i + 1, hi, hd => by
    obtain ⟨o, ho⟩ := Trc.op (ops := ops) i (by omega)
    exact (h.fwd i (by omega) (fun j q hj => hd j q (by omega))).trans (step_slot (h.step i o ho) (hd i o (by omega) ho))
theorem Trc.keep (h : Trc x drs nk0 ops s0 st res) (hd : DStat x.tt drs ops B) {j t : Nat} {q : Oper} (hq : ops[j]? = some q) (ht : q.dst = some t) : ∀ (n i : Nat), i + n = ops.length → j < i → RVeq (sget (st i).sl t) (sget (st ops.length).sl t)
  | 0, i, hn, hj => by rw [show i = ops.length by omega]; exact .rfl'
  | n + 1, i, hn, hj => by
    obtain ⟨o, ho⟩ := Trc.op (ops := ops) i (by omega)
    exact (step_slot (h.step i o ho) (hd.ds i o j q t ho hq (by omega) ht)).trans (h.keep hd hq ht n (i + 1) (by omega) (by omega))

structure Inv (P : Program) (E : Env) (x : Cx) (nk0 : Nat) (ops : List Oper) (s0 : AS) (st : Nat → AS) (res : Nat → Option Eff) (p : Nat → Bool) (m : Hd) (a : Act) (w : World) : Prop where
  closed : ∀ i o e, ops[i]? = some o → p i = true → e ∈ o.after → Region.binds .any e = true → p e.on = true
  bd : Bd m w
  fr : Fr E m w
  tm : a.tmps.size = x.nt
  df : a.defers = []
  keys : ∀ k, m k ≠ none → k < nk0 ∨ ∃ i, p i = true ∧ nk0 + 8 * i ≤ k ∧ k < nk0 + 8 * i + 8
  old : ∀ t, (∀ j q, ops[j]? = some q → p j = true → q.dst ≠ some t) → RV m w (sget s0.sl t) (a.tmps.getD t undef)
  new : ∀ j q t, ops[j]? = some q → p j = true → q.dst = some t → RV m w (sget (st ops.length).sl t) (a.tmps.getD t undef)
  mem : ∃ me, MemR m w me ∧ ∀ k, mlook me k = look res s0.me p ops.length k

theorem gd_wanted {o : Oper} {s s' : AS} {b : Bool} (h : Gd ops o s s' b)
    (hsl : ∀ j want oj dj, o.guard = some (j, want) → ops[j]? = some oj → oj.dst = some dj → RV m w (sget s.sl dj) (a.tmps.getD dj undef)) : Region.wanted o (yielded ops.toArray a.tmps) = b := by
  cases h with
  | no hg => simp [Region.wanted, hg]
  | kb j want oj dj y hg hj hd hq =>
    have := hsl j want oj dj hg hj hd
    rw [hq] at this
    simp only [RV, CR, List.cons.injEq, and_true] at this
    have hy := yielded_bool (a := a) (by rw [nth_get]; exact hj) hd this
    simp [Region.wanted, hg, hy]
  | b j want oj dj y hg hj hd hq =>
    have := hsl j want oj dj hg hj hd
    rw [hq] at this
    simp only [RV, CR, List.cons.injEq, and_true] at this
    have hy := yielded_bool (a := a) (by rw [nth_get]; exact hj) hd this
    simp [Region.wanted, hg, hy]
  | un j want oj dj hg hj hd hq =>
    have := hsl j want oj dj hg hj hd
    rw [hq] at this
    simp only [RV, RVs] at this
    obtain ⟨vs, h1, rfl⟩ := this
    have hy := yielded_undef (a := a) (by rw [nth_get]; exact hj) hd h1
    simp [Region.wanted, hg, hy]
theorem rdSl_get (sl : List (Nat × AV)) : ∀ (l : List Nat) (t : Nat), sget (rdSl sl l) t = if t ∈ l then sget sl t else .u
  | [], t => by simp [rdSl, sget]
  | d :: r, t => by
    simp only [rdSl]
    rw [sget_cons, rdSl_get sl r t]
    by_cases e : d = t
    · subst e; simp
    · rw [if_neg e]
      have : (t ∈ d :: r) ↔ t ∈ r := by simp [show t ≠ d from fun h => e h.symm]
      simp only [this]
theorem put_ne (a : Act) {dst : Option Nat} {v : Value} {t : Nat} (h : dst ≠ some t) : (a.put dst v).tmps.getD t undef = a.tmps.getD t undef := by
  cases dst with
  | none => rfl
  | some d =>
    simp only [Act.put]
    have hne : d ≠ t := fun e => h (by rw [e])
    simp [Array.getD_eq_getD_getElem?, Array.getElem?_setIfInBounds_ne hne]

section
variable (ht : Trc x drs nk0 ops s0 st res) (hd : DStat x.tt drs ops B) {p : Nat → Bool} (hI : Inv P E x nk0 ops s0 st res p m a w) {i : Nat} {o : Oper} (ho : ops[i]? = some o) (hp : p i = false)
  (hr : ∀ e, e ∈ o.after → Region.binds .any e = true → p e.on = true)
include ht hd hI ho hp hr
/-- what a ready operation reads -/
theorem inv_slot {t : Nat} (hc : ∀ j q, ops[j]? = some q → j ≠ i → q.dst = some t → comp B i j = true) : RV m w (sget (st i).sl t) (a.tmps.getD t undef) := by
  have hlen := (List.getElem?_eq_some_iff.1 ho).1
  have D : ∀ j, (B.getD i 0).testBit j = true → p j = true := fun j h => hd.listed hI.closed i o j ho hr h
  by_cases hx : ∃ j q, ops[j]? = some q ∧ j < i ∧ q.dst = some t
  · obtain ⟨j, q, hq, hj, hqt⟩ := hx
    have hlj : p j = true := by
      have := hc j q hq (by omega) hqt
      simp only [comp, Bool.or_eq_true] at this
      rcases this with h1 | h1
      · exact D j h1
      · have := hd.lt j q i hq h1; omega
    exact ((ht.keep hd hq hqt (ops.length - i) i (by omega) hj) m w _).2 (hI.new j q t hq hlj hqt)
  · refine ((ht.fwd i (by omega) (fun j q hj hq e => hx ⟨j, q, hq, hj, e⟩)) m w _).1 (hI.old t fun j q hq hpj e => ?_)
    have hne : j ≠ i := fun e2 => by subst e2; rw [hp] at hpj; cases hpj
    have := hc j q hq hne e
    simp only [comp, Bool.or_eq_true] at this
    rcases this with h1 | h1
    · exact hx ⟨j, q, hq, hd.lt i o j ho h1, e⟩
    · have := hd.listed hI.closed j q i hq (fun e2 he2 hb2 => hI.closed j q e2 hq hpj he2 hb2) h1
      rw [hp] at this; cases this
theorem inv_mem {k : Nat} {ab : AB} (h : mlook (dMem x.tt drs nk0 i o.op (st i).me) k = some ab) : look res s0.me p ops.length k = some ab := by
  have hlen := (List.getElem?_eq_some_iff.1 ho).1
  have D : ∀ j, (B.getD i 0).testBit j = true → p j = true := fun j h => hd.listed hI.closed i o j ho hr h
  obtain ⟨h1, h2, h3, hnd⟩ := dMem_spec h
  rw [ht.mes k i (by omega)] at h3
  rw [look_up (i := i) ops.length (by omega) fun j hj hpj => ?_, look_congr (q := fun _ => true) i fun j e hj he hk => ?_, h3]
  · obtain ⟨q, hq⟩ := Trc.op (ops := ops) j (by omega)
    obtain ⟨g1, g2, g3⟩ := ht.puts hq he hk
    show p j = true
    rcases g3 with g3 | g3
    · have := hd.mt i o j q ho hq (by omega) h1 g3
      simp only [comp, Bool.or_eq_true] at this
      rcases this with h4 | h4
      · exact D j h4
      · have := hd.lt j q i hq h4; omega
    rcases g3 with g3 | g3 | g3
    · rcases hd.dr i o j q ho hq hj h1 g1 with h4 | h4
      · exact D j h4
      · exact absurd (dropHit_iff.2 (.inr ⟨by have := hd.len; omega, g3, g2⟩)) (inDrop_spec h2 h4)
    · obtain ⟨j', hj', hk1⟩ := inDrop_has g3
      rcases hd.kl i o j q j' ho hq (by omega) h1 g1 hj' with h4 | h4 | ⟨h4, _⟩
      · simp only [comp, Bool.or_eq_true] at h4
        rcases h4 with h4 | h4
        · exact D j h4
        · have := hd.lt j q i hq h4; omega
      · have := hd.len; rw [dropHit_iff] at hk1; omega
      · exact absurd hk1 (inDrop_spec h2 h4)
    · obtain ⟨hk0, _, hk4⟩ := g3
      rcases hd.dr i o j q ho hq hj h1 g1 with h4 | h4
      · exact D j h4
      · exfalso
        refine hnd (fun e => by rw [e] at h4; simp at h4) ?_
        have := look_dead (me := s0.me) (p := fun _ => true) i ⟨j, e, hj, rfl, he, hk⟩ (fun j' e' hj' _ he' hne => by
          obtain ⟨q', hq'⟩ := Trc.op (ops := ops) j' (by omega)
          exact ht.dead hd hq hk4 hk0 hq' he' hne ho h1 (fun _ hb => by have := hd.lt j' q' i hq' hb; omega) (fun e => by omega))
        rw [h3] at this
        exact Option.some.inj this
  · by_cases hji : j < i
    · exact .inl hji
    · refine .inr fun e he => ?_
      cases hm : mlook e.puts k with
      | none => rfl
      | some ab' =>
        exfalso
        have hne : j ≠ i := fun e2 => by subst e2; rw [hp] at hpj; cases hpj
        obtain ⟨q, hq⟩ := Trc.op (ops := ops) j hj
        obtain ⟨g1, g2, g3⟩ := ht.puts hq he (by rw [hm]; simp)
        rcases g3 with g3 | g3
        · have := hd.mt i o j q ho hq hne h1 g3
          simp only [comp, Bool.or_eq_true] at this
          rcases this with h4 | h4
          · have := hd.lt i o j ho h4; omega
          · have := hd.listed hI.closed j q i hq (fun e2 he2 hb2 => hI.closed j q e2 hq hpj he2 hb2) h4
            rw [hp] at this; cases this
        rcases g3 with g3 | g3 | g3
        · rcases look_src i h3 with h4 | ⟨j', e', h4, _, h5, h6⟩
          · have := memBelow_spec ht.low h4
            omega
          · obtain ⟨q', hq'⟩ := Trc.op (ops := ops) j' (by omega)
            obtain ⟨_, g5, _⟩ := ht.puts hq' h5 h6
            omega
        · obtain ⟨j', hj', hk1⟩ := inDrop_has g3
          rcases hd.kl i o j q j' ho hq hne h1 g1 hj' with h4 | h4 | ⟨h4, _⟩
          · simp only [comp, Bool.or_eq_true] at h4
            rcases h4 with h4 | h4
            · have := hd.lt i o j ho h4; omega
            · have := hd.listed hI.closed j q i hq (fun e2 he2 hb2 => hI.closed j q e2 hq hpj he2 hb2) h4
              rw [hp] at this; cases this
          · have := hd.len; rw [dropHit_iff] at hk1; omega
          · exact absurd hk1 (inDrop_spec h2 h4)
        · rcases (hd.ko i o j q ho hq hne g3.2.2).2.2 h1 g1 with h4 | h4
          · simp only [comp, Bool.or_eq_true] at h4
            rcases h4 with h4 | h4
            · have := hd.lt i o j ho h4; omega
            · have := hd.listed hI.closed j q i hq (fun e2 he2 hb2 => hI.closed j q e2 hq hpj he2 hb2) h4
              rw [hp] at this; cases this
          · exact absurd h4 hji
omit hr in
theorem inv_top {e : Eff} {k : Nat} {ab : AB} (he : res i = some e) (hk : mlook e.puts k = some ab) : look res s0.me (fun j => decide (j = i) || p j) ops.length k = some ab := by
  have hlen := (List.getElem?_eq_some_iff.1 ho).1
  by_cases hout : k < nk0 ∧ 4000 ∈ kls drs i
  · obtain ⟨hk0, hk4⟩ := hout
    have k1 := (ht.puts ho he (by rw [hk]; simp)).1
    have hab := ht.dead hd ho hk4 hk0 ho he (by rw [hk]; simp) ho k1 (fun h => absurd rfl h) (fun _ => rfl)
    rw [hk] at hab
    rw [Option.some.inj hab]
    refine look_dead ops.length ⟨i, e, hlen, by simp, he, by rw [hk]; simp⟩ fun j e' hj hpj he' hne => ?_
    obtain ⟨q, hq⟩ := Trc.op (ops := ops) j hj
    refine ht.dead hd ho hk4 hk0 hq he' hne ho k1 (fun hne2 hb => ?_) (fun _ => rfl)
    have hpj : p j = true := by simpa [show ¬ j = i from fun e => hne2 e.symm] using hpj
    have := hd.listed hI.closed j q i hq (fun e2 he2 hb2 => hI.closed j q e2 hq hpj he2 hb2) hb
    rw [hp] at this; cases this
  rw [look_up (i := i + 1) ops.length (by omega) fun j hj hpj => ?_]
  · simp only [look, decide_true, Bool.true_or, he, hk]
  · by_cases hji : j < i + 1
    · exact .inl hji
    · refine .inr fun e' he' => ?_
      have hpj : p j = true := by simpa [show ¬ j = i by omega] using hpj
      cases hm : mlook e'.puts k with
      | none => rfl
      | some ab' =>
        exfalso
        obtain ⟨q, hq⟩ := Trc.op (ops := ops) j hj
        obtain ⟨g1, g2, g3⟩ := ht.puts hq he' (by rw [hm]; simp)
        obtain ⟨k1, k2, k3⟩ := ht.puts ho he (by rw [hk]; simp)
        have hcomp : comp B i j = true → False := fun this => by
          simp only [comp, Bool.or_eq_true] at this
          rcases this with h4 | h4
          · have := hd.lt i o j ho h4; omega
          · have := hd.listed hI.closed j q i hq (fun e2 he2 hb2 => hI.closed j q e2 hq hpj he2 hb2) h4
            rw [hp] at this; cases this
        rcases g3 with g3 | g3
        · exact hcomp (hd.mt i o j q ho hq (by omega) k1 g3)
        have k3 : isMutK drs i o.op = true ∨ nk0 + 8 * i ≤ k ∨ inDrop nk0 k (kls drs i) = true := by
          rcases k3 with k3 | k3 | k3 | k3
          · exact .inl k3
          · exact .inr (.inl k3)
          · exact .inr (.inr k3)
          · exact absurd ⟨k3.1, k3.2.2⟩ hout
        rcases g3 with g3 | g3 | g3
        · omega
        rotate_left
        · rcases k3 with k3 | k3 | k3
          · rcases (hd.ko i o j q ho hq (by omega) g3.2.2).2.1 with h4 | h4
            · rw [h4] at k3; cases k3
            · have := hd.lt i o j ho (h4 j q hq (by omega) g1); omega
          · have := g3.1; omega
          · have := inDrop_lo k3 (hd.ko i o j q ho hq (by omega) g3.2.2).1; have := g3.1; omega
        · obtain ⟨j', hj', hk1⟩ := inDrop_has g3
          rcases hd.kl i o j q j' ho hq (by omega) k1 g1 hj' with h4 | h4 | ⟨h4, h5, h6⟩
          · exact hcomp h4
          · have := hd.len; rw [dropHit_iff] at hk1; omega
          · rcases k3 with k3 | k3
            · refine hcomp ?_
              have := hd.mt j q i o hq ho (by omega) g1 k3
              simpa [comp, Bool.or_comm] using this
            rcases k3 with k3 | k3
            · exact h5 (by rw [dropHit_iff] at hk1; omega)
            · obtain ⟨j2, hj2, hk3⟩ := inDrop_has k3
              rw [dropHit_iff] at hk1 hk3
              have : j2 = j' := by omega
              subst this
              exact h6 hj2
end
end
end Go.Vc
set_option linter.unusedVariables false
set_option linter.unusedSimpArgs false
namespace Go.Vc
open Go Go.RowKit
section
variable {P : Program} {E : Env} {x : Cx} {drs : Drops} {ops : List Oper} {B : List Nat} {nk0 : Nat} {s0 : AS} {st : Nat → AS} {res : Nat → Option Eff} {m : Hd} {a : Act} {w : World}
theorem setp {listed : Array Bool} {i : Nat} (hi : i < listed.size) (j : Nat) : (listed.setIfInBounds i true).getD j false = (decide (j = i) || listed.getD j false) := by
  by_cases e : j = i
  · subst e; simp [Array.getD_eq_getD_getElem?, hi]
  · have : i ≠ j := fun h => e h.symm
    simp [Array.getD_eq_getD_getElem?, Array.getElem?_setIfInBounds_ne this, e]
/-- one operation that is ready -/
theorem draw_step (hx : XOK P x) (hE : GE P E) (ht : Trc x drs nk0 ops s0 st res) (hd : DStat x.tt drs ops B) {p : Nat → Bool} {Q : Exit → Act → World → Prop} (hI : Inv P E x nk0 ops s0 st res p m a w) {i : Nat} {o : Oper} (ho : ops[i]? = some o) (hp : p i = false)
    (hr : ∀ e, e ∈ o.after → Region.binds .any e = true → p e.on = true) :
    wpOp P ops.toArray Q i (fun a' w' => ∃ m', Inv P E x nk0 ops s0 st res (fun j => decide (j = i) || p j) m' a' w') a w := by
  have hlen := (List.getElem?_eq_some_iff.1 ho).1
  obtain ⟨s', b, hg, hs⟩ := ht.step i o ho
  have hsl : ∀ j want oj dj, o.guard = some (j, want) → ops[j]? = some oj → oj.dst = some dj → RV m w (sget (st i).sl dj) (a.tmps.getD dj undef) := by
    intro j want oj dj h1 h2 h3
    refine inv_slot ht hd hI ho hp hr fun j' q hq hne hqd => ?_
    have : j' = j := by
      by_cases e : j' = j
      · exact e
      · exact absurd h3 (hd.ds j oj j' q dj h2 hq e hqd)
    subst this
    unfold comp
    rw [hd.gd i o _ want ho h1]
    rfl
  have hw := gd_wanted hg hsl
  unfold wpOp
  simp only [List.getElem?_toArray, ho]
  rw [hw]
  have closed' : ∀ i' o' e, ops[i']? = some o' → (decide (i' = i) || p i') = true → e ∈ o'.after → Region.binds .any e = true → (decide (e.on = i) || p e.on) = true := by
    intro i' o' e h1 h2 h3 h4
    by_cases e1 : i' = i
    · subst e1
      rw [ho] at h1; cases h1
      simp [hr e h3 h4]
    · simp [hI.closed i' o' e h1 (by simpa [e1] using h2) h3 h4]
  split at hs
  · rename_i e he
    obtain ⟨rfl, hdst, hrun, hc, hpo, hst⟩ := hs
    rw [if_pos rfl]
    refine .inl ?_
    obtain ⟨me, hme, hml⟩ := hI.mem
    have hnk : s'.nk = nk0 + 8 * i := by rw [(gd_rest hg).2, ht.nks i (by omega)]
    have hbase : Base m w me s'.nk := by
      refine ⟨hme, hI.bd, fun k h1 h2 => ?_⟩
      cases hk : m k with
      | none => rfl
      | some v =>
        exfalso
        rcases hI.keys k (by rw [hk]; simp) with h3 | ⟨j, h3, h4, h5⟩
        · omega
        · have : j = i := by omega
          subst this; rw [hp] at h3; cases h3
    have hslr : SlR m w (rdSl s'.sl (Oper.reads o)) a := by
      intro t
      rw [rdSl_get]
      split
      · rename_i hmem
        exact ((gd_slot hg t) m w _).1 (inv_slot ht hd hI ho hp hr fun j q hq hne hqd => hd.rd i o j q t ho hq hne hqd hmem)
      · simp [RV]
    have hrun2 : (aop real x.tt x.sp (rdSl s'.sl (Oper.reads o)) s'.nk o.op).run me = some e := by
      refine run_mono (fun k ab hk => ?_) _ _ hrun
      rw [(gd_rest hg).1] at hk
      rw [hml]
      exact inv_mem ht hd hI ho hp hr hk
    refine (aop_sound hx.tt hx.sp (hE.inv hI.fr) hbase hslr hrun2 hc).wp fun v w' ⟨m', hk⟩ => ⟨m', ?_⟩
    have hpres := hk.tr.pres
    refine ⟨closed', hk.bd, hI.fr.step hk.tr, by rw [put_size]; exact hI.tm, by rw [put_defers]; exact hI.df, fun k hk1 => ?_, fun t htn => ?_, fun j q t hq hpj hqt => ?_, mputs e.puts me, hk.mem, fun k => ?_⟩
    · rcases hk.keys k hk1 with h1 | h1
      · rcases hI.keys k h1 with h2 | ⟨j, h2, h3⟩
        · exact .inl h2
        · exact .inr ⟨j, by simp [h2], h3⟩
      · exact .inr ⟨i, by simp, by omega, by omega⟩
    · have h1 : o.dst ≠ some t := htn i o ho (by simp)
      rw [put_ne a h1]
      exact RV_mono hpres _ _ (hI.old t fun j q hq hpj => htn j q hq (by simp [hpj]))
    · by_cases e1 : j = i
      · subst e1
        rw [ho] at hq; cases hq
        have h1 : ((a.put o.dst v).tmps.getD t undef) = v := by
          rw [hqt] at hdst ⊢
          simp only [dstOk, Nat.blt] at hdst
          have := Nat.le_of_ble_eq_true hdst
          have h2 : t < a.tmps.size := by rw [hI.tm]; omega
          simp [Act.put, h2]
        rw [h1]
        refine ((ht.keep hd ho hqt (ops.length - (j + 1)) (j + 1) (by omega) (by omega)) m' w' v).1 ?_
        rw [hst, hqt]
        simp only [AS.upd]
        rw [sget_cons, if_pos rfl]
        exact hk.rv
      · have h1 : o.dst ≠ some t := fun h => hd.ds i o j q t ho hq e1 hqt h
        rw [put_ne a h1]
        exact RV_mono hpres _ _ (hI.new j q t hq (by simpa [e1] using hpj) hqt)
    · rw [mlook_mputs]
      split
      · rename_i ab hab
        exact (inv_top ht hd hI ho hp he hab).symm
      · rename_i hab
        rw [hml]
        refine look_congr _ fun j e' hj he' hne => ?_
        have : j ≠ i := fun e1 => by
          subst e1
          rw [he] at he'; cases he'
          exact hne hab
        simp [this]
  · rename_i he
    obtain ⟨rfl, hst⟩ := hs
    rw [if_neg (by simp)]
    refine ⟨m, closed', hI.bd, hI.fr, by rw [put_size]; exact hI.tm, by rw [put_defers]; exact hI.df, fun k hk1 => ?_, fun t htn => ?_, fun j q t hq hpj hqt => ?_, ?_⟩
    · rcases hI.keys k hk1 with h2 | ⟨j, h2, h3⟩
      · exact .inl h2
      · exact .inr ⟨j, by simp [h2], h3⟩
    · have h1 : o.dst ≠ some t := htn i o ho (by simp)
      rw [put_ne a h1]
      exact hI.old t fun j q hq hpj => htn j q hq (by simp [hpj])
    · by_cases e1 : j = i
      · subst e1
        rw [ho] at hq; cases hq
        refine ((ht.keep hd ho hqt (ops.length - (j + 1)) (j + 1) (by omega) (by omega)) m w _).1 ?_
        have h0 : SlR m w [] a := fun t => by simp [sget, RV]
        have := h0.putU (d := t) t
        rw [hst, hqt]
        simp only [AS.skipD, AS.putO, AS.put]
        rw [sget_cons, if_pos rfl]
        rw [sget_cons, if_pos rfl] at this
        exact this
      · have h1 : o.dst ≠ some t := fun h => hd.ds i o j q t ho hq e1 hqt h
        rw [put_ne a h1]
        exact hI.new j q t hq (by simpa [e1] using hpj) hqt
    · obtain ⟨me, hme, hml⟩ := hI.mem
      refine ⟨me, hme, fun k => ?_⟩
      rw [hml]
      refine look_congr _ fun j e' hj he' hne => ?_
      have : j ≠ i := fun e1 => by subst e1; rw [he] at he'; cases he'
      simp [this]

theorem draw_any (hx : XOK P x) (hE : GE P E) (ht : Trc x drs nk0 ops s0 st res) (hd : DStat x.tt drs ops B) {Q : Exit → Act → World → Prop} (hQ : ∀ m' a' w', StR E x.nt (st ops.length) m' a' w' → Q .normal a' w') :
    ∀ (fuel : Nat) (listed : Array Bool) (m : Hd) (a : Act) (w : World), listed.size = ops.length → listed.toList.count false ≤ fuel → Inv P E x nk0 ops s0 st res (fun j => listed.getD j false) m a w → wpAny P .any ops.toArray Q fuel listed a w := by
  have done : ∀ (listed : Array Bool) (m : Hd) (a : Act) (w : World), listed.size = ops.length → Inv P E x nk0 ops s0 st res (fun j => listed.getD j false) m a w → Region.ready .any ops.toArray listed = [] → Q .normal a w := by
    intro listed m a w hs hI hr
    have all : ∀ i, i < ops.length → listed.getD i false = true := by
      intro i
      induction i using Nat.strongRecOn with
      | _ i ih =>
        intro hi
        obtain ⟨o, ho⟩ := Trc.op (ops := ops) i hi
        cases hp : listed.getD i false with
        | true => rfl
        | false =>
          exfalso
          have : i ∈ Region.ready .any ops.toArray listed := by
            rw [mem_ready]
            refine ⟨?_, o, by simpa using ho, fun e he hb => ih e.on (hd.on i o e ho he hb) (by have := hd.on i o e ho he hb; omega)⟩
            rw [Array.getD_eq_getD_getElem?] at hp ⊢
            rw [Array.getElem?_eq_getElem (by omega)] at hp ⊢
            exact hp
          rw [hr] at this; cases this
    refine hQ m a w ⟨fun t => ?_, ?_, hI.bd, fun k hk => ?_, hI.tm, hI.df, hI.fr⟩
    · by_cases hxx : ∃ (j : Nat) (q : Oper), ops[j]? = some q ∧ q.dst = some t
      · obtain ⟨j, q, hq, hqt⟩ := hxx
        exact hI.new j q t hq (all j (List.getElem?_eq_some_iff.1 hq).1) hqt
      · exact ((ht.fwd ops.length (Nat.le_refl _) (fun j q _ hq e => hxx ⟨j, q, hq, e⟩)) m w _).1 (hI.old t fun j q hq _ e => hxx ⟨j, q, hq, e⟩)
    · obtain ⟨me, hme, hml⟩ := hI.mem
      have heq : ∀ k, mlook (st ops.length).me k = mlook me k := by
        intro k
        rw [ht.mes k _ (Nat.le_refl _), hml]
        exact look_congr _ fun j e hj _ _ => (all j hj).symm
      exact ⟨fun k ab h => hme.at_ k ab (by rw [← heq]; exact h), fun k k' ab ab' v v' b h h' => hme.apart k k' ab ab' v v' b (by rw [← heq]; exact h) (by rw [← heq]; exact h'), hme.pubs, fun k ab v b h => hme.live k ab v b (by rw [← heq]; exact h), fun k ab v b h => hme.okl k ab v b (by rw [← heq]; exact h), hme.okn⟩
    · rw [ht.nks _ (Nat.le_refl _)] at hk
      cases hm : m k with
      | none => rfl
      | some v =>
        exfalso
        rcases hI.keys k (by rw [hm]; simp) with h1 | ⟨i, h1, h2, h3⟩
        · omega
        · have : i < ops.length := by
            rw [← hs]
            by_cases h : i < listed.size
            · exact h
            · rw [Array.getD_eq_getD_getElem?, Array.getElem?_eq_none (by omega)] at h1; cases h1
          omega
  intro fuel
  induction fuel with
  | zero =>
    intro listed m a w hs hcnt hI
    have hr : Region.ready .any ops.toArray listed = [] := by
      cases hq : Region.ready .any ops.toArray listed with
      | nil => rfl
      | cons i r =>
        exfalso
        have : i ∈ Region.ready .any ops.toArray listed := by rw [hq]; simp
        rw [mem_ready] at this
        obtain ⟨h1, o, h2, _⟩ := this
        have hi : i < listed.size := by rw [hs]; exact (List.getElem?_eq_some_iff.1 (by simpa using h2)).1
        rw [Array.getD_eq_getD_getElem?, Array.getElem?_eq_getElem hi] at h1
        have : false ∈ listed.toList := by
          have h1 : listed[i] = false := h1
          rw [← h1]; simp
        have := List.count_pos_iff.2 this
        omega
    exact ⟨hr, done listed m a w hs hI hr⟩
  | succ fuel ih =>
    intro listed m a w hs hcnt hI
    refine ⟨fun hr => done listed m a w hs hI hr, fun i hi => ?_⟩
    rw [mem_ready] at hi
    obtain ⟨h1, o, h2, h3⟩ := hi
    have h2 : ops[i]? = some o := by simpa using h2
    have hil : i < listed.size := by rw [hs]; exact (List.getElem?_eq_some_iff.1 h2).1
    have h1' : listed[i] = false := by
      rw [Array.getD_eq_getD_getElem?, Array.getElem?_eq_getElem hil] at h1; exact h1
    have hp : listed.getD i false = false := by
      rw [Array.getD_eq_getD_getElem?, Array.getElem?_eq_getElem hil]; exact h1'
    refine wpOp_mono (fun a' w' ⟨m', hI'⟩ => ?_) (draw_step hx hE ht hd hI h2 hp h3)
    refine ih (listed.setIfInBounds i true) m' a' w' (by simp [hs]) ?_ ?_
    · have hil' : i < listed.toList.length := by simpa using hil
      have e1 : (listed.setIfInBounds i true).toList = listed.toList.set i true := by simp
      have h4 : listed.toList[i] = false := by simpa using h1'
      have := List.count_set (a := true) (b := false) hil'
      rw [e1, this, h4]
      have h5 : 0 < listed.toList.count false := List.count_pos_iff.2 (by rw [← h4]; exact List.getElem_mem _)
      simp only [BEq.rfl, if_true]
      have e2 : ((true == false) = true) = False := by simp
      simp only [e2, if_false]
      omega
    · have : (fun j => (listed.setIfInBounds i true).getD j false) = fun j => decide (j = i) || listed.getD j false := by funext j; exact setp hil j
      rw [this]; exact hI'

theorem calm_drawn (m : Hd) (w : World) (n : Nat) : Pres m w m { w with drawn := n } := ⟨fun _ _ h => h, fun b h => ⟨rfl, h⟩⟩
theorem StR.drawn {s : AS} (h : StR E x.nt s m a w) (n : Nat) : StR E x.nt s m a { w with drawn := n } :=
  ⟨h.sl.mono (calm_drawn m w n), ⟨fun k ab hk => ABR_keep (h.mem.at_ k ab hk) (fun _ h => h) (fun _ _ _ _ => rfl) (calm_drawn m w n), h.mem.apart, h.mem.pubs, h.mem.live, h.mem.okl, h.mem.okn⟩, h.bd, h.nk, h.tm, h.df,
    ⟨h.fr.os, h.fr.tape, h.fr.output, h.fr.size, h.fr.ok, h.fr.block, h.fr.own, fun m0 w1 he => (h.fr.keep m0 w1 he).trans (calm_drawn m w n), h.fr.pin, h.fr.pub, h.fr.pubm⟩⟩
theorem drawVc_sound (hx : XOK P x) (hE : GE P E) (hm : P.follows .mixedOrders = true) {id : Nat} {opa : Array Oper} (hd : drawOk x.tt drs opa.toList = true) {s : AS} (hlow : memBelow s.nk s.me = true) {K : AS → Prop} {mu : Bool} (h : drawVc real x mu drs s.nk opa.toList 0 opa.toList s K) (hr : StR E x.nt s m a w)
    {Q : Exit → Act → World → Prop} (hQ : ∀ s' m' a' w', StR E x.nt s' m' a' w' → K s' → Q .normal a' w') : (Code.region id opa true).wp P Q a w := by
  obtain ⟨st, res, h0, hst, hK⟩ := drawVc_trace opa.toList 0 s K h
  simp only [Nat.zero_add] at hst hK
  refine wp_region_any hm ?_
  have hr := hr.drawn (w.drawn + 1)
  have := draw_any hx hE ⟨h0, rfl, hlow, hst⟩ (drawOk_spec hd) (Q := Q) (fun m' a' w' h => hQ _ m' a' w' h hK) opa.size (Array.replicate opa.size false) m a { w with drawn := w.drawn + 1 } (by simp) (by simp) ?_
  · simpa using this
  · have hn : ∀ j, (Array.replicate opa.size false).getD j false = false := by
      intro j
      rw [Array.getD_eq_getD_getElem?]
      by_cases h : j < opa.size <;> simp [h]
    refine ⟨fun i o e _ hp => (by rw [hn] at hp; cases hp), hr.bd, hr.fr, hr.tm, hr.df, fun k hk => ?_, fun t _ => hr.sl t, fun j q t _ hp => (by rw [hn] at hp; cases hp), s.me, hr.mem, fun k => ?_⟩
    · by_cases h : k < s.nk
      · exact .inl h
      · exact absurd (hr.nk k (by omega)) hk
    · rw [look_up (i := 0) _ (Nat.zero_le _) (fun j hj hp => by rw [hn] at hp; cases hp)]
      rfl
end
end Go.Vc
set_option linter.unusedVariables false
set_option linter.unusedSimpArgs false
namespace Go.Vc
open Go Go.RowKit

/-! ## A state under another's names -/
abbrev Ren := List (Nat × Option Nat)      -- a new name, the old one; none: nil
def rlook : Ren → Nat → Option (Option Nat)
  | [], _ => none
  | (k, a) :: r, t => match Nat.beq k t with
    | true => some a
    | false => rlook r t
def sameK (r : Ren) (old new : Nat) : Prop :=
  match rlook r new with
  | some (some k) => Nat.beq k old = true
  | _ => False
mutual
/-- what is known by the first says what the second says, under the new names -/
def avLe (r : Ren) : AV → AV → Prop
  | .i x, .i y => x = y
  | .w8 x, .w8 y => x = y
  | .w16 x, .w16 y => x = y
  | .w32 x, .w32 y => x = y
  | .w64 x, .w64 y => x = y
  | .b x, .b y => x = y
  | .kb x, .b y => x = y
  | .kb x, .kb y => x = y
  | .b x, .kb y => x = y
  | .s x, .s y => x = y
  | .ag n c, .ag k d => Nat.beq n k = true ∧ acLe r c d
  | .p k g o, .p k' g' o' => sameK r k k' ∧ Nat.beq g g' = true ∧ Nat.beq o o' = true
  | .pr a, .pr b => avLe r a b
  | .sl k g o e a n, .sl k' g' o' e' a' n' => sameK r k k' ∧ Nat.beq g g' = true ∧ Nat.beq o o' = true ∧ Nat.beq e e' = true ∧ a = a' ∧ n = n'
  | .rb e c, .rb e' d => Nat.beq e e' = true ∧ acLe r c d
  | .rw k, .rw k' => sameK r k k'
  | .nl, .nl => True
  | .nl, .rw k' => match rlook r k' with
    | some none => True
    | _ => False
  | .pn, .pn => True
  | .cl k, .cl k' => sameK r k k'
  | .z, .z => True
  | .nl, .z => True
  | .mh k, .mh k' => sameK r k k'
  | .mn, .mn => True
  | .fv f l, .fv f' l' => Nat.beq f f' = true ∧ alLe r l l'
  | .tup l, .tup l' => alLe r l l'
  | .u, .u => True
  | _, _ => False
def acLe (r : Ren) : AC → AC → Prop
  | .bt xs, .bt ys => xs = ys
  | .wh xs, .wh ys => xs = ys
  | .wd xs, .wd ys => xs = ys
  | .ww xs, .ww ys => xs = ys
  | .is xs, .is ys => xs = ys
  | .ss xs, .ss ys => xs = ys
  | .vs l, .vs l' => alLe r l l'
  | .fn e n f, .fn e' n' f' => Nat.beq e e' = true ∧ n = n' ∧ ∀ i, i < n → avLe r (f i) (f' i)
  | .ds sh xs, .ds sh' ys => Sh.beq sh sh' = true ∧ xs = ys
  | _, _ => False
def alLe (r : Ren) : List AV → List AV → Prop
  | [], [] => True
  | a :: l, b :: l' => avLe r a b ∧ alLe r l l'
  | _, _ => False
end
def segsLe (r : Ren) : List Seg → List Seg → Prop
  | [], [] => True
  | (n, c) :: l, (k, d) :: l' => Nat.beq n k = true ∧ acLe r c d ∧ segsLe r l l'
  | _, _ => False
def abLe (r : Ren) : AB → AB → Prop
  | _, .dead => True
  | .bk T s, .bk T' s' => Nat.beq T T' = true ∧ segsLe r s s'
  | .row T e c, .row T' e' d => Nat.beq T T' = true ∧ Nat.beq e e' = true ∧ acLe r c d
  | .mp T kk vs M, .mp T' kk' vs' M' => Nat.beq T T' = true ∧ KK.beq kk kk' = true ∧ Sh.beq vs vs' = true ∧ M = M'
  | .it k a b c, .it k' a' b' c' => sameK r k k' ∧ a = a' ∧ b = b' ∧ c = c'
  | _, _ => False

/-- what is to be known: slots; of each name the slot that leads to it and what lies there -/
structure Tg where
  sl : List (Nat × AV)
  me : List (Nat × Nat × AB)
def keyOf : AV → Option (Option Nat)
  | .rw k => some (some k)
  | .p k _ _ => some (some k)
  | .pe k _ _ _ _ => some (some k)
  | .sl k _ _ _ _ _ => some (some k)
  | .cl k => some (some k)
  | .mh k => some (some k)
  | .nl => some none
  | _ => none
/-- a name met -/
def badd (k : Nat) (o : Option Nat) (r : Ren) : Ren := match rlook r k with
  | some _ => r
  | none => (k, o) :: r
mutual
def bindV : AV → AV → Ren → Ren
  | .rw k, .rw j, r => badd j (some k) r
  | .nl, .rw j, r => badd j none r
  | .rw k, .sl j _ _ _ _ _, r => badd j (some k) r
  | .sl k _ _ _ _ _, .sl j _ _ _ _ _, r => badd j (some k) r
  | .p k _ _, .p j _ _, r => badd j (some k) r
  | .cl k, .cl j, r => badd j (some k) r
  | .mh k, .mh j, r => badd j (some k) r
  | .ag _ c, .ag _ d, r => bindC c d r
  | .tup l, .tup l', r => bindL l l' r
  | .fv _ l, .fv _ l', r => bindL l l' r
  | _, _, r => r
def bindC : AC → AC → Ren → Ren
  | .vs l, .vs l', r => bindL l l' r
  | _, _, r => r
def bindL : List AV → List AV → Ren → Ren
  | a :: l, b :: l', r => bindL l l' (bindV a b r)
  | _, _, r => r
end
def bindS (sl : List (Nat × AV)) : List (Nat × AV) → Ren → Ren
  | [], r => r
  | (t, a) :: l, r => bindS sl l (bindV (sget sl t) a r)
def bindG : List Seg → List Seg → Ren → Ren
  | (_, c) :: l, (_, d) :: l', r => bindG l l' (bindC c d r)
  | _, _, r => r
def bindB : AB → AB → Ren → Ren
  | .bk _ s, .bk _ s', r => bindG s s' r
  | .row _ _ c, .row _ _ d, r => bindC c d r
  | .it k _ _ _, .it j _ _ _, r => badd j (some k) r
  | _, _, r => r
def bindM (me : Mem) : List (Nat × Nat × AB) → Ren → Ren
  | [], r => r
  | (_, j, ab) :: l, r => match rlook r j with
    | some (some k) => match mlook me k with
      | some ab0 => bindM me l (bindB ab0 ab r)
      | none => bindM me l r
    | _ => bindM me l r
def bindT (sl : List (Nat × AV)) : List (Nat × Nat × AB) → Ren → Ren
  | [], r => r
  | (t, k, _) :: q, r => match keyOf (sget sl t) with
    | some o => bindT sl q (badd k o r)
    | none => bindT sl q r
/-- these names stay -/
def pinI : List Nat → Ren
  | [] => []
  | j :: q => (j, some j) :: pinI q
def fresh1 (k : Nat) : Ren → Bool
  | [] => true
  | (k', _) :: r => match Nat.beq k k' with
    | true => false
    | false => fresh1 k r
def fresh2 (o : Option Nat) : Ren → Bool
  | [] => true
  | (_, o') :: r => match o, o' with
    | some a, some b => match Nat.beq a b with
      | true => false
      | false => fresh2 o r
    | _, _ => fresh2 o r
def renOk : Ren → Bool
  | [] => true
  | (k, o) :: r => match Nat.blt k 64, fresh1 k r, fresh2 o r with
    | true, true, true => renOk r
    | _, _, _ => false
/-- a whole row may be told as a stretch of itself, too -/
def avLeM (r : Ren) (me : Mem) : AV → AV → Prop
  | .rw k, .sl j g o e x n => match Nat.beq g 0, Nat.beq o 0, Nat.beq e 1, mlook me k with
    | true, true, true, some (.row _ 1 (.bt xs)) => sameK r k j ∧ x = 0 ∧ n = xs.length
    | _, _, _, _ => False
  | a, b => avLe r a b
def slLe (r : Ren) (me : Mem) (sl : List (Nat × AV)) : List (Nat × AV) → Prop
  | [] => True
  | (t, a) :: l => (match a with
    | .u => True
    | a => avLeM r me (sget sl t) a) ∧ slLe r me sl l
def meLe (r r' : Ren) (me : Mem) : List (Nat × Nat × AB) → Prop
  | [] => True
  | (_, k, ab) :: l => (match rlook r k with
    | some (some o) => match mlook me o with
      | some ab0 => abLe r' ab0 ab
      | none => False
    | some none => match ab with
      | .row _ _ c => acNil c
      | _ => False
    | none => False) ∧ meLe r r' me l
def inMe (k : Nat) : List (Nat × Nat × AB) → Bool
  | [] => false
  | (_, j, _) :: l => match Nat.beq j k with
    | true => true
    | false => inMe k l
/-- the names of which something is to be known -/
def keepR (l : List (Nat × Nat × AB)) : Ren → Ren
  | [] => []
  | (k, o) :: r => match inMe k l with
    | true => (k, o) :: keepR l r
    | false => keepR l r
def lt64 : Ren → Bool
  | [] => true
  | (k, _) :: r => match Nat.blt k 64 with
    | true => lt64 r
    | false => false
def LeR (s : AS) (t : Tg) (r : Ren) : Prop :=
  match renOk (keepR t.me r), lt64 r with
  | true, true => slLe r s.me s.sl t.sl ∧ meLe r r s.me t.me
  | _, _ => False
def Le (pin : List Nat) (s : AS) (t : Tg) : Prop := LeR s t (bindM s.me t.me (bindS s.sl t.sl (bindT s.sl t.me (pinI pin))))
def tgMem : List (Nat × Nat × AB) → Mem
  | [] => []
  | (_, k, ab) :: l => (k, ab) :: tgMem l
def Tg.as (t : Tg) : AS := ⟨t.sl, tgMem t.me, 64⟩

/-- what is known at a loop's head, or where ways meet again -/
structure Ann where
  S : Type
  pre : S → Prop
  mu : S → Nat
  tg : S → Tg
abbrev Anns := List (Nat × Ann)
def alook : Anns → Nat → Option Ann
  | [], _ => none
  | (k, a) :: r, t => match Nat.beq k t with
    | true => some a
    | false => alook r t
/-- within a loop: a loop's measure is at most the outer one's of this round -/
def liftA (n : Nat) : Anns → Anns
  | [] => []
  | (k, a) :: r => (k, ⟨a.S, fun t => a.pre t ∧ a.mu t ≤ n, a.mu, a.tg⟩) :: liftA n r
/-- the number of the first region -/
def firstReg : Code → Nat
  | .region id _ _ => id
  | .seq a _ => firstReg a
  | .block _ b => firstReg b
  | .cond _ a _ => firstReg a
  | .loop a => firstReg a
  | _ => 0

def lmemB (k : Nat) : List Nat → Bool
  | [] => false
  | j :: r => match Nat.beq k j with
    | true => true
    | false => lmemB k r
/-- the conditions of a piece of code. 'an': of loops, by the number of the first region in them; 'cu': of a sequence's second half, likewise -/
def vc (F : Fs) (x : Cx) (an cu : Anns) : Code → AS → (VX → AS → Prop) → Prop
  | .skip, s, K => K .normal s
  | .region id ops draw, s, K => match draw with
    | false => opsVc F x (lmemB id x.must) ops.toList ops.toList s fun s' => K .normal s'
    | true => match memBelow s.nk s.me with
      | true => drawVc F x (lmemB id x.must) (drlook x.dr id) s.nk ops.toList 0 ops.toList s fun s' => K .normal s'
      | false => False
  | .seq a b, s, K => match alook cu (firstReg b) with
    | none => vc F x an cu a s fun e s' => match e with
      | .normal => vc F x an cu b s' K
      | e => K e s'
    | some A => (vc F x an cu a s fun e s' => match e with
        | .normal => ∃ t, A.pre t ∧ Le x.pin s' (A.tg t)
        | e => K e s') ∧ ∀ t, A.pre t → vc F x an cu b (A.tg t).as K
  | .cond c a b, s, K => match oget F s.sl c with
    | .kb true => vc F x an cu a s K
    | .kb false => vc F x an cu b s K
    | .b y => (F.pB y false ∨ vc F x an cu a s K) ∧ (F.pB y true ∨ vc F x an cu b s K)
    | _ => False
  | .block id b, s, K => vc F x an cu b s fun e s' => match e with
    | .exit i => match Nat.beq i id with
      | true => K .normal s'
      | false => K e s'
    | e => K e s'
  | .exit id, s, K => K (.exit id) s
  | .ret, s, K => K .ret s
  | .loop b, s, K => match alook an (firstReg b) with
    | some A => (∃ t, A.pre t ∧ Le x.pin s (A.tg t)) ∧ ∀ t, A.pre t → vc F x (liftA (A.mu t) an) cu b (A.tg t).as fun e s' => match e with
      | .normal => ∃ t', A.pre t' ∧ A.mu t' < A.mu t ∧ Le x.pin s' (A.tg t')
      | e => K e s'
    | none => False
  | _, _, _ => False

/-! ## What a renaming keeps -/
def hren (m : Hd) (r : Ren) : Hd := ⟨fun k => match rlook r k with
  | some (some o) => m o
  | some none => some (.slice none 0 0)
  | none => none, m.ok, m.pub⟩
section
variable {m : Hd} {w : World} {r : Ren}
theorem hren_apply (k : Nat) : (hren m r) k = (match rlook r k with
  | some (some o) => m o
  | some none => some (.slice none 0 0)
  | none => none) := rfl
theorem sameK_hren {o k : Nat} (h : sameK r o k) : (hren m r) k = m o := by
  unfold sameK at h
  rw [hren_apply]
  split at h
  · rename_i o' ho
    have := beq_nat h; subst this
    rw [ho]
  · exact h.elim
theorem hren_from {k : Nat} {v : Value} (h : (hren m r) k = some v) : (∃ o, m o = some v) ∨ v = .slice none 0 0 := by
  rw [hren_apply] at h
  split at h
  · exact .inl ⟨_, h⟩
  · cases h; exact .inr rfl
  · cases h
theorem Stable.ren {b : Nat} (h : Stable m w b) : Stable (hren m r) w b := by
  refine ⟨h.1, h.2.1, ?_⟩
  rcases h.2.2 with hp | hn
  · exact .inl hp
  · refine .inr fun k v hk hv => ?_
    rcases hren_from hk with ⟨o, ho⟩ | rfl
    · exact hn o v ho hv
    · simp [blk] at hv
theorem StableAt.ren {ad : Addr} {ds : List Value} (h : StableAt m w ad ds) : StableAt (hren m r) w ad ds := ⟨h.1.ren, h.2⟩
/-- names that lead where the old ones do, what stays stays -/
structure RenOK (m : Hd) (w : World) (r : Ren) (m' : Hd) : Prop where
  same : ∀ {o k : Nat}, sameK r o k → m' k = m o
  nil : ∀ {k : Nat}, rlook r k = some none → m' k = some (.slice none 0 0)
  stab : ∀ b, Stable m w b → Stable m' w b
theorem RenOK.at_ {m' : Hd} (h : RenOK m w r m') {ad : Addr} {ds : List Value} (hs : StableAt m w ad ds) : StableAt m' w ad ds := ⟨h.stab _ hs.1, hs.2⟩
theorem RenOK.hren : RenOK m w r (hren m r) := ⟨fun h => sameK_hren h, fun h => by rw [hren_apply, h], fun b h => h.ren⟩
theorem RenOK.none : RenOK m w [] m := ⟨fun h => (show False from h).elim, fun h => by simp [rlook] at h, fun b h => h⟩
/-- under other names; what the forgotten ones lead to does not count as staying -/
def hrens (m : Hd) (r : Ren) : Hd := ⟨(hren m r).mu, fun b => m.ok b ∧ (m.pub b ∨ ∀ k v, m k = some v → blk v ≠ some b), m.pub⟩
theorem RenOK.hrens : RenOK m w r (hrens m r) := ⟨fun h => sameK_hren h, fun h => by show (Go.Vc.hren m r) _ = _; rw [hren_apply, h], fun b h => ⟨h.1, ⟨h.2.1, h.2.2⟩, h.ren.2.2⟩⟩
variable {m' : Hd}
mutual
theorem DR_renG (hR : RenOK m w r m') : ∀ (sh : Sh) (d : D) (cs : List Value), DR m w sh d cs → DR m' w sh d cs
  | .i, d, cs, hc => by simpa only [DR] using hc
  | .w8, d, cs, hc => by simpa only [DR] using hc
  | .w32, d, cs, hc => by simpa only [DR] using hc
  | .w64, d, cs, hc => by simpa only [DR] using hc
  | .b, d, cs, hc => by simpa only [DR] using hc
  | .s, d, cs, hc => by simpa only [DR] using hc
  | .l8 n, d, cs, hc => by simpa only [DR] using hc
  | .ss, d, cs, hc => by
    simp only [DR] at hc ⊢
    obtain ⟨ad, n, cap, ds, h1, h2, h3, h4, h5⟩ := hc
    exact ⟨ad, n, cap, ds, h1, h2, h3, h4, fun hn => let ⟨a, ha, hs⟩ := h5 hn; ⟨a, ha, hR.at_ hs⟩⟩
  | .bs, d, cs, hc => by
    simp only [DR] at hc ⊢
    obtain ⟨ad, n, cap, ds, h1, h2, h3, h4, h5⟩ := hc
    exact ⟨ad, n, cap, ds, h1, h2, h3, h4, fun hn => let ⟨a, ha, hs⟩ := h5 hn; ⟨a, ha, hR.at_ hs⟩⟩
  | .t l, d, cs, hc => by simp only [DR] at hc ⊢; exact DRs_renG hR l d 0 cs hc
  | .sl sh, d, cs, hc => by
    simp only [DR] at hc ⊢
    obtain ⟨ad, n, cap, ds, h1, ⟨css, g1, g2, g3⟩, h3, h4, h5⟩ := hc
    exact ⟨ad, n, cap, ds, h1, ⟨css, g1, g2, fun j x y hx hy => ⟨(g3 j x y hx hy).1, DR_renG hR sh y x (g3 j x y hx hy).2⟩⟩, h3, h4, fun hn => let ⟨a, ha, hs⟩ := h5 hn; ⟨a, ha, hR.at_ hs⟩⟩
theorem DRs_renG (hR : RenOK m w r m') : ∀ (l : List Sh) (d : D) (j : Nat) (cs : List Value), DRs m w l d j cs → DRs m' w l d j cs
  | [], d, j, cs, hc => by simpa only [DRs] using hc
  | a :: l, d, j, cs, hc => by
    simp only [DRs] at hc ⊢
    obtain ⟨c1, c2, h1, h2, h3⟩ := hc
    exact ⟨c1, c2, h1, DR_renG hR a _ c1 h2, DRs_renG hR l d (j + 1) c2 h3⟩
end
theorem DV_renG (hR : RenOK m w r m') {sh : Sh} {d : D} {v : Value} (h : DV m w sh d v) : DV m' w sh d v := let ⟨cs, h1, h2⟩ := h; ⟨cs, DR_renG hR sh d cs h1, h2⟩
theorem ER_renG {kk : KK} {vs : Sh} (hR : RenOK m w r m') : ∀ (l : List (Nat × D × D)) (es : List MapEntry), ER m w kk vs l es → ER m' w kk vs l es
  | [], es, he => he
  | (b, k, d) :: l, es, he => by
    obtain ⟨e, q, h1, h2, h3, h4, h5⟩ := he
    exact ⟨e, q, h1, h2, h3, DV_renG hR h4, ER_renG hR l q h5⟩
mutual
theorem CR_leG (hR : RenOK m w r m') : ∀ (a b : AV) (cs : List Value), avLe r a b → CR m w a cs → CR m' w b cs
  | .i x, b, cs, h, hc => by
    cases b <;> first | exact (show False from h).elim | skip
    simp only [avLe] at h; subst h; simpa only [CR] using hc
  | .w8 x, b, cs, h, hc => by
    cases b <;> first | exact (show False from h).elim | skip
    simp only [avLe] at h; subst h; simpa only [CR] using hc
  | .w16 x, b, cs, h, hc => by
    cases b <;> first | exact (show False from h).elim | skip
    simp only [avLe] at h; subst h; simpa only [CR] using hc
  | .w32 x, b, cs, h, hc => by
    cases b <;> first | exact (show False from h).elim | skip
    simp only [avLe] at h; subst h; simpa only [CR] using hc
  | .w64 x, b, cs, h, hc => by
    cases b <;> first | exact (show False from h).elim | skip
    simp only [avLe] at h; subst h; simpa only [CR] using hc
  | .s x, b, cs, h, hc => by
    cases b <;> first | exact (show False from h).elim | skip
    simp only [avLe] at h; subst h; simpa only [CR] using hc
  | .b x, b, cs, h, hc => by
    cases b <;> first | exact (show False from h).elim | skip
    all_goals (simp only [avLe] at h; subst h; simpa only [CR] using hc)
  | .kb x, b, cs, h, hc => by
    cases b <;> first | exact (show False from h).elim | skip
    all_goals (simp only [avLe] at h; subst h; simpa only [CR] using hc)
  | .u, b, cs, h, hc => by
    cases b <;> first | exact (show False from h).elim | skip
    simpa only [CR] using hc
  | .nl, b, cs, h, hc => by
    cases b <;> first | exact (show False from h).elim | skip
    · simp only [avLe] at h; simp only [CR] at hc ⊢
      split at h
      · rename_i hr
        exact ⟨.slice none 0 0, hR.nil hr, hc, rfl⟩
      · exact h.elim
    · simpa only [CR] using hc
    · simp only [CR] at hc ⊢; exact ⟨none, hc⟩
  | .cl k, b, cs, h, hc => by
    cases b <;> first | exact (show False from h).elim | skip
    simp only [avLe] at h; simp only [CR] at hc ⊢
    obtain ⟨v, h1, h2⟩ := hc
    exact ⟨v, (hR.same h).trans h1, h2⟩
  | .z, b, cs, h, hc => by
    cases b <;> first | exact (show False from h).elim | skip
    simpa only [CR] using hc
  | .mh k, b, cs, h, hc => by
    cases b <;> first | exact (show False from h).elim | skip
    simp only [avLe] at h; simp only [CR] at hc ⊢
    obtain ⟨v, h1, h2⟩ := hc
    exact ⟨v, (hR.same h).trans h1, h2⟩
  | .mn, b, cs, h, hc => by
    cases b <;> first | exact (show False from h).elim | skip
    simpa only [CR] using hc
  | .fv f l, b, cs, h, hc => by
    cases b <;> first | exact (show False from h).elim | skip
    rename_i f' l'
    simp only [avLe] at h; simp only [CR] at hc ⊢
    have := beq_nat h.1; subst this
    obtain ⟨vs, h1, h2⟩ := hc
    exact ⟨vs, h1, LR_leG hR l l' vs h.2 h2⟩
  | .pf k g o e i j c, b, cs, h, hc => by
    cases b <;> exact (show False from h).elim
  | .pn, b, cs, h, hc => by
    cases b <;> first | exact (show False from h).elim | skip
    simpa only [CR] using hc
  | .tup l, b, cs, h, hc => by simp [CR] at hc
  | .pe k g o e i, b, cs, h, hc => by
    cases b <;> exact (show False from h).elim
  | .ag n c, b, cs, h, hc => by
    cases b <;> first | exact (show False from h).elim | skip
    rename_i k d
    simp only [avLe] at h; simp only [CR] at hc ⊢
    have := beq_nat h.1; subst this
    exact ⟨hc.1, RC_leG hR c d cs h.2 hc.2⟩
  | .p k g o, b, cs, h, hc => by
    cases b <;> first | exact (show False from h).elim | skip
    simp only [avLe] at h; simp only [CR] at hc ⊢
    obtain ⟨gb, h1, h2⟩ := hc
    have := beq_nat h.2.2; subst this
    exact ⟨gb, (hR.same h.1).trans h1, h2⟩
  | .pr a, b, cs, h, hc => by
    cases b <;> first | exact (show False from h).elim | skip
    rename_i b
    simp only [avLe] at h; simp only [CR] at hc ⊢
    obtain ⟨ad, ds, h1, h2, h3⟩ := hc
    exact ⟨ad, ds, h1, CR_leG hR a b ds h h2, hR.at_ h3⟩
  | .sl k g o e a n, b, cs, h, hc => by
    cases b <;> first | exact (show False from h).elim | skip
    simp only [avLe] at h; simp only [CR] at hc ⊢
    obtain ⟨v, ad, cap, h1, h2, h3, h4, h5⟩ := hc
    obtain ⟨e0, eg, e1, e2, e3, e4⟩ := h
    have e1 := beq_nat e1; have e2 := beq_nat e2
    subst e1; subst e2; subst e3; subst e4
    exact ⟨v, ad, cap, (hR.same e0).trans h1, h2, h3, h4, h5⟩
  | .rb e c, b, cs, h, hc => by
    cases b <;> first | exact (show False from h).elim | skip
    rename_i e' d
    simp only [avLe] at h; simp only [CR] at hc ⊢
    obtain ⟨ad, n, cap, ds, h1, h2, h3, h4, h5⟩ := hc
    have e1 := beq_nat h.1; subst e1
    exact ⟨ad, n, cap, ds, h1, RC_leG hR c d ds h.2 h2, h3, h4, fun hn => let ⟨a, ha, hs⟩ := h5 hn; ⟨a, ha, hR.at_ hs⟩⟩
  | .rw k, b, cs, h, hc => by
    cases b <;> first | exact (show False from h).elim | skip
    simp only [avLe] at h; simp only [CR] at hc ⊢
    obtain ⟨v, h1, h2⟩ := hc
    exact ⟨v, (hR.same h).trans h1, h2⟩
theorem RC_leG (hR : RenOK m w r m') : ∀ (c d : AC) (cs : List Value), acLe r c d → RC m w c cs → RC m' w d cs
  | .bt xs, d, cs, h, hc => by
    cases d <;> first | exact (show False from h).elim | skip
    simp only [acLe] at h; subst h; simpa only [RC] using hc
  | .wh xs, d, cs, h, hc => by
    cases d <;> first | exact (show False from h).elim | skip
    simp only [acLe] at h; subst h; simpa only [RC] using hc
  | .wd xs, d, cs, h, hc => by
    cases d <;> first | exact (show False from h).elim | skip
    simp only [acLe] at h; subst h; simpa only [RC] using hc
  | .ww xs, d, cs, h, hc => by
    cases d <;> first | exact (show False from h).elim | skip
    simp only [acLe] at h; subst h; simpa only [RC] using hc
  | .is xs, d, cs, h, hc => by
    cases d <;> first | exact (show False from h).elim | skip
    simp only [acLe] at h; subst h; simpa only [RC] using hc
  | .ss xs, d, cs, h, hc => by
    cases d <;> first | exact (show False from h).elim | skip
    simp only [acLe] at h; subst h; simpa only [RC] using hc
  | .vs l, d, cs, h, hc => by
    cases d <;> first | exact (show False from h).elim | skip
    rename_i l'
    simp only [acLe] at h; simp only [RC] at hc ⊢; exact LR_leG hR l l' cs h hc
  | .fn e n f, d, cs, h, hc => by
    cases d <;> first | exact (show False from h).elim | skip
    rename_i e' n' f'
    simp only [acLe] at h; simp only [RC] at hc ⊢
    obtain ⟨css, h1, h2, h3⟩ := hc
    obtain ⟨e1, e2, e3⟩ := h
    have e1 := beq_nat e1; subst e1; subst e2
    refine ⟨css, h1, h2, fun j d hd => ⟨(h3 j d hd).1, ?_⟩⟩
    have hj : j < n := by rw [← h1]; exact (List.getElem?_eq_some_iff.1 hd).1
    exact CR_leG hR (f j) (f' j) d (e3 j hj) (h3 j d hd).2
  | .ds sh xs, d, cs, h, hc => by
    cases d <;> first | exact (show False from h).elim | skip
    simp only [acLe] at h
    obtain ⟨e1, e2⟩ := h
    have e1 := Sh.beq_eq _ _ e1
    subst e1; subst e2
    simp only [RC] at hc ⊢
    obtain ⟨css, h1, h2, h3⟩ := hc
    exact ⟨css, h1, h2, fun j x y hx hy => ⟨(h3 j x y hx hy).1, DR_renG hR sh y x (h3 j x y hx hy).2⟩⟩
theorem LR_leG (hR : RenOK m w r m') : ∀ (l l' : List AV) (cs : List Value), alLe r l l' → LR m w l cs → LR m' w l' cs
  | [], l', cs, h, hc => by
    cases l' with
    | nil => simpa only [LR] using hc
    | cons _ _ => exact (show False from h).elim
  | a :: l, l', cs, h, hc => by
    cases l' with
    | nil => exact (show False from h).elim
    | cons b l' =>
      simp only [alLe] at h; simp only [LR] at hc ⊢
      obtain ⟨c1, c2, h1, h2, h3⟩ := hc
      exact ⟨c1, c2, h1, CR_leG hR a b c1 h.1 h2, LR_leG hR l l' c2 h.2 h3⟩
end
end
end Go.Vc
set_option linter.unusedVariables false
set_option linter.unusedSimpArgs false
namespace Go.Vc
open Go Go.RowKit

section
variable {m m' : Hd} {w : World} {r : Ren}
theorem one_leG (hR : RenOK m w r m') (a b : AV) (v : Value) (h : avLe r a b) (hu : b ≠ .u) (ha : a.one = true) (hv : RV m w a v) : RV m' w b v := by
  have hb : b.one = true := by
    cases a <;> simp only [AV.one, Bool.false_eq_true, reduceCtorEq] at ha <;> cases b <;> first | rfl | exact (show False from h).elim
  exact RV_of_CR hb (CR_leG hR a b [v] h (CR_of_RV ha hv).1)
mutual
theorem RV_leG (hR : RenOK m w r m') : ∀ (a b : AV) (v : Value), avLe r a b → b ≠ .u → RV m w a v → RV m' w b v
  | .u, b, v, h, hu, hv => by
    cases b <;> first | exact (show False from h).elim | exact absurd rfl hu
  | .ag n c, b, v, h, hu, hv => by
    cases b <;> first | exact (show False from h).elim | skip
    rename_i k d
    simp only [avLe] at h; simp only [RV] at hv ⊢
    obtain ⟨cs, h1, h2, h3⟩ := hv
    have := beq_nat h.1; subst this
    exact ⟨cs, h1, h2, RC_leG hR c d cs h.2 h3⟩
  | .tup l, b, v, h, hu, hv => by
    cases b <;> first | exact (show False from h).elim | skip
    rename_i l'
    simp only [avLe] at h; simp only [RV] at hv ⊢
    obtain ⟨vs, h1, h2⟩ := hv
    exact ⟨vs, h1, RVs_leG hR l l' vs h h2⟩
  | .i x, b, v, h, hu, hv => one_leG hR (.i x) b v h hu rfl hv
  | .w8 x, b, v, h, hu, hv => one_leG hR (.w8 x) b v h hu rfl hv
  | .w16 x, b, v, h, hu, hv => one_leG hR (.w16 x) b v h hu rfl hv
  | .w32 x, b, v, h, hu, hv => one_leG hR (.w32 x) b v h hu rfl hv
  | .w64 x, b, v, h, hu, hv => one_leG hR (.w64 x) b v h hu rfl hv
  | .b x, b, v, h, hu, hv => one_leG hR (.b x) b v h hu rfl hv
  | .kb x, b, v, h, hu, hv => one_leG hR (.kb x) b v h hu rfl hv
  | .s x, b, v, h, hu, hv => one_leG hR (.s x) b v h hu rfl hv
  | .p k g o, b, v, h, hu, hv => one_leG hR (.p k g o) b v h hu rfl hv
  | .pe k g o e i, b, v, h, hu, hv => one_leG hR (.pe k g o e i) b v h hu rfl hv
  | .pr a, b, v, h, hu, hv => one_leG hR (.pr a) b v h hu rfl hv
  | .sl k g o e a n, b, v, h, hu, hv => one_leG hR (.sl k g o e a n) b v h hu rfl hv
  | .rb e c, b, v, h, hu, hv => one_leG hR (.rb e c) b v h hu rfl hv
  | .rw k, b, v, h, hu, hv => one_leG hR (.rw k) b v h hu rfl hv
  | .nl, b, v, h, hu, hv => one_leG hR .nl b v h hu rfl hv
  | .pn, b, v, h, hu, hv => one_leG hR .pn b v h hu rfl hv
  | .cl k, b, v, h, hu, hv => one_leG hR (.cl k) b v h hu rfl hv
  | .z, b, v, h, hu, hv => one_leG hR .z b v h hu rfl hv
  | .mh k, b, v, h, hu, hv => one_leG hR (.mh k) b v h hu rfl hv
  | .mn, b, v, h, hu, hv => one_leG hR .mn b v h hu rfl hv
  | .fv f l, b, v, h, hu, hv => one_leG hR (.fv f l) b v h hu rfl hv
  | .pf k g o e i j c, b, v, h, hu, hv => one_leG hR (.pf k g o e i j c) b v h hu rfl hv
theorem RVs_leG (hR : RenOK m w r m') : ∀ (l l' : List AV) (vs : List Value), alLe r l l' → RVs m w l vs → RVs m' w l' vs
  | [], l', vs, h, hv => by
    cases l' with
    | nil => simpa only [RVs] using hv
    | cons _ _ => exact (show False from h).elim
  | a :: l, l', vs, h, hv => by
    cases l' with
    | nil => exact (show False from h).elim
    | cons b l' =>
      simp only [alLe] at h; simp only [RVs] at hv ⊢
      obtain ⟨v, q, h1, h2, h3⟩ := hv
      refine ⟨v, q, h1, ?_, RVs_leG hR l l' q h.2 h3⟩
      by_cases hb : b = .u
      · subst hb; simp [RV]
      · exact RV_leG hR a b v h.1 hb h2
end

theorem RV_le (a b : AV) (v : Value) (h : avLe r a b) (hu : b ≠ .u) (hv : RV m w a v) : RV (hren m r) w b v := RV_leG .hren a b v h hu hv
theorem RVs_le (l l' : List AV) (vs : List Value) (h : alLe r l l') (hv : RVs m w l vs) : RVs (hren m r) w l' vs := RVs_leG .hren l l' vs h hv
theorem sameK_look {r : Ren} {k j : Nat} (h : rlook r j = some (some k)) : sameK r k j := by
  unfold sameK; rw [h]; simp
theorem SegsR_leG (hR : RenOK m w r m') : ∀ (s s' : List Seg) (cs : List Value), segsLe r s s' → SegsR m w s cs → SegsR m' w s' cs
  | [], s', cs, h, hc => by
    cases s' with
    | nil => simpa only [SegsR] using hc
    | cons _ _ => exact (show False from h).elim
  | (n, c) :: l, s', cs, h, hc => by
    cases s' with
    | nil => exact (show False from h).elim
    | cons q l' =>
      obtain ⟨k, d⟩ := q
      simp only [segsLe] at h; simp only [SegsR] at hc ⊢
      obtain ⟨c1, c2, h1, h2, h3, h4⟩ := hc
      have := beq_nat h.1; subst this
      exact ⟨c1, c2, h1, h2, RC_leG hR c d c1 h.2.1 h3, SegsR_leG hR l l' c2 h.2.2 h4⟩
theorem acNil_RC {c : AC} (h : acNil c) : RC m w c [] := by
  cases c <;> simp only [acNil] at h <;> subst h <;> simp [RC, LR]
theorem ABR_leG (hR : RenOK m w r m') {k o : Nat} {ab0 ab : AB} (hr : rlook r k = some (some o)) (h : abLe r ab0 ab) (ha : ABR m w o ab0) : ABR m' w k ab := by
  have hm : m' k = m o := hR.same (sameK_look hr)
  cases ab with
  | dead => trivial
  | bk T s =>
    cases ab0 <;> first | exact (show False from h).elim | skip
    simp only [abLe] at h
    obtain ⟨g, cs, fz, h1, h2, h3, h4⟩ := ha
    have := beq_nat h.1; subst this
    exact ⟨g, cs, fz, hm.trans h1, h2, h3, SegsR_leG hR _ _ _ h.2 h4⟩
  | row T e c =>
    cases ab0 <;> first | exact (show False from h).elim | skip
    simp only [abLe] at h
    obtain ⟨v, n, cs, h1, h2, h3⟩ := ha
    have e1 := beq_nat h.1; have e2 := beq_nat h.2.1; subst e1; subst e2
    exact ⟨v, n, cs, hm.trans h1, h2, RC_leG hR _ _ _ h.2.2 h3⟩
  | mp T kk vs M =>
    cases ab0 <;> first | exact (show False from h).elim | skip
    simp only [abLe] at h
    obtain ⟨q, es, h1, h2, h3, h4⟩ := ha
    obtain ⟨e1, e2, e3, e4⟩ := h
    have e2 := KK.beq_eq e2
    have e3 := Sh.beq_eq _ _ e3
    subst e2; subst e3; subst e4
    exact ⟨q, es, hm.trans h1, h2, ER_renG hR _ _ h3, h4⟩
  | it k0 a b c =>
    cases ab0 <;> first | exact (show False from h).elim | skip
    simp only [abLe] at h
    obtain ⟨q, rm, h1, h2, h3⟩ := ha
    obtain ⟨e1, e2, e3, e4⟩ := h
    subst e2; subst e3; subst e4
    exact ⟨q, rm, hm.trans h1, (hR.same e1).trans h2, h3⟩
theorem ABR_le {k o : Nat} {ab0 ab : AB} (hr : rlook r k = some (some o)) (h : abLe r ab0 ab) (ha : ABR m w o ab0) : ABR (hren m r) w k ab := ABR_leG .hren hr h ha
theorem abLe_live {ab0 ab : AB} (h : abLe r ab0 ab) (hl : ab.live = true) : ab0.live = true := by
  cases ab <;> cases ab0 <;> first | rfl | (simp [AB.live] at hl; done) | exact (show False from h).elim

theorem fresh2_spec : ∀ {r : Ren} {a k : Nat}, fresh2 (some a) r = true → rlook r k ≠ some (some a)
  | [], a, k, h => by simp [rlook]
  | (k', o') :: r, a, k, h => by
    simp only [fresh2] at h
    simp only [rlook]
    cases o' with
    | none =>
      have := fresh2_spec (k := k) (show fresh2 (some a) r = true from h)
      split
      · simp
      · exact this
    | some b =>
      simp only at h
      split at h
      · cases h
      · rename_i hb
        have := fresh2_spec (k := k) h
        split
        · intro e; cases e; simp at hb
        · exact this
theorem renOk_inj : ∀ {r : Ren} {k k' o : Nat}, renOk r = true → rlook r k = some (some o) → rlook r k' = some (some o) → k = k'
  | [], k, k', o, h, h1, h2 => by simp [rlook] at h1
  | (k0, o0) :: r, k, k', o, h, h1, h2 => by
    simp only [renOk] at h
    split at h
    · rename_i g1 g2 g3
      simp only [rlook] at h1 h2
      split at h1
      · rename_i e1
        have e1 := beq_nat e1; subst e1
        cases h1
        split at h2
        · rename_i e2; exact beq_nat e2
        · exact absurd h2 (fresh2_spec g3)
      · split at h2
        · cases h2
          exact absurd h1 (fresh2_spec g3)
        · exact renOk_inj h h1 h2
    · cases h
theorem lt64_lt : ∀ {r : Ren} {k : Nat} {o : Option Nat}, lt64 r = true → rlook r k = some o → k < 64
  | [], k, o, h, h1 => by simp [rlook] at h1
  | (k0, o0) :: r, k, o, h, h1 => by
    simp only [lt64] at h
    split at h
    · rename_i g1
      simp only [rlook] at h1
      split at h1
      · rename_i e1
        have e1 := beq_nat e1; subst e1
        simp [Nat.blt] at g1; omega
      · exact lt64_lt h h1
    · cases h
theorem keepR_look {l : List (Nat × Nat × AB)} {k : Nat} (hk : inMe k l = true) : ∀ (r : Ren), rlook (keepR l r) k = rlook r k
  | [] => rfl
  | (j, o) :: r => by
    simp only [keepR]
    split
    · simp only [rlook, keepR_look hk r]
    · rename_i hj
      rw [keepR_look hk r]
      simp only [rlook]
      split
      · rename_i e
        have e := beq_nat e; subst e
        rw [hk] at hj; cases hj
      · rfl
theorem inMe_of {k : Nat} {ab : AB} : ∀ {l : List (Nat × Nat × AB)}, mlook (tgMem l) k = some ab → inMe k l = true
  | [], h => by simp [tgMem, mlook] at h
  | (t, j, a) :: l, h => by
    simp only [tgMem, mlook] at h
    simp only [inMe]
    split at h
    · rename_i e; rw [e]
    · rename_i e
      split
      · rfl
      · exact inMe_of h
theorem me_entry {me : Mem} {r' : Ren} : ∀ {l : List (Nat × Nat × AB)} {k : Nat} {ab : AB}, meLe r r' me l → mlook (tgMem l) k = some ab →
    (∃ o ab0, rlook r k = some (some o) ∧ mlook me o = some ab0 ∧ abLe r' ab0 ab) ∨ (rlook r k = some none ∧ ∃ T e c, ab = .row T e c ∧ acNil c)
  | [], k, ab, h, h1 => by simp [tgMem, mlook] at h1
  | (t, k0, ab0) :: l, k, ab, h, h1 => by
    simp only [meLe] at h
    simp only [tgMem, mlook] at h1
    split at h1
    · rename_i e1
      have e1 := beq_nat e1; subst e1
      cases h1
      have h0 := h.1
      split at h0
      · rename_i o ho
        split at h0
        · rename_i ab1 hab
          exact .inl ⟨o, ab1, ho, hab, h0⟩
        · exact h0.elim
      · rename_i ho
        split at h0
        · rename_i T e c
          exact .inr ⟨ho, T, e, c, rfl, h0⟩
        · exact h0.elim
      · exact h0.elim
    · exact me_entry h.2 h1

/-! ## Bindings stay -/
theorem badd_keep {k j : Nat} {o v : Option Nat} {r : Ren} (h : rlook r j = some v) : rlook (badd k o r) j = some v := by
  unfold badd
  split
  · exact h
  · rename_i hk
    simp only [rlook]
    split
    · rename_i e; have := beq_nat e; subst this; rw [hk] at h; cases h
    · exact h
mutual
theorem bindV_keep {j : Nat} {v : Option Nat} : ∀ (a b : AV) (r : Ren), rlook r j = some v → rlook (bindV a b r) j = some v
  | .ag n c, b, r, h => by
    cases b <;> simp only [bindV] <;> first | exact h | exact bindC_keep c _ r h
  | .tup l, b, r, h => by
    cases b <;> simp only [bindV] <;> first | exact h | exact bindL_keep l _ r h
  | .fv f l, b, r, h => by
    cases b <;> simp only [bindV] <;> first | exact h | exact bindL_keep l _ r h
  | .rw k, b, r, h => by cases b <;> simp only [bindV] <;> first | exact h | exact badd_keep h
  | .nl, b, r, h => by cases b <;> simp only [bindV] <;> first | exact h | exact badd_keep h
  | .sl _ _ _ _ _ _, b, r, h => by cases b <;> simp only [bindV] <;> first | exact h | exact badd_keep h
  | .p _ _ _, b, r, h => by cases b <;> simp only [bindV] <;> first | exact h | exact badd_keep h
  | .cl _, b, r, h => by cases b <;> simp only [bindV] <;> first | exact h | exact badd_keep h
  | .mh _, b, r, h => by cases b <;> simp only [bindV] <;> first | exact h | exact badd_keep h
  | .u, b, r, h => by cases b <;> simp only [bindV] <;> exact h
  | .i _, b, r, h => by cases b <;> simp only [bindV] <;> exact h
  | .w8 _, b, r, h => by cases b <;> simp only [bindV] <;> exact h
  | .w16 _, b, r, h => by cases b <;> simp only [bindV] <;> exact h
  | .w32 _, b, r, h => by cases b <;> simp only [bindV] <;> exact h
  | .w64 _, b, r, h => by cases b <;> simp only [bindV] <;> exact h
  | .b _, b, r, h => by cases b <;> simp only [bindV] <;> exact h
  | .kb _, b, r, h => by cases b <;> simp only [bindV] <;> exact h
  | .s _, b, r, h => by cases b <;> simp only [bindV] <;> exact h
  | .pe _ _ _ _ _, b, r, h => by cases b <;> simp only [bindV] <;> exact h
  | .pr _, b, r, h => by cases b <;> simp only [bindV] <;> exact h
  | .rb _ _, b, r, h => by cases b <;> simp only [bindV] <;> exact h
  | .pn, b, r, h => by cases b <;> simp only [bindV] <;> exact h
  | .z, b, r, h => by cases b <;> simp only [bindV] <;> exact h
  | .mn, b, r, h => by cases b <;> simp only [bindV] <;> exact h
  | .pf _ _ _ _ _ _ _, b, r, h => by cases b <;> simp only [bindV] <;> exact h
theorem bindC_keep {j : Nat} {v : Option Nat} : ∀ (a b : AC) (r : Ren), rlook r j = some v → rlook (bindC a b r) j = some v
  | .vs l, b, r, h => by
    cases b <;> simp only [bindC] <;> first | exact h | exact bindL_keep l _ r h
  | .bt _, b, r, h => by cases b <;> simp only [bindC] <;> exact h
  | .wh _, b, r, h => by cases b <;> simp only [bindC] <;> exact h
  | .wd _, b, r, h => by cases b <;> simp only [bindC] <;> exact h
  | .ww _, b, r, h => by cases b <;> simp only [bindC] <;> exact h
  | .is _, b, r, h => by cases b <;> simp only [bindC] <;> exact h
  | .ss _, b, r, h => by cases b <;> simp only [bindC] <;> exact h
  | .fn _ _ _, b, r, h => by cases b <;> simp only [bindC] <;> exact h
  | .ds _ _, b, r, h => by cases b <;> simp only [bindC] <;> exact h
theorem bindL_keep {j : Nat} {v : Option Nat} : ∀ (a b : List AV) (r : Ren), rlook r j = some v → rlook (bindL a b r) j = some v
  | [], b, r, h => by cases b <;> simp only [bindL] <;> exact h
  | a :: l, b, r, h => by
    cases b with
    | nil => simp only [bindL]; exact h
    | cons b l' => simp only [bindL]; exact bindL_keep l l' _ (bindV_keep a b r h)
end
theorem bindS_keep {sl : List (Nat × AV)} {j : Nat} {v : Option Nat} : ∀ (l : List (Nat × AV)) (r : Ren), rlook r j = some v → rlook (bindS sl l r) j = some v
  | [], r, h => h
  | (t, a) :: l, r, h => bindS_keep l _ (bindV_keep _ _ r h)
theorem bindG_keep {j : Nat} {v : Option Nat} : ∀ (a b : List Seg) (r : Ren), rlook r j = some v → rlook (bindG a b r) j = some v
  | [], b, r, h => by cases b <;> simp only [bindG] <;> exact h
  | (n, c) :: l, b, r, h => by
    cases b with
    | nil => simp only [bindG]; exact h
    | cons b l' => obtain ⟨n', d⟩ := b; simp only [bindG]; exact bindG_keep l l' _ (bindC_keep c d r h)
theorem bindB_keep {j : Nat} {v : Option Nat} (a b : AB) (r : Ren) (h : rlook r j = some v) : rlook (bindB a b r) j = some v := by
  cases a <;> cases b <;> simp only [bindB] <;> first | exact h | exact bindG_keep _ _ r h | exact bindC_keep _ _ r h | exact badd_keep h
theorem bindM_keep {me : Mem} {j : Nat} {v : Option Nat} : ∀ (l : List (Nat × Nat × AB)) (r : Ren), rlook r j = some v → rlook (bindM me l r) j = some v
  | [], r, h => h
  | (t, k, ab) :: l, r, h => by
    simp only [bindM]
    split
    · split
      · exact bindM_keep l _ (bindB_keep _ _ r h)
      · exact bindM_keep l r h
    · exact bindM_keep l r h
theorem bindT_keep {sl : List (Nat × AV)} {j : Nat} {v : Option Nat} : ∀ (l : List (Nat × Nat × AB)) (r : Ren), rlook r j = some v → rlook (bindT sl l r) j = some v
  | [], r, h => h
  | (t, k, ab) :: l, r, h => by
    simp only [bindT]
    split
    · exact bindT_keep l _ (badd_keep h)
    · exact bindT_keep l r h
theorem pinI_look : ∀ (l : List Nat) (j : Nat), j ∈ l → rlook (pinI l) j = some (some j)
  | [], j, h => by simp at h
  | i :: q, j, h => by
    simp only [pinI, rlook]
    split
    · rename_i e; rw [beq_nat e]
    · rename_i e
      rcases List.mem_cons.1 h with rfl | h
      · simp at e
      · exact pinI_look q j h
theorem avLeM_soundG (hR : RenOK m w r m') {me : Mem} (hm : MemR m w me) {a b : AV} {v : Value} (h : avLeM r me a b) (hu : b ≠ .u) (hv : RV m w a v) : RV m' w b v := by
  unfold avLeM at h
  split at h
  · rename_i k j g o e x n
    split at h
    · rename_i T xs hg ho he hk
      have hg := beq_nat hg; have ho := beq_nat ho; have he := beq_nat he
      subst hg; subst ho; subst he
      obtain ⟨hs, rfl, rfl⟩ := h
      obtain ⟨v', n', cs, h1, ⟨h2, h3⟩, h4⟩ := hm.at_ k _ hk
      simp only [RV, CR] at hv ⊢
      obtain ⟨u, hu1, hu2, _⟩ := hv
      rw [h1] at hu1; cases hu1
      simp only [List.cons.injEq, and_true] at hu2
      subst hu2
      simp only [RC] at h4
      have hn : n' = xs.length := by rw [h4] at h2; simpa using h2.symm
      subst hn
      rw [hR.same hs]
      rcases h3 with ⟨ad, rfl, h5⟩ | ⟨g, o, cap, cur, fz, rfl, h6, h7, h8, h9, _⟩
      · exact ⟨_, ad, 0, h1, by rw [h5], by omega, by omega, fun c hc => by simp only [capOf, Option.some.injEq] at hc; omega⟩
      · exact ⟨_, some ⟨g, o, none⟩, cap, h1, rfl, h8, fun _ => ⟨g, blk_slice h9, by simp [bof]⟩, fun c hc => by simp only [capOf, Option.some.injEq] at hc; omega⟩
    · exact h.elim
  · exact RV_leG hR a b v h hu hv
theorem avLeM_sound {me : Mem} (hm : MemR m w me) {a b : AV} {v : Value} (h : avLeM r me a b) (hu : b ≠ .u) (hv : RV m w a v) : RV (hren m r) w b v := avLeM_soundG .hren hm h hu hv
/-- memory under other names -/
theorem MemR_le {me : Mem} {l : List (Nat × Nat × AB)} (hm : MemR m w me) (hok : renOk (keepR l r) = true) (h : meLe r r me l) : MemR (hren m r) w (tgMem l) := by
  refine ⟨fun k ab hab => ?_, fun k k' ab ab' v v' b hab hab' hl hl' hne hv hv' hb => ?_, hm.pubs, fun k ab v b hab hl hv hb => ?_, fun k ab v b hab hl hv hb => ?_, hm.okn⟩
  · rcases me_entry h hab with ⟨o, ab0, h1, h2, h3⟩ | ⟨h1, T, e, c, rfl, h2⟩
    · exact ABR_le h1 h3 (hm.at_ o ab0 h2)
    · exact ⟨.slice none 0 0, 0, [], by rw [hren_apply, h1], ⟨by simp, .inl ⟨none, rfl, rfl⟩⟩, acNil_RC h2⟩
  · rcases me_entry h hab with ⟨o, ab0, h1, h2, h3⟩ | ⟨h1, T, e, c, rfl, h2⟩
    · rcases me_entry h hab' with ⟨o', ab0', h1', h2', h3'⟩ | ⟨h1', _⟩
      · rw [hren_apply, h1] at hv
        rw [hren_apply, h1'] at hv'
        refine hm.apart o o' ab0 ab0' v v' b h2 h2' (abLe_live h3 hl) (abLe_live h3' hl') (fun e => ?_) hv hv' hb
        subst e
        exact hne (renOk_inj hok ((keepR_look (inMe_of hab) r).trans h1) ((keepR_look (inMe_of hab') r).trans h1'))
      · rw [hren_apply, h1'] at hv'
        cases hv'; simp [blk]
    · rw [hren_apply, h1] at hv
      cases hv; simp [blk] at hb
  · rcases me_entry h hab with ⟨o, ab0, h1, h2, h3⟩ | ⟨h1, T, e, c, rfl, h2⟩
    · rw [hren_apply, h1] at hv
      exact hm.live o ab0 v b h2 (abLe_live h3 hl) hv hb
    · rw [hren_apply, h1] at hv
      cases hv; simp [blk] at hb
  · rcases me_entry h hab with ⟨o, ab0, h1, h2, h3⟩ | ⟨h1, T, e, c, rfl, h2⟩
    · rw [hren_apply, h1] at hv
      exact hm.okl o ab0 v b h2 (abLe_live h3 hl) hv hb
    · rw [hren_apply, h1] at hv
      cases hv; simp [blk] at hb
theorem slLe_sound {me : Mem} {sl : List (Nat × AV)} {a : Act} (hm : MemR m w me) (hs : SlR m w sl a) : ∀ (l : List (Nat × AV)), slLe r me sl l → SlR (hren m r) w l a
  | [], _ => fun t => by simp [sget, RV]
  | (d, av) :: q, hl => fun t => by
    simp only [slLe] at hl
    simp only [sget]
    split
    · rename_i e
      have := beq_nat e; subst this
      by_cases hu : av = .u
      · subst hu; simp [RV]
      · have h1 : avLeM r me (sget sl d) av := by
          have := hl.1
          split at this
          · exact absurd rfl hu
          · exact this
        exact avLeM_sound hm h1 hu (hs d)
    · exact slLe_sound hm hs q hl.2 t
theorem Le_sound {E : Env} {nt : Nat} {s : AS} {t : Tg} {a : Act} {pin : List Nat} (hpn : ∀ j v, (j, v) ∈ E.pin → j ∈ pin) (hkp : E.keep = none) (h : Le pin s t) (hr : StR E nt s m a w) : ∃ m', StR E nt t.as m' a w := by
  unfold Le at h
  generalize hrr : bindM s.me t.me (bindS s.sl t.sl (bindT s.sl t.me (pinI pin))) = r at h
  unfold LeR at h
  split at h
  · rename_i hok hlt
    have hpin : ∀ j, j ∈ pin → rlook r j = some (some j) := fun j hj => by
      rw [← hrr]; exact bindM_keep _ _ (bindS_keep _ _ (bindT_keep _ _ (pinI_look pin j hj)))
    refine ⟨hren m r, slLe_sound hr.mem hr.sl t.sl h.1, MemR_le hr.mem hok h.2, fun k v b hk hv => ?_, fun k hk => ?_, hr.tm, hr.df, ⟨hr.fr.os, hr.fr.tape, hr.fr.output, hr.fr.size, hr.fr.ok, hr.fr.block, fun k v b hk hv => ?_, fun m0 w1 he => (by rw [hkp] at he; cases he), fun j v hj => ?_, hr.fr.pub, hr.fr.pubm⟩⟩
    · rcases hren_from hk with ⟨o, ho⟩ | rfl
      · exact hr.bd o v b ho hv
      · simp [blk] at hv
    · rw [hren_apply]
      cases hq : rlook r k with
      | none => rfl
      | some o =>
        have := lt64_lt hlt hq
        simp only [Tg.as] at hk
        omega
    · rcases hren_from hk with ⟨o, ho⟩ | rfl
      · exact hr.fr.own o v b ho hv
      · simp [blk] at hv
    · rw [hren_apply, hpin j (hpn j v hj)]
      exact hr.fr.pin j v hj
  · exact h.elim
end

/-! ## The conditions of a piece of code -/
def VX.ex : VX → Exit
  | .normal => .normal
  | .exit i => .exit i
  | .ret => .ret
theorem code_mono {P : Program} {c : Code} {Q Q' : Exit → Act → World → Prop} {a : Act} {w : World} (h : c.wp P Q a w) (hq : ∀ e a w, Q e a w → Q' e a w) : c.wp P Q' a w :=
  Code.wp_mono hq h
/-- a loop whose measure goes by what is known, not by the state itself -/
theorem wp_loop_ghost {P : Program} {c : Code} {Q : Exit → Act → World → Prop} {S : Type} (I : S → Act → World → Prop) (mu : S → Nat) (t0 : S) {a : Act} {w : World} (h0 : I t0 a w)
    (round : ∀ t a w, I t a w → c.wp P (Exit.then (fun a' w' => ∃ t', I t' a' w' ∧ mu t' < mu t) Q) a w) : (Code.loop c).wp P Q a w := by
  intro b k cs
  have key : ∀ n t a w, mu t = n → I t a w → ∃ e a' w', Q e a' w' ∧ Arrives P (lone (b.at a (.code c :: .inLoop c :: k)) cs w) b k cs e a' w' := by
    intro n
    induction n using Nat.strongRecOn with
    | _ n ih =>
      intro t a w hn hI
      obtain ⟨e, a1, w1, hq, harr⟩ := round t a w hI b (.inLoop c :: k) cs
      cases e with
      | normal =>
        obtain ⟨t', hI1, hlt⟩ := hq
        obtain ⟨e2, a2, w2, hq2, harr2⟩ := ih (mu t') (hn ▸ hlt) t' a1 w1 rfl hI1
        exact ⟨e2, a2, w2, hq2, .of_steps (Steps.trans harr (.one step_inLoop)) harr2⟩
      | exit id => exact ⟨_, a1, w1, hq, .pass (x := .inLoop c) rfl (fun _ _ => .inl (by simp)) harr⟩
      | goto l => exact ⟨_, a1, w1, hq, .pass (x := .inLoop c) rfl (fun _ _ => .inl (by simp)) harr⟩
      | ret => exact ⟨_, a1, w1, hq, .pass (x := .inLoop c) rfl (fun _ _ => .inl (by simp)) harr⟩
      | panic ch => exact ⟨_, a1, w1, hq, .pass (x := .inLoop c) rfl (fun _ _ => .inl (by simp)) harr⟩
      | outgrown => exact ⟨_, a1, w1, hq, .pass (x := .inLoop c) rfl (fun _ _ => .inl (by simp)) harr⟩
  obtain ⟨e, a', w', hq, harr⟩ := key _ t0 a w rfl h0
  exact ⟨e, a', w', hq, .of_steps (.one step_loop) harr⟩

/-- what is known behind: some state that the condition is true of -/
def Post (E : Env) (nt : Nat) (K : VX → AS → Prop) (e : Exit) (a : Act) (w : World) : Prop :=
  ∃ x s m, e = VX.ex x ∧ K x s ∧ StR E nt s m a w

section
variable {P : Program} {E : Env} {x : Cx} {cu : Anns}
theorem region_seq {id : Nat} {ops : Array Oper} {Q : Exit → Act → World → Prop} {a : Act} {w : World} (h : wpList P ops Q ops.toList a w) : (Code.region id ops false).wp P Q a w := wp_region_list h

theorem vc_sound {an : Anns} (hx : XOK P x) (hE : GE P E) (hpn : ∀ j v, (j, v) ∈ E.pin → j ∈ x.pin) (hkp : E.keep = none ∨ (an = [] ∧ cu = [])) (hmx : P.follows .mixedOrders = true) : ∀ (c : Code) (s : AS) (K : VX → AS → Prop), drawsOk x.tt x.dr c = true → vc real x an cu c s K → ∀ (m : Hd) (a : Act) (w : World), StR E x.nt s m a w → c.wp P (Post E x.nt K) a w
  | .skip, s, K, hdr, h, m, a, w, hr => wp_skip ⟨.normal, s, m, rfl, h, hr⟩
  | .region id ops draw, s, K, hdr, h, m, a, w, hr => by
    simp only [vc] at h
    cases draw with
    | false =>
      refine region_seq ?_
      have := opsVc_sound (Q := Post E x.nt K) hx hE _ ops.toList ops.toList s m a w _ h hr (fun s' m' a' w' hr' hk => ⟨.normal, s', m', rfl, hk, hr'⟩)
      simpa using this
    | true =>
      simp only at h
      split at h
      · rename_i hlow
        exact drawVc_sound hx hE hmx hdr hlow h hr fun s' m' a' w' hr' hk => ⟨.normal, s', m', rfl, hk, hr'⟩
      · exact h.elim
  | .seq c d, s, K, hdr, h, m, a, w, hr => by
    simp only [vc] at h
    simp only [drawsOk, Bool.and_eq_true] at hdr
    refine wp_seq ?_
    split at h
    · refine code_mono (vc_sound hx hE hpn hkp hmx c s _ hdr.1 h m a w hr) ?_
      rintro e a' w' ⟨y, s', m', rfl, hk, hr'⟩
      cases y with
      | normal => exact vc_sound hx hE hpn hkp hmx d s' K hdr.2 hk m' a' w' hr'
      | exit i => exact ⟨.exit i, s', m', rfl, hk, hr'⟩
      | ret => exact ⟨.ret, s', m', rfl, hk, hr'⟩
    · rename_i A hA
      have hkp' : E.keep = none := hkp.resolve_right (fun e => by rw [e.2] at hA; simp [alook] at hA)
      refine code_mono (vc_sound hx hE hpn hkp hmx c s _ hdr.1 h.1 m a w hr) ?_
      rintro e a' w' ⟨y, s', m', rfl, hk, hr'⟩
      cases y with
      | normal =>
        obtain ⟨t, ht1, ht2⟩ := hk
        obtain ⟨m2, hr2⟩ := Le_sound hpn hkp' ht2 hr'
        exact vc_sound hx hE hpn hkp hmx d _ K hdr.2 (h.2 t ht1) m2 a' w' hr2
      | exit i => exact ⟨.exit i, s', m', rfl, hk, hr'⟩
      | ret => exact ⟨.ret, s', m', rfl, hk, hr'⟩
  | .cond c t f, s, K, hdr, h, m, a, w, hr => by
    simp only [vc] at h
    simp only [drawsOk, Bool.and_eq_true] at hdr
    have hv := oget_sound hr.sl c
    split at h
    · rename_i hq
      rw [hq] at hv
      simp only [RV, CR, List.cons.injEq, and_true] at hv
      exact wp_cond_true hv (vc_sound hx hE hpn hkp hmx t s K hdr.1 h m a w hr)
    · rename_i hq
      rw [hq] at hv
      simp only [RV, CR, List.cons.injEq, and_true] at hv
      exact wp_cond_false hv (vc_sound hx hE hpn hkp hmx f s K hdr.2 h m a w hr)
    · rename_i y hq
      rw [hq] at hv
      simp only [RV, CR, List.cons.injEq, and_true] at hv
      cases y with
      | true => exact wp_cond_true hv (vc_sound hx hE hpn hkp hmx t s K hdr.1 (h.1.resolve_left (fun e => by simp [real] at e)) m a w hr)
      | false => exact wp_cond_false hv (vc_sound hx hE hpn hkp hmx f s K hdr.2 (h.2.resolve_left (fun e => by simp [real] at e)) m a w hr)
    · exact h.elim
  | .block id b, s, K, hdr, h, m, a, w, hr => by
    simp only [vc] at h
    refine wp_block ?_
    refine code_mono (vc_sound hx hE hpn hkp hmx b s _ hdr h m a w hr) ?_
    rintro e a' w' ⟨y, s', m', rfl, hk, hr'⟩
    cases y with
    | normal => exact ⟨.normal, s', m', rfl, hk, hr'⟩
    | exit i =>
      simp only [VX.ex, Exit.inBlock]
      simp only at hk
      split at hk
      · rename_i hb
        rw [if_pos (beq_nat hb)]
        exact ⟨.normal, s', m', rfl, hk, hr'⟩
      · rename_i hb
        rw [if_neg (fun e => by subst e; simp at hb)]
        exact ⟨.exit i, s', m', rfl, hk, hr'⟩
    | ret => exact ⟨.ret, s', m', rfl, hk, hr'⟩
  | .exit id, s, K, hdr, h, m, a, w, hr => wp_exit ⟨.exit id, s, m, rfl, h, hr⟩
  | .ret, s, K, hdr, h, m, a, w, hr => wp_ret ⟨.ret, s, m, rfl, h, hr⟩
  | .loop b, s, K, hdr, h, m, a, w, hr => by
    simp only [vc] at h
    split at h
    · rename_i A hA
      have hkp' : E.keep = none := hkp.resolve_right (fun e => by rw [e.1] at hA; simp [alook] at hA)
      obtain ⟨⟨t0, hp0, hl0⟩, hround⟩ := h
      obtain ⟨m0, hr0⟩ := Le_sound hpn hkp' hl0 hr
      refine wp_loop_ghost (S := A.S) (fun t a w => A.pre t ∧ ∃ m, StR E x.nt (A.tg t).as m a w) A.mu t0 ⟨hp0, m0, hr0⟩ ?_
      rintro t a' w' ⟨hp, m', hr'⟩
      refine code_mono (vc_sound hx hE hpn (.inl hkp') hmx b _ _ hdr (hround t hp) m' a' w' hr') ?_
      rintro e a2 w2 ⟨y, s2, m2, rfl, hk, hr2⟩
      cases y with
      | normal =>
        obtain ⟨t', hp', hmu, hle⟩ := hk
        obtain ⟨m3, hr3⟩ := Le_sound hpn hkp' hle hr2
        exact ⟨t', ⟨hp', m3, hr3⟩, hmu⟩
      | exit i => exact ⟨.exit i, s2, m2, rfl, hk, hr2⟩
      | ret => exact ⟨.ret, s2, m2, rfl, hk, hr2⟩
    · exact h.elim
  | .rangeFunc _ _ _ _, s, K, hdr, h, m, a, w, hr => by simp [vc] at h
  | .scope _, s, K, hdr, h, m, a, w, hr => by simp [vc] at h
  | .label _, s, K, hdr, h, m, a, w, hr => by simp [vc] at h
  | .goto _, s, K, hdr, h, m, a, w, hr => by simp [vc] at h
  | .refuse _, s, K, hdr, h, m, a, w, hr => by simp [vc] at h
end
end Go.Vc
set_option linter.unusedVariables false
set_option linter.unusedSimpArgs false
namespace Go.Vc
open Go Go.RowKit

/-! ## Results -/
def resK (F : Fs) (tt : TT) (s : AS) : List ResultVar → (List AV → Prop) → Prop
  | [], K => K []
  | .tmp t :: r, K => resK F tt s r fun l => K (sget s.sl t :: l)
  | .cell a T :: r, K => match (loadEv F tt T (sget s.sl a)).run s.me with
    | some e => e.c ∧ resK F tt s r fun l => K (e.v :: l)
    | none => False
def tupAV : List AV → AV
  | [a] => a
  | l => .tup l
def endK (F : Fs) (tt : TT) (fr : List ResultVar) (K : List AV → AS → Prop) : VX → AS → Prop
  | .normal, s => resK F tt s fr fun l => K l s
  | .ret, s => resK F tt s fr fun l => K l s
  | .exit _, _ => False
def zipSl : Nat → List AV → List (Nat × AV)
  | _, [] => []
  | i, a :: r => (i, a) :: zipSl (Nat.succ i) r
/-- a call whose callee's code is gone through in place -/
def inl (F : Fs) (x : Cx) (body : Code) (fr : List ResultVar) : KSpec := fun args s K =>
  match Nat.ble (llen args) x.nt with
  | true => vc F x [] [] body ⟨zipSl 0 args, s.me, s.nk⟩ (endK F x.tt fr fun l s' => K (tupAV l) s')
  | false => False

def resOne (a : Act) : ResultVar → Sem Value
  | .tmp t => pure (a.tmps.getD t undef)
  | .cell b t => do loadVar t (← asAddr (a.tmps.getD b undef))
section
variable {P : Program} {E : Env} {x : Cx} {m : Hd} {w : World}
theorem resK_sound (ht : TTok P x.tt) {s : AS} {a : Act} (hr : StR E x.nt s m a w) : ∀ (l : List ResultVar) (K : List AV → Prop), resK real x.tt s l K →
    ∃ vs avs, (l.mapM (resOne a)).run P w = .ok vs w ∧ RVs m w avs vs ∧ K avs
  | [], K, h => ⟨[], [], rfl, by simp [RVs], h⟩
  | .tmp t :: r, K, h => by
    obtain ⟨vs, avs, h1, h2, h3⟩ := resK_sound ht hr r _ h
    refine ⟨a.tmps.getD t undef :: vs, sget s.sl t :: avs, ?_, ?_, h3⟩
    · rw [List.mapM_cons]
      simp only [resOne, Sem.run_bind, Sem.run_pure, Result.andThen_ok]
      rw [h1]; rfl
    · simp only [RVs]; exact ⟨_, _, rfl, hr.sl t, h2⟩
  | .cell b T :: r, K, h => by
    simp only [resK] at h
    split at h
    · rename_i e he
      obtain ⟨hc, h⟩ := h
      obtain ⟨vs, avs, h1, h2, h3⟩ := resK_sound ht hr r _ h
      obtain ⟨v, g1, g2⟩ := load_sound (P := P) ht hr.base (hr.sl b) he hc
      refine ⟨v :: vs, e.v :: avs, ?_, ?_, h3⟩
      · have g3 : (do loadVar T (← asAddr (a.tmps.getD b undef)) : Sem Value).run P w = .ok v w := by
          unfold Instr.loadAt Instr.sureAddr at g1
          revert g1
          cases a.tmps.getD b undef with
          | pointer p => cases p <;> simp [asAddr, Sem.run_bind]
          | _ => simp [asAddr, Sem.run_bind]
        rw [List.mapM_cons]
        simp only [resOne, Sem.run_bind] at g3 ⊢
        rw [g3]
        simp only [Result.andThen_ok]
        rw [h1]; rfl
      · simp only [RVs]; exact ⟨_, _, rfl, g2.rv, h2⟩
    · exact h.elim
theorem tupAV_sound {avs : List AV} {vs : List Value} (h : RVs m w avs vs) : RV m w (tupAV avs) (if h : vs.toArray.size = 1 then vs.toArray[0] else .tuple vs.toArray) := by
  cases avs with
  | nil =>
    simp only [RVs] at h; subst h
    simp [tupAV, RV, RVs]
  | cons b r =>
    have h0 := h
    simp only [RVs] at h
    obtain ⟨v, q, rfl, h1, h2⟩ := h
    cases r with
    | nil =>
      simp only [RVs] at h2; subst h2
      simpa [tupAV] using h1
    | cons c r2 =>
      simp only [RVs] at h2
      obtain ⟨v2, q2, rfl, h3, h4⟩ := h2
      simp only [tupAV, RV]
      exact ⟨_, by simp, h0⟩
theorem ends_sound (ht : TTok P x.tt) {fn : Func} {K : List AV → AS → Prop} {R : Ending → World → Prop} (hR : ∀ l vs s m w, RVs m w l vs → K l s → StM E s.me s.nk m w → R (.returned (if h : vs.toArray.size = 1 then vs.toArray[0] else .tuple vs.toArray)) w)
    {e : Exit} {a : Act} (h : Post E x.nt (endK real x.tt fn.results.toList K) e a w) : bodyPost P fn R e a w := by
  obtain ⟨y, s, m', rfl, hk, hr⟩ := h
  have key : resK real x.tt s fn.results.toList (fun l => K l s) → a.defers = [] ∧ ∃ v, (results fn a.tmps).run P w = .ok v w ∧ R (.returned v) w := by
    intro hk
    obtain ⟨vs, avs, h1, h2, h3⟩ := resK_sound ht hr _ _ hk
    refine ⟨hr.df, _, ?_, hR avs vs s m' w h2 h3 ⟨hr.mem, hr.bd, hr.nk, hr.fr⟩⟩
    have e1 : results fn a.tmps = (do let vs ← fn.results.mapM (resOne a); pure (if h : vs.size = 1 then vs[0] else .tuple vs)) := by
      unfold results
      have : (fun r : ResultVar => match r with
        | .tmp t => (pure (a.tmps.getD t undef) : Sem Value)
        | .cell b t => do loadVar t (← asAddr (a.tmps.getD b undef))) = resOne a := by funext r; cases r <;> rfl
      rw [← this]
      rfl
    rw [e1]
    rw [Array.mapM_eq_mapM_toList]
    simp only [Sem.run_bind, map_eq_pure_bind]
    rw [h1]
    rfl
  cases y with
  | normal => exact key hk
  | ret => exact key hk
  | exit i => exact hk.elim
theorem llen_eq (l : List AV) : llen l = l.length := by induction l <;> simp_all [llen]
theorem RVs_length : ∀ {l : List AV} {vs : List Value}, RVs m w l vs → vs.length = l.length
  | [], vs, h => by simp only [RVs] at h; subst h; rfl
  | a :: l, vs, h => by
    simp only [RVs] at h
    obtain ⟨v, r, rfl, _, h2⟩ := h
    simp [RVs_length h2]
theorem zipSl_sound {n : Nat} : ∀ (l : List AV) (i : Nat) (pre vs : List Value), RVs m w l vs → pre.length = i → SlR m w (zipSl i l) { tmps := (pre ++ vs).toArray ++ Array.replicate n undef, defers := [] }
  | [], i, pre, vs, h, hi => fun t => by simp [zipSl, sget, RV]
  | b :: l, i, pre, vs, h, hi => fun t => by
    simp only [RVs] at h
    obtain ⟨v, r, rfl, h1, h2⟩ := h
    have ih := zipSl_sound (n := n) l (i + 1) (pre ++ [v]) r h2 (by simp [hi]) t
    simp only [zipSl, sget]
    split
    · rename_i e
      have := beq_nat e; subst this
      have e1 : (((pre ++ v :: r).toArray ++ Array.replicate n undef).getD i undef) = v := by
        rw [Array.getD_eq_getD_getElem?, Array.getElem?_append_left (by simp; omega)]
        simp [← hi]
      rw [e1]; exact h1
    · simpa using ih
theorem entry_sl {args : List AV} {vals : List Value} (h : RVs m w args vals) (n : Nat) : SlR m w (zipSl 0 args) { tmps := vals.toArray ++ Array.replicate n undef, defers := [] } := by
  simpa using zipSl_sound args 0 [] vals h rfl

end
end Go.Vc
