/- A part of the proof of given statements: a verified condition generator for the model, and contracts of the program's functions. No condition. -/
import Derived.Test.YtegnmmfjbncgnaaVcSnd9
set_option linter.unusedVariables false
set_option linter.unusedSimpArgs false
namespace Go.Vc
open Go Go.RowKit

section
variable {P : Program} {tt : TT} {m : Hd} {w : World} {me : Mem} {kb : Nat}

theorem oneEff_run {r : Option (Prop × AV)} {e : Eff} (h : (oneEff r).run me = some e) : ∃ c v, r = some (c, v) ∧ e = ⟨c, v, []⟩ := by
  unfold oneEff at h
  split at h
  · exact ⟨_, _, rfl, Look.run_pure1 h⟩
  · exact (Look.run_no h).elim

/-! ## Numbers -/
theorem num_val {a : AV} {v : Value} {n : Int} (h : a.num real = some n) (hv : RV m w a v) : ∃ k, v = .int k n := num_int h hv
theorem unEv_sound {op : UnOp} {x : AV} {vx : Value} {c : Prop} {r : AV} (h : unEv real op x = some (c, r)) (hx : RV m w x vx) :
    ∃ v, (Op.unary op vx).run P w = .ok v w ∧ RV m w r v := by
  unfold unEv at h
  split at h <;> cases h <;> simp only [RV, CR, List.cons.injEq, and_true] at hx <;> subst hx
  · exact ⟨_, rfl, by simp [RV, CR, real]⟩
  · exact ⟨_, rfl, by simp [RV, CR, real]⟩
  · exact ⟨_, rfl, by simp [RV, CR, real]⟩
  · exact ⟨_, rfl, by simp [RV, CR, real]⟩
  · rename_i a; exact ⟨_, rfl, by have := sub_u8 0 a; simpa [RV, CR, real] using this⟩
  · rename_i a; exact ⟨_, rfl, by have := sub_u16 0 a; simpa [RV, CR, real] using this⟩
  · rename_i a; exact ⟨_, rfl, by have := sub_u32 0 a; simpa [RV, CR, real] using this⟩
  · rename_i a; exact ⟨_, rfl, by have := sub_u64 0 a; simpa [RV, CR, real] using this⟩
  · rename_i a; exact ⟨_, rfl, by simp only [RV, CR, real]; rw [← not_u8]; rfl⟩
  · rename_i a; exact ⟨_, rfl, by simp only [RV, CR, real]; rw [← not_u16]; rfl⟩
  · rename_i a; exact ⟨_, rfl, by simp only [RV, CR, real]; rw [← not_u32]; rfl⟩
  · rename_i a; exact ⟨_, rfl, by simp only [RV, CR, real]; rw [← not_u64]; rfl⟩
theorem intTo_sound {k : IntKind} {n : Int} {v : AV} (h : intTo real k n = some v) : RV m w v (.int k (k.wrap n)) := by
  unfold intTo at h
  split at h <;> cases h
  · simp [RV, CR, real]
  · simp only [RV, CR, real, ofI_u8]
  · simp only [RV, CR, real, ofI_u16]
  · simp only [RV, CR, real, ofI_u32]
  · simp only [RV, CR, real, ofI_u64]

/-! ## Conversions -/
theorem run_conv_int {src dst : Nat} {j k : IntKind} {n : Int} (hd : P.underlying dst = some (.int k)) {ds : TypeDesc} (hs : P.underlying src = some ds) : (convert src dst (.int j n)).run P w = .ok (.int k (k.wrap n)) w := by
  cases ds <;> simp [convert, run_underlying hd, run_underlying hs, Conv.intToInt]
theorem markStringish_run {w : World} {g : Nat} {cs : Array Value} {T : Nat} {fz : Nat × Nat} (h : w.heap[g]? = some (.cells cs T fz)) :
    (markStringish ⟨g, 0, none⟩).run P w = .ok () (w.freeze ⟨g, cs.size, none⟩ 1) := by
  simp [markStringish, World.shape?, h]
theorem bytes_loop (f : Value → ByteArray → Sem (ForInStep ByteArray)) (hf : ∀ (x : UInt8) s, f (E8 x) s = pure (ForInStep.yield (s.push x))) (xs : List UInt8) : ∀ (acc : List UInt8) (w : World),
    (forIn (xs.map E8) (⟨acc.toArray⟩ : ByteArray) f).run P w = .ok ⟨(acc ++ xs).toArray⟩ w := by
  induction xs with
  | nil => intro acc w; simp
  | cons x r ih =>
    intro acc w
    simp only [List.map_cons, List.forIn_cons, hf, Sem.run_bind, Sem.run_pure, Result.andThen_ok]
    have e : (⟨acc.toArray⟩ : ByteArray).push x = ⟨(acc ++ [x]).toArray⟩ := by
      apply ByteArray.ext; simp
    rw [e]
    have := ih (acc ++ [x]) w
    simpa using this
theorem run_bytesToString {v : Value} {xs : List UInt8} (h : SliceCells w v (xs.map E8)) : (Conv.bytesToString v).run P w = .ok (.string ⟨xs.toArray⟩) w := by
  obtain ⟨ad, n, cap, rfl, h1, h2, h3⟩ := h
  have hl : xs.length = n := by simpa using h1
  cases ad with
  | none =>
    have : n = 0 := by
      rcases Nat.eq_zero_or_pos n with h | h
      · exact h
      · obtain ⟨a, ha, _⟩ := h3 h; cases ha
    subst this
    have : xs = [] := List.eq_nil_of_length_eq_zero hl
    subst this
    rfl
  | some a =>
    have hld : (loadCells a n).run P w = .ok (xs.map E8).toArray w := by
      rcases Nat.eq_zero_or_pos n with h | h
      · subst h
        have : xs = [] := List.eq_nil_of_length_eq_zero hl
        subst this
        simpa using run_loadCells_list (P := P) w a [] (by simp)
      · obtain ⟨a', ha, hc⟩ := h3 h
        cases ha
        have := run_loadCells_list (P := P) w a (xs.map E8) hc
        rw [h1] at this
        exact this
    simp only [Conv.bytesToString, Sem.run_bind, hld, Result.andThen_ok, List.forIn_toArray]
    have e : ByteArray.empty = (⟨([] : List UInt8).toArray⟩ : ByteArray) := rfl
    rw [e, bytes_loop (P := P) _ (fun x s => by simp) xs [] w]
    simp
end
end Go.Vc
