/- A part of the proof of given statements: a verified condition generator for the model, and contracts of the program's functions. No condition. -/
import Derived.Test.YtegnmmfjbncgnaaVcPure
set_option linter.unusedVariables false
set_option linter.unusedSimpArgs false
namespace Go.Vc
open Go Go.RowKit

/-! ## Types -/
def TKok (P : Program) (T : Nat) : TK → Prop
  | .int k => P.underlying T = some (.int k)
  | .bool => P.underlying T = some .bool
  | .str => P.underlying T = some .string
  | .slice e => P.underlying T = some (.slice e)
  | .ptr e => P.underlying T = some (.pointer e)
  | .arr n e => P.underlying T = some (.array n e)
  | .st fs => ∃ gs : Array Field, P.underlying T = some (.struct gs) ∧ gs.toList.map (fun f => (f.type, f.offset)) = fs.map (fun x => (x.1, x.2.2)) ∧ ∀ f ∈ gs.toList, P.cellsOf f.type ≠ 0
  | .other => True
def aggD : TypeDesc → Bool
  | .struct _ => true
  | .array _ _ => true
  | _ => false
def Lay.isAgg : Lay → Bool
  | .one _ => false
  | _ => true
structure TIok (P : Program) (T : Nat) (ti : TI) : Prop where
  k : TKok P T ti.k
  agg : (P.underlying T).map aggD = some ti.lay.isAgg
  cells : ti.lay.cells = ti.sz
  i : ∃ i z, P.info? T = some i ∧ i.size = ti.sz ∧ i.bytes = ti.bytes ∧ i.zero = some z ∧ z.cells.size = ti.sz ∧ (∀ m w, SegsR m w ti.lay.segs z.cells.toList) ∧
    (∀ ek, ti.ek = some ek → z.cells = #[z] ∧ z.oneCell' = true ∧ ∀ m w n, RC m w (ek.rep real n) (List.replicate n z))
def TTok (P : Program) (tt : TT) : Prop := ∀ p ∈ tt, TIok P p.1 p.2
theorem TTok.look {P : Program} {tt : TT} (h : TTok P tt) {T : Nat} {ti : TI} (hl : tlook tt T = some ti) : TIok P T ti := by
  induction tt with
  | nil => simp [tlook] at hl
  | cons a r ih =>
    obtain ⟨k, t⟩ := a
    simp only [tlook] at hl
    split at hl
    · rename_i e
      have := Nat.eq_of_beq_eq_true e
      subst this; cases hl
      exact h (k, ti) (by simp)
    · exact ih (fun p hp => h p (by simp [hp])) hl

/-! ## Numbers -/
theorem num_int {m : Hd} {w : World} {a : AV} {v : Value} {n : Int} (h : a.num real = some n) (hv : RV m w a v) : ∃ k, v = .int k n := by
  cases a <;> simp [AV.num, real] at h <;> simp [RV, CR] at hv <;> subst h <;> subst hv <;> exact ⟨_, rfl⟩

theorem quo_run {P : Program} {w : World} {T : Nat} (k : IntKind) (a b : Int) (hb : b ≠ 0) : (binOp .quo T (.int k a) (.int k b)).run P w = .ok (.int k (k.wrap (a.tdiv b))) w := by
  simp [binOp, Op.intDiv, hb]
theorem rem_run {P : Program} {w : World} {T : Nat} (k : IntKind) (a b : Int) (hb : b ≠ 0) : (binOp .rem T (.int k a) (.int k b)).run P w = .ok (.int k (a.tmod b)) w := by
  simp [binOp, Op.intDiv, hb]
theorem intEv_sound {P : Program} {op : BinOp} {a b : Int} {c : Prop} {r : AV} {T : Nat} {m : Hd} {w : World} (h : intEv real op a b = some (c, r)) (hc : c)
    (hs : op ≠ .shl) (hs2 : op ≠ .shr) : ∃ v, (binOp op T (.int .i64 a) (.int .i64 b)).run P w = .ok v w ∧ RV m w r v := by
  cases op <;> simp only [intEv] at h <;> cases h
  case add => exact ⟨_, rfl, by simp [RV, CR, real]⟩
  case sub => exact ⟨_, rfl, by simp [RV, CR, real]⟩
  case mul => exact ⟨_, rfl, by simp [RV, CR, real]⟩
  case quo => exact ⟨_, quo_run _ _ _ hc, by simp [RV, CR, real]⟩
  case rem => exact ⟨_, rem_run _ _ _ hc, by simp [RV, CR, real]⟩
  case and => exact ⟨_, rfl, by simp only [RV, CR, real, ibits]; rfl⟩
  case or => exact ⟨_, rfl, by simp only [RV, CR, real, ibits]; rfl⟩
  case xor => exact ⟨_, rfl, by simp only [RV, CR, real, ibits]; rfl⟩
  case andNot => exact ⟨_, rfl, by simp only [RV, CR, real, ibits]; rfl⟩
  case eql => exact ⟨_, rfl, by simp [RV, CR, real]⟩
  case neq => exact ⟨_, rfl, by simp [RV, CR, real, bne]⟩
  case lss => exact ⟨_, rfl, by simp [RV, CR, real]⟩
  case leq => exact ⟨_, rfl, by simp [RV, CR, real]⟩
  case gtr => exact ⟨_, rfl, by simp [RV, CR, real]⟩
  case geq => exact ⟨_, rfl, by simp [RV, CR, real]⟩

theorem w8Ev_sound {P : Program} {op : BinOp} {a b : UInt8} {c : Prop} {r : AV} {T : Nat} {m : Hd} {w : World} (h : w8Ev real op a b = some (c, r)) (hc : c)
    (hs : op ≠ .shl) (hs2 : op ≠ .shr) : ∃ v, (binOp op T (.int .u8 a.toNat) (.int .u8 b.toNat)).run P w = .ok v w ∧ RV m w r v := by
  cases op <;> simp only [w8Ev] at h <;> cases h
  case add => exact ⟨_, rfl, by simp only [RV, CR, real, add_u8]⟩
  case sub => exact ⟨_, rfl, by simp only [RV, CR, real, sub_u8]⟩
  case mul => exact ⟨_, rfl, by simp only [RV, CR, real, mul_u8]⟩
  case quo => exact ⟨_, quo_run _ _ _ (by simpa only [real] using hc), by simp only [RV, CR, real, quo_u8]⟩
  case rem => exact ⟨_, rem_run _ _ _ (by simpa only [real] using hc), by simp only [RV, CR, real, rem_u8]⟩
  case and => exact ⟨_, rfl, by simp only [RV, CR, real, and_u8]⟩
  case or => exact ⟨_, rfl, by simp only [RV, CR, real, or_u8]⟩
  case xor => exact ⟨_, rfl, by simp only [RV, CR, real, xor_u8]⟩
  case andNot => exact ⟨_, rfl, by simp only [RV, CR, real, andNot_u8]⟩
  case eql => exact ⟨_, rfl, by simp only [RV, CR, real, eq_u8]⟩
  case neq => exact ⟨_, rfl, by simp only [RV, CR, real, bne, eq_u8]⟩
  case lss => exact ⟨_, rfl, by simp [RV, CR, real]⟩
  case leq => exact ⟨_, rfl, by simp [RV, CR, real]⟩
  case gtr => exact ⟨_, rfl, by simp [RV, CR, real]⟩
  case geq => exact ⟨_, rfl, by simp [RV, CR, real]⟩
theorem w16Ev_sound {P : Program} {op : BinOp} {a b : UInt16} {c : Prop} {r : AV} {T : Nat} {m : Hd} {w : World} (h : w16Ev real op a b = some (c, r)) (hc : c)
    (hs : op ≠ .shl) (hs2 : op ≠ .shr) : ∃ v, (binOp op T (.int .u16 a.toNat) (.int .u16 b.toNat)).run P w = .ok v w ∧ RV m w r v := by
  cases op <;> simp only [w16Ev] at h <;> cases h
  case add => exact ⟨_, rfl, by simp only [RV, CR, real, add_u16]⟩
  case sub => exact ⟨_, rfl, by simp only [RV, CR, real, sub_u16]⟩
  case mul => exact ⟨_, rfl, by simp only [RV, CR, real, mul_u16]⟩
  case quo => exact ⟨_, quo_run _ _ _ (by simpa only [real] using hc), by simp only [RV, CR, real, quo_u16]⟩
  case rem => exact ⟨_, rem_run _ _ _ (by simpa only [real] using hc), by simp only [RV, CR, real, rem_u16]⟩
  case and => exact ⟨_, rfl, by simp only [RV, CR, real, and_u16]⟩
  case or => exact ⟨_, rfl, by simp only [RV, CR, real, or_u16]⟩
  case xor => exact ⟨_, rfl, by simp only [RV, CR, real, xor_u16]⟩
  case andNot => exact ⟨_, rfl, by simp only [RV, CR, real, andNot_u16]⟩
  case eql => exact ⟨_, rfl, by simp only [RV, CR, real, eq_u16]⟩
  case neq => exact ⟨_, rfl, by simp only [RV, CR, real, bne, eq_u16]⟩
  case lss => exact ⟨_, rfl, by simp [RV, CR, real]⟩
  case leq => exact ⟨_, rfl, by simp [RV, CR, real]⟩
  case gtr => exact ⟨_, rfl, by simp [RV, CR, real]⟩
  case geq => exact ⟨_, rfl, by simp [RV, CR, real]⟩
theorem w32Ev_sound {P : Program} {op : BinOp} {a b : UInt32} {c : Prop} {r : AV} {T : Nat} {m : Hd} {w : World} (h : w32Ev real op a b = some (c, r)) (hc : c)
    (hs : op ≠ .shl) (hs2 : op ≠ .shr) : ∃ v, (binOp op T (.int .u32 a.toNat) (.int .u32 b.toNat)).run P w = .ok v w ∧ RV m w r v := by
  cases op <;> simp only [w32Ev] at h <;> cases h
  case add => exact ⟨_, rfl, by simp only [RV, CR, real, add_u32]⟩
  case sub => exact ⟨_, rfl, by simp only [RV, CR, real, sub_u32]⟩
  case mul => exact ⟨_, rfl, by simp only [RV, CR, real, mul_u32]⟩
  case quo => exact ⟨_, quo_run _ _ _ (by simpa only [real] using hc), by simp only [RV, CR, real, quo_u32]⟩
  case rem => exact ⟨_, rem_run _ _ _ (by simpa only [real] using hc), by simp only [RV, CR, real, rem_u32]⟩
  case and => exact ⟨_, rfl, by simp only [RV, CR, real, and_u32]⟩
  case or => exact ⟨_, rfl, by simp only [RV, CR, real, or_u32]⟩
  case xor => exact ⟨_, rfl, by simp only [RV, CR, real, xor_u32]⟩
  case andNot => exact ⟨_, rfl, by simp only [RV, CR, real, andNot_u32]⟩
  case eql => exact ⟨_, rfl, by simp only [RV, CR, real, eq_u32]⟩
  case neq => exact ⟨_, rfl, by simp only [RV, CR, real, bne, eq_u32]⟩
  case lss => exact ⟨_, rfl, by simp [RV, CR, real]⟩
  case leq => exact ⟨_, rfl, by simp [RV, CR, real]⟩
  case gtr => exact ⟨_, rfl, by simp [RV, CR, real]⟩
  case geq => exact ⟨_, rfl, by simp [RV, CR, real]⟩
theorem w64Ev_sound {P : Program} {op : BinOp} {a b : UInt64} {c : Prop} {r : AV} {T : Nat} {m : Hd} {w : World} (h : w64Ev real op a b = some (c, r)) (hc : c)
    (hs : op ≠ .shl) (hs2 : op ≠ .shr) : ∃ v, (binOp op T (.int .u64 a.toNat) (.int .u64 b.toNat)).run P w = .ok v w ∧ RV m w r v := by
  cases op <;> simp only [w64Ev] at h <;> cases h
  case add => exact ⟨_, rfl, by simp only [RV, CR, real, add_u64]⟩
  case sub => exact ⟨_, rfl, by simp only [RV, CR, real, sub_u64]⟩
  case mul => exact ⟨_, rfl, by simp only [RV, CR, real, mul_u64]⟩
  case quo => exact ⟨_, quo_run _ _ _ (by simpa only [real] using hc), by simp only [RV, CR, real, quo_u64]⟩
  case rem => exact ⟨_, rem_run _ _ _ (by simpa only [real] using hc), by simp only [RV, CR, real, rem_u64]⟩
  case and => exact ⟨_, rfl, by simp only [RV, CR, real, and_u64]⟩
  case or => exact ⟨_, rfl, by simp only [RV, CR, real, or_u64]⟩
  case xor => exact ⟨_, rfl, by simp only [RV, CR, real, xor_u64]⟩
  case andNot => exact ⟨_, rfl, by simp only [RV, CR, real, andNot_u64]⟩
  case eql => exact ⟨_, rfl, by simp only [RV, CR, real, eq_u64]⟩
  case neq => exact ⟨_, rfl, by simp only [RV, CR, real, bne, eq_u64]⟩
  case lss => exact ⟨_, rfl, by simp [RV, CR, real]⟩
  case leq => exact ⟨_, rfl, by simp [RV, CR, real]⟩
  case gtr => exact ⟨_, rfl, by simp [RV, CR, real]⟩
  case geq => exact ⟨_, rfl, by simp [RV, CR, real]⟩

theorem bytesLess_asymm : ∀ (a b : List UInt8), Op.bytesLess a b = true → Op.bytesLess b a = false
  | [], [], h => by simp [Op.bytesLess] at h
  | [], _ :: _, _ => by simp [Op.bytesLess]
  | _ :: _, [], h => by simp [Op.bytesLess] at h
  | a :: x, b :: y, h => by
    simp only [Op.bytesLess, Bool.or_eq_true, decide_eq_true_eq, Bool.and_eq_true, beq_iff_eq, Bool.or_eq_false_iff, decide_eq_false_iff_not, Bool.and_eq_false_iff] at h ⊢
    rcases h with h | ⟨rfl, h⟩
    · exact ⟨by simp only [UInt8.lt_iff_toNat_lt] at h ⊢; omega, .inl (by simp; intro e; subst e; simp only [UInt8.lt_iff_toNat_lt] at h; omega)⟩
    · exact ⟨by simp only [UInt8.lt_iff_toNat_lt]; omega, .inr (bytesLess_asymm x y h)⟩
theorem bytesLess_irr (a : List UInt8) : Op.bytesLess a a = false := by
  cases h : Op.bytesLess a a with
  | false => rfl
  | true => have := bytesLess_asymm a a h; rw [h] at this; exact this
theorem bytesLess_conn : ∀ (a b : List UInt8), Op.bytesLess a b = false → Op.bytesLess b a = false → a = b
  | [], [], _, _ => rfl
  | [], _ :: _, h, _ => by simp [Op.bytesLess] at h
  | _ :: _, [], _, h => by simp [Op.bytesLess] at h
  | a :: x, b :: y, h, g => by
    simp only [Op.bytesLess, Bool.or_eq_false_iff, decide_eq_false_iff_not, Bool.and_eq_false_iff, beq_eq_false_iff_ne] at h g
    have e : a = b := by
      obtain ⟨h1, _⟩ := h; obtain ⟨g1, _⟩ := g
      simp only [UInt8.lt_iff_toNat_lt] at h1 g1
      exact UInt8.toNat_inj.1 (by omega)
    subst e
    rw [bytesLess_conn x y (h.2.resolve_left (by simp)) (g.2.resolve_left (by simp))]
theorem bytes_leq (a b : List UInt8) : (Op.bytesLess a b || a == b) = !Op.bytesLess b a := by
  cases h : Op.bytesLess a b with
  | true => rw [bytesLess_asymm a b h]; rfl
  | false =>
    cases g : Op.bytesLess b a with
    | true =>
      have : a ≠ b := fun e => by subst e; rw [h] at g; cases g
      simp [this]
    | false => rw [bytesLess_conn a b h g]; simp
theorem toList_mk (x : List UInt8) : (⟨x.toArray⟩ : ByteArray).toList = x := by
  simp
theorem strEv_sound {P : Program} {op : BinOp} {a b : List UInt8} {c : Prop} {r : AV} {T : Nat} {m : Hd} {w : World} (h : strEv real op a b = some (c, r)) (hc : c) :
    ∃ v, (binOp op T (.string ⟨a.toArray⟩) (.string ⟨b.toArray⟩)).run P w = .ok v w ∧ RV m w r v := by
  cases op <;> simp only [strEv] at h <;> cases h
  case add =>
    refine ⟨.string ⟨(a ++ b).toArray⟩, ?_, by simp [RV, CR, real]⟩
    have hs : ¬ ((((⟨a.toArray⟩ : ByteArray).size + (⟨b.toArray⟩ : ByteArray).size : Nat) : Int) > IntKind.i64.max) := by
      have h1 : (⟨a.toArray⟩ : ByteArray).size = a.length := by simp [ByteArray.size]
      have h2 : (⟨b.toArray⟩ : ByteArray).size = b.length := by simp [ByteArray.size]
      have h3 : IntKind.i64.max = 9223372036854775807 := by rfl
      have h4 := hc.1
      simp only [real] at h4
      rw [h1, h2, h3]; omega
    show (Op.stringOp .add _ _).run P w = _
    simp only [Op.stringOp]
    rw [if_neg hs]
    simp only [Sem.run_pure]
    congr 2
  case eql => exact ⟨_, rfl, by simp [RV, CR, real, toList_mk]⟩
  case neq => exact ⟨_, rfl, by simp [RV, CR, real, toList_mk]⟩
  case lss => exact ⟨_, rfl, by simp [RV, CR, real, toList_mk]⟩
  case leq => exact ⟨_, rfl, by simp only [RV, CR, real, toList_mk, bytes_leq]⟩
  case gtr => exact ⟨_, rfl, by simp only [RV, CR, real, toList_mk, bytes_leq, Bool.not_not]⟩
  case geq => exact ⟨_, rfl, by simp [RV, CR, real, toList_mk]⟩


theorem shl_run {P : Program} {w : World} {T : Nat} (k yk : IntKind) (a s : Int) (hs : 0 ≤ s) : (binOp .shl T (.int k a) (.int yk s)).run P w = .ok (.int k (k.wrap (a * 2 ^ (min s.toNat k.bits)))) w := by
  show (Op.shift .shl k a yk s).run P w = _
  unfold Op.shift
  rw [if_neg (by omega)]
  rfl
theorem shr_run {P : Program} {w : World} {T : Nat} (k yk : IntKind) (a s : Int) (hs : 0 ≤ s) : (binOp .shr T (.int k a) (.int yk s)).run P w = .ok (.int k (a.fdiv (2 ^ (min s.toNat k.bits)))) w := by
  show (Op.shift .shr k a yk s).run P w = _
  unfold Op.shift
  rw [if_neg (by omega)]
  rfl
theorem binEv_sound {P : Program} {op : BinOp} {x y : AV} {vx vy : Value} {c : Prop} {r : AV} {T : Nat} {m : Hd} {w : World} (h : binEv real op x y = some (c, r)) (hc : c)
    (hx : RV m w x vx) (hy : RV m w y vy) : ∃ v, (binOp op T vx vy).run P w = .ok v w ∧ RV m w r v := by
  by_cases h1 : op = .shl
  · subst h1
    simp only [binEv] at h
    split at h
    · cases h
    · rename_i s hs
      obtain ⟨yk, rfl⟩ := num_int hs hy
      cases x <;> simp only [] at h <;> cases h <;> simp only [RV, CR, List.cons.injEq, and_true] at hx <;> subst hx <;>
        refine ⟨_, shl_run _ _ _ _ (by simpa [real] using hc), ?_⟩
      · simp [RV, CR, real, IntKind.bits]
      · simp only [RV, CR, real, IntKind.bits, shl_u8]
      · simp only [RV, CR, real, IntKind.bits, shl_u16]
      · simp only [RV, CR, real, IntKind.bits, shl_u32]
      · simp only [RV, CR, real, IntKind.bits, shl_u64]
  · by_cases h2 : op = .shr
    · subst h2
      simp only [binEv] at h
      split at h
      · cases h
      · rename_i s hs
        obtain ⟨yk, rfl⟩ := num_int hs hy
        cases x <;> simp only [] at h <;> cases h <;> simp only [RV, CR, List.cons.injEq, and_true] at hx <;> subst hx <;>
          refine ⟨_, shr_run _ _ _ _ (by simpa [real] using hc), ?_⟩
        · simp [RV, CR, real, IntKind.bits]
        · simp only [RV, CR, real, IntKind.bits, shr_u8]
        · simp only [RV, CR, real, IntKind.bits, shr_u16]
        · simp only [RV, CR, real, IntKind.bits, shr_u32]
        · simp only [RV, CR, real, IntKind.bits, shr_u64]
    · have h' : binEv2 real op x y = some (c, r) := by
        cases op <;> first | exact absurd rfl h1 | exact absurd rfl h2 | exact h
      unfold binEv2 at h'
      split at h' <;> first | (cases h'; done) | (simp only [RV, CR, List.cons.injEq, and_true] at hx hy; subst hx; subst hy)
      · exact intEv_sound h' hc h1 h2
      · exact w8Ev_sound h' hc h1 h2
      · exact w16Ev_sound h' hc h1 h2
      · exact w32Ev_sound h' hc h1 h2
      · exact w64Ev_sound h' hc h1 h2
      · exact strEv_sound h' hc
end Go.Vc