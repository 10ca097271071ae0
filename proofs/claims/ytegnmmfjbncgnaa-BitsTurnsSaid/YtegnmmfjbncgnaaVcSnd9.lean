/- A part of the proof of given statements: a verified condition generator for the model, and contracts of the program's functions. No condition. -/
import Derived.Test.YtegnmmfjbncgnaaVcSnd8
set_option linter.unusedVariables false
set_option linter.unusedSimpArgs false
namespace Go.Vc
open Go Go.RowKit

section
variable {P : Program} {tt : TT} {m : Hd} {w : World} {me : Mem} {kb : Nat}

/-! ## Operands -/
theorem ofNatK_sound (k : IntKind) (n : Nat) : RV m w (ofNatK real k n) (.int k (Int.ofNat n)) := by
  unfold ofNatK
  split
  · split
    · rename_i h
      simp only [RV, CR, real, ← ofI_u8, wrap_u8, List.cons.injEq, and_true, Value.int.injEq, true_and]
      simp only [Int.ofNat_eq_natCast]; omega
    · simp [RV]
  · split
    · rename_i h
      simp only [RV, CR, real, ← ofI_u16, wrap_u16, List.cons.injEq, and_true, Value.int.injEq, true_and]
      simp only [Int.ofNat_eq_natCast]; omega
    · simp [RV]
  · split
    · rename_i h
      simp only [RV, CR, real, ← ofI_u32, wrap_u32, List.cons.injEq, and_true, Value.int.injEq, true_and]
      simp only [Int.ofNat_eq_natCast]; omega
    · simp [RV]
  · split
    · rename_i h
      simp only [RV, CR, real, ← ofI_u64, wrap_u64, List.cons.injEq, and_true, Value.int.injEq, true_and]
      simp only [Int.ofNat_eq_natCast]; omega
    · simp [RV]
  · simp only [RV, CR, real]; rfl
  · simp [RV]
theorem ofValue_sound (v : Value) : RV m w (ofValue real v) v := by
  unfold ofValue
  split
  · split
    · exact ofNatK_sound _ _
    · split
      · simp only [RV, CR, real]
      · simp [RV]
  · simp [RV, CR]
  · simp [RV, CR, real]
  · simp [RV, CR]
  · simp [RV, CR]
  · simp [RV]
def SlR (m : Hd) (w : World) (sl : List (Nat × AV)) (a : Act) : Prop := ∀ t, RV m w (sget sl t) (a.tmps.getD t undef)
theorem oget_sound {sl : List (Nat × AV)} {a : Act} (h : SlR m w sl a) (x : Operand) : RV m w (oget real sl x) (a.eval x) := by
  cases x with
  | tmp t => exact h t
  | const v => exact ofValue_sound v
  | global g => simp [oget, RV]
  | func f => simp [oget, RV]

/-! ## Slices -/
def OptR (m : Hd) (w : World) : Option AV → Option Value → Prop
  | none, none => True
  | some a, some v => RV m w a v
  | _, _ => False
theorem run_sliceBound {k : IntKind} {i : Int} {y : Nat} {code : BoundsCode} (h0 : 0 ≤ i) (h : i.toNat ≤ y) : (Instr.sliceBound (.int k i) y code).run P w = .ok i.toNat w := by
  have : 0 ≤ i ∧ i ≤ (y : Int) := ⟨h0, by omega⟩
  simp [Instr.sliceBound, asIntOf, this]
theorem optNum_sound {a : Option AV} {v : Option Value} {n : Option Int} (h : bounds.optNum real a = some n) (hv : OptR m w a v) :
    (a = none ∧ v = none ∧ n = none) ∨ ∃ b k i, a = some b ∧ v = some (.int k i) ∧ n = some i := by
  unfold bounds.optNum at h
  split at h
  · cases h
    cases v with
    | none => exact .inl ⟨rfl, rfl, rfl⟩
    | some x => simp [OptR] at hv
  · rename_i b
    split at h
    · rename_i i hi
      cases h
      cases v with
      | none => simp [OptR] at hv
      | some x =>
        obtain ⟨k, rfl⟩ := num_int hi hv
        exact .inr ⟨b, k, i, rfl, rfl, rfl⟩
    · cases h
theorem bounds_sound {n cap : Nat} (hn : n ≤ cap) {lo hi mx : Option AV} {vlo vhi vmx : Option Value} {c : Prop} {l h : Nat} {isS : Bool} (hb : bounds real n lo hi mx = some (c, l, h)) (hc : c)
    (hlo : OptR m w lo vlo) (hhi : OptR m w hi vhi) (hmx : OptR m w mx vmx) :
    ∃ mm, (Instr.sliceBounds isS n cap vlo vhi vmx).run P w = .ok (l, h, mm) w ∧ l ≤ h ∧ h ≤ n ∧ h ≤ mm ∧ mm ≤ cap ∧ (lo = none → l = 0) := by
  unfold bounds at hb
  split at hb
  · rename_i nl nh nm e1 e2 e3
    simp only [Option.some.injEq, Prod.mk.injEq] at hb
    obtain ⟨h1, h2, h3⟩ := hb
    subst h1
    rcases optNum_sound e1 hlo with ⟨rfl, rfl, rfl⟩ | ⟨bl, kl, il, rfl, rfl, rfl⟩ <;>
    rcases optNum_sound e2 hhi with ⟨rfl, rfl, rfl⟩ | ⟨bh, kh, ih, rfl, rfl, rfl⟩ <;>
    rcases optNum_sound e3 hmx with ⟨rfl, rfl, rfl⟩ | ⟨bm, km, im, rfl, rfl, rfl⟩ <;>
    simp only [real] at h2 h3 hc <;> subst h2 <;> subst h3 <;> first | (exfalso; exact hc.2.2) | skip
    · exact ⟨cap, by simp [Instr.sliceBounds], by omega, by omega, by omega, by omega, fun _ => rfl⟩
    · obtain ⟨-, ⟨a1, a2⟩, -⟩ := hc
      refine ⟨cap, ?_, by omega, by omega, by omega, by omega, fun _ => rfl⟩
      cases isS <;> simp [Instr.sliceBounds, run_sliceBound a1 (show ih.toNat ≤ cap by omega)]
    · obtain ⟨-, ⟨a1, a2⟩, b1, b2, b3⟩ := hc
      refine ⟨im.toNat, ?_, by omega, by omega, by omega, by omega, fun _ => rfl⟩
      cases isS <;> simp [Instr.sliceBounds, run_sliceBound b1 (show im.toNat ≤ cap by omega), run_sliceBound a1 b2]
    · obtain ⟨⟨a1, a2⟩, -, -⟩ := hc
      refine ⟨cap, ?_, by omega, by omega, by omega, by omega, fun h => by cases h⟩
      cases isS <;> simp [Instr.sliceBounds, run_sliceBound a1 a2]
    · obtain ⟨⟨a1, a2⟩, ⟨b1, b2⟩, -⟩ := hc
      refine ⟨cap, ?_, by omega, by omega, by omega, by omega, fun h => by cases h⟩
      cases isS <;> simp [Instr.sliceBounds, run_sliceBound a1 a2, run_sliceBound b1 (show ih.toNat ≤ cap by omega)]
    · obtain ⟨⟨a1, a2⟩, ⟨b1, b2⟩, c1, c2, c3⟩ := hc
      refine ⟨im.toNat, ?_, by omega, by omega, by omega, by omega, fun h => by cases h⟩
      cases isS <;> simp [Instr.sliceBounds, run_sliceBound a1 a2, run_sliceBound b1 c2, run_sliceBound c1 (show im.toNat ≤ cap by omega)]
  · cases hb

theorem span_eq {lo : Option AV} {l h : Nat} (hl : lo = none → l = 0) : span real lo l h = h - l := by
  unfold span
  cases lo with
  | none => rw [hl rfl]; rfl
  | some a => rfl

/-- a slice expression over a slice -/
theorem run_slice_slice {T te : Nat} {i : TypeInfo} {ad : Option Addr} {n cap l h mm : Nat} {vlo vhi vmx : Option Value} (hT : P.underlying T = some (.slice te)) (hi : P.info? te = some i)
    (hb : (Instr.sliceBounds true n cap vlo vhi vmx).run P w = .ok (l, h, mm) w) :
    (Instr.sliceAt T (.slice ad n cap) vlo vhi vmx).run P w = .ok (.slice (if mm = l then ad else ad.map (·.add (l * i.size))) (h - l) (mm - l)) w := by
  simp [Instr.sliceAt, Instr.slice, run_underlying hT, hb, sizeOf, typeInfo, hi]

theorem slice_sound (ht : TTok P tt) (hb : Base m w me kb) {T : Nat} {x : AV} {lo hi mx : Option AV} {vx : Value} {vlo vhi vmx : Option Value} {e : Eff} (hx : RV m w x vx)
    (hlo : OptR m w lo vlo) (hhi : OptR m w hi vhi) (hmx : OptR m w mx vmx) (h : (sliceEv real tt T x lo hi mx).run me = some e) (hc : e.c) :
    ∃ v, (Instr.sliceAt T vx vlo vhi vmx).run P w = .ok v w ∧ OkE m w me kb e.v e.puts v m w := by
  unfold sliceEv at h
  split at h
  · -- a string
    rename_i xs
    simp only [RV, CR, List.cons.injEq, and_true] at hx
    subst hx
    split at h
    · exact (Look.run_no h).elim
    · split at h
      · rename_i hl
        have hT : P.underlying T = some .string := (ht.look hl).k
        split at h
        · rename_i c l hh hbd
          have := Look.run_pure1 h
          subst this
          have hvm : vmx = none := by
            cases vmx with
            | none => rfl
            | some x => simp [OptR] at hmx
          subst hvm
          have hsz : (⟨xs.toArray⟩ : ByteArray).size = xs.length := by simp [ByteArray.size]
          obtain ⟨mm, r1, r2, r3, r4, r5, r6⟩ := bounds_sound (P := P) (isS := false) (Nat.le_refl (real.lenB xs)) hbd hc hlo hhi hmx
          have r1' : (Instr.sliceBounds false xs.length xs.length vlo vhi none).run P w = .ok (l, hh, mm) w := r1
          refine ⟨.string ((⟨xs.toArray⟩ : ByteArray).extract l hh), ?_, hb.same ?_⟩
          · simp [Instr.sliceAt, Instr.slice, run_underlying hT, hsz, r1']
          · rw [span_eq r6]
            simp only [RV, CR, real, List.cons.injEq, and_true, Value.string.injEq]
            apply ByteArray.ext
            have h9 : hh ≤ xs.length := r3
            simp [ByteArray.data_extract, List.extract_eq_take_drop]
        · exact (Look.run_no h).elim
      · exact (Look.run_no h).elim
  · -- what stays
    rename_i e' d
    split at h
    · rename_i te _ _ _ _ hl
      have hT : P.underlying T = some (.slice te) := (ht.look hl).k
      split at h
      · rename_i kk es by_ lay ek hl2
        obtain ⟨i, z, hii, hsz, _⟩ := (ht.look hl2).i
        have hsz : i.size = es := hsz
        split at h
        · rename_i hbe
          have := beq_nat hbe
          subst this
          split at h
          · rename_i n hlen
            unfold AC.lenE at hlen
            split at hlen
            · rename_i hE
              cases hlen
              obtain ⟨he1, he2⟩ := isE_spec hE
              split at h
              · rename_i c l hh hbd
                split at h
                · rename_i d' hcut
                  have := Look.run_pure1 h
                  subst this
                  simp only [RV, CR] at hx
                  obtain ⟨ad, n, cap, ds, h1, h2, h3, h4, h5⟩ := hx
                  simp only [List.cons.injEq, and_true] at h1
                  subst h1
                  have hdl := RC_len he1 h2
                  have hn : n = d.len real := by
                    rw [h3] at hdl
                    exact Nat.eq_of_mul_eq_mul_right he2 hdl
                  subst hn
                  obtain ⟨mm, r1, r2, r3, r4, r5, r6⟩ := bounds_sound (P := P) (isS := true) h4 hbd hc hlo hhi hmx
                  rw [span_eq r6] at hcut
                  obtain ⟨q1, q2, q3⟩ := RC_cut hcut he1 h2 (by omega)
                  refine ⟨_, run_slice_slice hT hii r1, hb.same ?_⟩
                  simp only [RV, CR]
                  refine ⟨_, hh - l, mm - l, _, rfl, q1, ?_, by omega, fun hpos => ?_⟩
                  · rw [List.length_take, List.length_drop, h3]
                    have : (hh - l) * e' + l * e' ≤ d.len real * e' := by rw [← Nat.add_mul]; exact Nat.mul_le_mul_right _ (by omega)
                    omega
                  · obtain ⟨a, rfl, hst⟩ := h5 (by omega)
                    rw [if_neg (by omega)]
                    refine ⟨_, rfl, ?_, fun j y hy => ?_⟩
                    · rw [add_block]; exact hst.1
                    · rw [add_add_at, hsz]
                      rw [List.getElem?_take] at hy
                      split at hy
                      · rw [List.getElem?_drop] at hy; exact hst.2 _ y hy
                      · cases hy
                · exact (Look.run_no h).elim
              · exact (Look.run_no h).elim
            · cases hlen
          · exact (Look.run_no h).elim
        · exact (Look.run_no h).elim
      · exact (Look.run_no h).elim
    · exact (Look.run_no h).elim
  · -- a row
    rename_i k
    split at h
    · rename_i te _ _ _ _ hl
      have hT : P.underlying T = some (.slice te) := (ht.look hl).k
      split at h
      · rename_i kk es by_ lay ek hl2
        obtain ⟨i, z, hii, hsz, _⟩ := (ht.look hl2).i
        have hsz : i.size = es := hsz
        obtain ⟨ab, hab, hnew⟩ := Look.run_look h
        clear h
        have h := hnew
        clear hnew
        split at h
        · rename_i B e' d
          split at h
          · rename_i hbe
            have := beq_nat hbe
            subst this
            split at h
            · rename_i n hlen
              unfold AC.lenE at hlen
              split at hlen
              · rename_i hE
                cases hlen
                obtain ⟨he1, he2⟩ := isE_spec hE
                split at h
                · rename_i c l hh hbd
                  have := Look.run_pure1 h
                  subst this
                  simp only [RV, CR] at hx
                  obtain ⟨v0, h1, h2, h2b⟩ := hx
                  simp only [List.cons.injEq, and_true] at h2
                  subst h2
                  obtain ⟨v1, n, cs, h3, h4, h5⟩ := row_cells hb.mem hab
                  rw [h3] at h1; cases h1
                  have hdl := RC_len he1 h5
                  have hn : n = d.len real := by
                    rw [h4.1] at hdl
                    exact Nat.eq_of_mul_eq_mul_right he2 hdl
                  subst hn
                  have hshape : ∃ ad cap, vx = .slice ad (d.len real) cap ∧ d.len real ≤ cap ∧ (0 < d.len real → ∃ g, blk vx = some g ∧ ad = some ⟨g, 0, none⟩) := by
                    rcases h4.2 with ⟨rfl, h6⟩ | ⟨g, cap, cur, fz, rfl, h6, h7, h8, _⟩
                    · exact ⟨none, 0, by rw [h6], by omega, fun h => by omega⟩
                    · exact ⟨_, cap, rfl, h8, fun _ => ⟨g, rfl, rfl⟩⟩
                  obtain ⟨ad, cap, rfl, h6, h7⟩ := hshape
                  obtain ⟨mm, r1, r2, r3, r4, r5, r6⟩ := bounds_sound (P := P) (isS := true) h6 hbd hc hlo hhi hmx
                  refine ⟨_, run_slice_slice hT hii r1, hb.same ?_⟩
                  rw [span_eq r6]
                  simp only [RV, CR]
                  refine ⟨_, _, mm - l, h3, rfl, by omega, fun hpos => ?_⟩
                  obtain ⟨g, g1, rfl⟩ := h7 (by omega)
                  refine ⟨g, g1, ?_⟩
                  rw [if_neg (by omega), Option.map_some, add_at, hsz]
                · exact (Look.run_no h).elim
              · cases hlen
            · exact (Look.run_no h).elim
          · exact (Look.run_no h).elim
        · exact (Look.run_no h).elim
      · exact (Look.run_no h).elim
    · exact (Look.run_no h).elim
  · -- a slice of the call's own
    rename_i k g o e' a n
    split at h
    · rename_i te _ _ _ _ hl
      have hT : P.underlying T = some (.slice te) := (ht.look hl).k
      split at h
      · rename_i kk es by_ lay ek hl2
        obtain ⟨i, z, hii, hsz, _⟩ := (ht.look hl2).i
        have hsz : i.size = es := hsz
        split at h
        · rename_i hbe
          have := beq_nat hbe
          subst this
          split at h
          · rename_i c l hh hbd
            have := Look.run_pure1 h
            subst this
            simp only [RV, CR] at hx
            obtain ⟨v0, ad, cap, h1, h2, h3, h4⟩ := hx
            simp only [List.cons.injEq, and_true] at h2
            subst h2
            obtain ⟨mm, r1, r2, r3, r4, r5, r6⟩ := bounds_sound (P := P) (isS := true) h3 hbd hc hlo hhi hmx
            refine ⟨_, run_slice_slice hT hii r1, hb.same ?_⟩
            rw [span_eq r6]
            simp only [RV, CR]
            refine ⟨v0, _, mm - l, h1, rfl, by omega, fun hpos => ?_⟩
            obtain ⟨gb, g1, rfl⟩ := h4 (by omega)
            refine ⟨gb, g1, ?_⟩
            rw [if_neg (by omega), Option.map_some, add_at, hsz]
            cases lo with
            | none => rw [r6 rfl]; simp
            | some b =>
              have e2 : real.addn a l = a + l := rfl
              simp only [e2, Nat.add_mul]
              simp
          · exact (Look.run_no h).elim
        · exact (Look.run_no h).elim
      · exact (Look.run_no h).elim
    · exact (Look.run_no h).elim
  · -- an array
    rename_i k g o
    split at h
    · rename_i n te _ _ _ _ hl
      have hT : P.underlying T = some (.array n te) := (ht.look hl).k
      split at h
      · rename_i kk es by_ lay ek hl2
        obtain ⟨i, z, hii, hsz, _⟩ := (ht.look hl2).i
        have hsz : i.size = es := hsz
        split at h
        · rename_i c l hh hbd
          have := Look.run_pure1 h
          subst this
          simp only [RV, CR] at hx
          obtain ⟨gb, h1, h2⟩ := hx
          simp only [List.cons.injEq, and_true] at h2
          subst h2
          obtain ⟨mm, r1, r2, r3, r4, r5, r6⟩ := bounds_sound (P := P) (isS := false) (Nat.le_refl n) hbd hc hlo hhi hmx
          refine ⟨.slice (some (if mm = l then ⟨gb, o, none⟩ else (⟨gb, o, none⟩ : Addr).add (l * i.size))) (hh - l) (mm - l), ?_, hb.same ?_⟩
          · simp [Instr.sliceAt, run_underlying hT, Instr.sureAddr, r1, sizeOf, typeInfo, hii]
          · rw [span_eq r6]
            simp only [RV, CR]
            refine ⟨_, _, mm - l, h1, rfl, by omega, fun hpos => ⟨gb, rfl, ?_⟩⟩
            rw [if_neg (by omega), add_at, hsz]
        · exact (Look.run_no h).elim
      · exact (Look.run_no h).elim
    · exact (Look.run_no h).elim
  · -- nil
    split at h
    · rename_i te _ _ _ _ hl
      have hT : P.underlying T = some (.slice te) := (ht.look hl).k
      split at h
      · rename_i kk es by_ lay ek hl2
        obtain ⟨i, z, hii, hsz, _⟩ := (ht.look hl2).i
        split at h
        · rename_i c l hh hbd
          have := Look.run_pure1 h
          subst this
          simp only [RV, CR, List.cons.injEq, and_true] at hx
          subst hx
          obtain ⟨mm, r1, r2, r3, r4, r5, r6⟩ := bounds_sound (P := P) (isS := true) (Nat.le_refl 0) hbd hc hlo hhi hmx
          refine ⟨_, run_slice_slice hT hii r1, hb.same ?_⟩
          simp only [RV, CR]
          have e1 : mm = 0 := by omega
          have e2 : l = 0 := by omega
          have e3 : hh = 0 := by omega
          subst e1; subst e2; subst e3
          simp
        · exact (Look.run_no h).elim
      · exact (Look.run_no h).elim
    · exact (Look.run_no h).elim
  · exact (Look.run_no h).elim
end
end Go.Vc
