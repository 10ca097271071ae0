/- A part of the proof of given statements: a verified condition generator for the model, and contracts of the program's functions. No condition. -/
import Derived.Test.YtegnmmfjbncgnaaVcSnd11
import Derived.ChangeKeysEq
set_option linter.unusedVariables false
set_option linter.unusedSimpArgs false
namespace Go.Vc
open Go Go.RowKit

section
variable {P : Program} {tt : TT} {m : Hd} {w : World} {me : Mem} {kb : Nat}

/-! ## build -/
theorem setParts_sound (n : Nat) : ∀ (parts : List (Nat × AV)) (vparts : List (Nat × Value)) (c c' : AC) (cs : Array Value), setParts real c parts = some c' → PartsR m w parts vparts → RC m w c cs.toList → buildEv.allLt real n parts → cs.size = n →
    ∃ ds : Array Value, Instr.fill (fun i => some (i * 1, 1)) cs vparts = some ds ∧ RC m w c' ds.toList ∧ ds.size = n
  | [], vparts, c, c', cs, h, hp, hc, ha, hn => by
    simp only [setParts, Option.some.injEq] at h
    subst h
    cases vparts with
    | nil => exact ⟨cs, rfl, hc, hn⟩
    | cons _ _ => simp [PartsR] at hp
  | (i, a) :: r, vparts, c, c', cs, h, hp, hc, ha, hn => by
    simp only [setParts] at h
    split at h
    · rename_i c1 hset
      cases vparts with
      | nil => simp [PartsR] at hp
      | cons q s =>
        obtain ⟨j, v⟩ := q
        simp only [PartsR] at hp
        obtain ⟨rfl, hv, hp⟩ := hp
        simp only [buildEv.allLt] at ha
        obtain ⟨h1, h2, h3, h4⟩ := RC_set hset hc hv
        have hi : i < n := ha.1
        rw [fill_one h3 (by omega)]
        exact setParts_sound n r s c1 c' _ h hp (by simpa using h1) ha.2 (by simp [hn])
    · cases h
theorem build_sound (ht : TTok P tt) (hb : Base m w me kb) {T : Nat} {parts : List (Nat × AV)} {vparts : Array (Nat × Value)} {e : Eff} (hp : PartsR m w parts vparts.toList)
    (h : (buildEv real tt T parts).run me = some e) (hc : e.c) : ∃ v, (Instr.build T vparts).run P w = .ok v w ∧ OkE m w me kb e.v e.puts v m w := by
  unfold buildEv at h
  split at h
  · rename_i n te sz by_ k z ek0 hl
    have hT : P.underlying T = some (.array n te) := (ht.look hl).k
    obtain ⟨i0, z0, hi0, hsz0, hby0, hz0, hzs0, hseg0, _⟩ := (ht.look hl).i
    have hsz0' : k = sz := (ht.look hl).cells
    have hzs0 : z0.cells.size = sz := hzs0
    split at h
    · rename_i kk by2 z2 ek hl2
      obtain ⟨i, z1, hi, hsz, hby, hz, hzs, _, hek⟩ := (ht.look hl2).i
      have hsz : i.size = 1 := hsz
      split at h
      · rename_i hnk
        have hnk := beq_nat hnk
        have hrun : ∀ ds : Array Value, Instr.fill (fun i => some (i * 1, 1)) z0.cells vparts.toList = some ds → (Instr.build T vparts).run P w = .ok (.agg ds) w := by
          intro ds hds
          unfold Instr.build
          simp only [Sem.run_bind, zeroValue, typeInfo, run_program, Result.andThen_ok, hi0, hz0, Sem.run_pure, run_underlying hT, sizeOf, hi, hsz]
          rw [hds]
          rfl
        split at h
        · rename_i hpl
          have hpl := beq_nat hpl
          split at h
          · rename_i l hl3
            split at h
            · rename_i c hcc
              have := Look.run_pure1 h
              subst this
              have hll := inOrder_len parts 0 l hl3
              obtain ⟨vs, g1, g2⟩ := fill_order l parts vparts.toList 0 z0.cells ek c hl3 hp hcc (by omega)
              have hvl := RVs_len l vs g1
              obtain ⟨r1, r2⟩ := ofAVs_sound hcc g1
              have e1 : (z0.cells.toList.take 0 ++ vs ++ z0.cells.toList.drop (0 + vs.length)) = vs := by
                rw [List.take_zero, List.nil_append, List.drop_of_length_le (by simp; omega), List.append_nil]
              rw [e1] at g2
              refine ⟨_, hrun _ g2, hb.same ?_⟩
              simp only [RV]
              exact ⟨vs, rfl, by omega, r1⟩
            · exact (Look.run_no h).elim
          · exact (Look.run_no h).elim
        · split at h
          · rename_i c hset
            have := Look.run_pure1 h
            subst this
            have hz3 : RC m w z z0.cells.toList := by
              have := hseg0 m w
              simp only [Lay.segs, SegsR] at this
              obtain ⟨c1, c2, e1, e2, e3, rfl⟩ := this
              rw [e1]; simpa using e3
            obtain ⟨ds, g1, g2, g3⟩ := setParts_sound n parts vparts.toList z c z0.cells hset hp hz3 hc (by omega)
            refine ⟨_, hrun _ g1, hb.same ?_⟩
            simp only [RV]
            exact ⟨ds.toList, by simp, by simpa using g3, g2⟩
          · exact (Look.run_no h).elim
      · exact (Look.run_no h).elim
    · exact (Look.run_no h).elim
  · exact (Look.run_no h).elim

/-! ## Places -/
theorem fieldAddr_sound (ht : TTok P tt) (hb : Base m w me kb) {T f : Nat} {x : AV} {vx : Value} {e : Eff} (hx : RV m w x vx) (h : (fieldAddrEv tt T x f).run me = some e) :
    ∃ v, (Instr.fieldAt T vx f).run P w = .ok v w ∧ OkE m w me kb e.v e.puts v m w := by
  unfold fieldAddrEv at h
  split at h
  · rename_i fs _ _ _ _ hl
    obtain ⟨gs, h1, h2, h3⟩ := (ht.look hl).k
    split at h
    · rename_i ty gs' cs' hf
      split at h
      · rename_i k g o
        have := Look.run_pure1 h
        subst this
        simp only [RV, CR] at hx
        obtain ⟨gb, q1, q2⟩ := hx
        simp only [List.cons.injEq, and_true] at q2
        subst q2
        have hget : ∀ (fs : List (Nat × Nat × Nat)) (f : Nat) (x : Nat × Nat × Nat), fieldAddrEv.fget fs f = some x → fs[f]? = some x := by
          intro fs
          induction fs with
          | nil => intro f x h; simp [fieldAddrEv.fget] at h
          | cons a r ih =>
            intro f x h
            cases f with
            | zero => simpa [fieldAddrEv.fget] using h
            | succ f => simpa using ih f x (by simpa [fieldAddrEv.fget] using h)
        have hff := hget fs f _ hf
        have h4 : (gs.toList.map fun f => (f.type, f.offset))[f]? = some (ty, cs') := by rw [h2]; simp [hff]
        rw [List.getElem?_map] at h4
        cases hgf : gs.toList[f]? with
        | none => rw [hgf] at h4; simp at h4
        | some fd =>
          rw [hgf] at h4
          simp only [Option.map_some, Option.some.injEq, Prod.mk.injEq] at h4
          have hnz := h3 fd (List.mem_of_getElem? hgf)
          have hgf' : gs[f]? = some fd := by simpa using hgf
          refine ⟨.pointer (some ⟨gb, o + cs', none⟩), ?_, hb.same ?_⟩
          · cases hinfo : P.info? fd.type with
            | none => simp [Program.cellsOf, hinfo] at hnz
            | some inf =>
              have hs0 : inf.size ≠ 0 := by simpa [Program.cellsOf, hinfo] using hnz
              simp [Instr.fieldAt, run_underlying h1, hgf', Instr.sureAddr, fieldPlace, sizeOf, typeInfo, hinfo, hs0, add_at, h4.2]
          · simp only [RV, CR]; exact ⟨gb, q1, rfl⟩
      · exact (Look.run_no h).elim
    · exact (Look.run_no h).elim
  · exact (Look.run_no h).elim
theorem idxAddr_sound (ht : TTok P tt) (hb : Base m w me kb) {T : Nat} {x ix : AV} {vx vi : Value} {e : Eff} (hx : RV m w x vx) (hi : RV m w ix vi) (h : (idxAddrEv real tt T x ix).run me = some e) (hc : e.c) :
    ∃ v, (Instr.indexAt T vx vi).run P w = .ok v w ∧ OkE m w me kb e.v e.puts v m w := by
  unfold idxAddrEv at h
  split at h
  · exact (Look.run_no h).elim
  · rename_i i hin
    obtain ⟨k0, rfl⟩ := num_int hin hi
    split at h
    · rename_i n te _ _ _ _ hl
      have hT : P.underlying T = some (.array n te) := (ht.look hl).k
      split at h
      · rename_i kk es by_ lay ek hl2
        obtain ⟨inf, z, hinf, hsz, _⟩ := (ht.look hl2).i
        have hsz : inf.size = es := hsz
        split at h
        · rename_i k g o
          have := Look.run_pure1 h
          subst this
          have hc1 : 0 ≤ i ∧ i < (n : Int) := hc
          simp only [RV, CR] at hx
          obtain ⟨gb, q1, q2⟩ := hx
          simp only [List.cons.injEq, and_true] at q2
          subst q2
          refine ⟨.pointer (some ⟨gb, o + i.toNat * es, none⟩), ?_, hb.same ?_⟩
          · simp [Instr.indexAt, asIntOf, run_underlying hT, Instr.sureAddr, hc1, sizeOf, typeInfo, hinf, hsz, add_at]
          · simp only [RV, CR]; exact ⟨_, gb, q1, rfl, rfl⟩
        · exact (Look.run_no h).elim
      · exact (Look.run_no h).elim
    · rename_i te _ _ _ _ hl
      have hT : P.underlying T = some (.slice te) := (ht.look hl).k
      split at h
      · rename_i kk es by_ lay ek hl2
        obtain ⟨inf, z, hinf, hsz, _⟩ := (ht.look hl2).i
        have hsz : inf.size = es := hsz
        have hrun : ∀ (a : Addr) (n cap : Nat), 0 ≤ i → i < (n : Int) → (Instr.indexAt T (.slice (some a) n cap) (.int k0 i)).run P w = .ok (.pointer (some (a.add (i.toNat * es)))) w := by
          intro a n cap h1 h2
          simp [Instr.indexAt, asIntOf, run_underlying hT, h1, h2, sizeOf, typeInfo, hinf, hsz]
        split at h
        · rename_i e' c
          split at h
          · rename_i hbe
            have := beq_nat hbe
            subst this
            split at h
            · rename_i a hga
              have := Look.run_pure1 h
              subst this
              have hc1 : 0 ≤ i ∧ i < (c.len real : Int) := hc
              unfold AC.getE at hga
              split at hga
              · rename_i hE
                obtain ⟨he1, he2⟩ := isE_spec hE
                simp only [RV, CR] at hx
                obtain ⟨ad, n, cap, ds, q1, q2, q3, q4, q5⟩ := hx
                simp only [List.cons.injEq, and_true] at q1
                subst q1
                have hdl := RC_len he1 q2
                have hn : n = c.len real := by
                  rw [q3] at hdl
                  exact Nat.eq_of_mul_eq_mul_right he2 hdl
                subst hn
                obtain ⟨b, rfl, hst⟩ := q5 (by omega)
                have hnat : real.nat i < c.len real := by show i.toNat < _; omega
                obtain ⟨d, r1, r2, r3⟩ := RC_get hga he1 q2 hnat
                refine ⟨_, hrun b _ cap hc1.1 hc1.2, hb.same ?_⟩
                simp only [RV, CR]
                refine ⟨_, d, rfl, r2, by rw [add_block]; exact hst.1, fun j y hy => ?_⟩
                rw [add_add_at]
                exact hst.2 _ y (r3 j y hy)
              · cases hga
            · exact (Look.run_no h).elim
          · exact (Look.run_no h).elim
        · rename_i k g o e' a n
          split at h
          · rename_i hbe
            have := beq_nat hbe
            subst this
            have := Look.run_pure1 h
            subst this
            have hc1 : 0 ≤ i ∧ i < (n : Int) := hc
            simp only [RV, CR] at hx
            obtain ⟨v0, ad, cap, q1, q2, q3, q4⟩ := hx
            simp only [List.cons.injEq, and_true] at q2
            subst q2
            obtain ⟨gb, q5, rfl⟩ := q4 (by omega)
            refine ⟨_, hrun _ n cap hc1.1 hc1.2, hb.same ?_⟩
            simp only [RV, CR]
            refine ⟨v0, gb, q1, q5, ?_⟩
            have e2 : real.addn a (real.nat i) = a + i.toNat := rfl
            rw [add_at, e2, Nat.add_mul]
            simp [Nat.add_assoc]
          · exact (Look.run_no h).elim
        · rename_i k
          obtain ⟨ab, hab, hnew⟩ := Look.run_look h
          clear h
          have h := hnew
          clear hnew
          split at h
          · rename_i B e' c
            split at h
            · rename_i hbe
              have := beq_nat hbe
              subst this
              split at h
              · rename_i n hlen
                unfold AC.lenE at hlen
                split at hlen
                · rename_i hE
                  cases hlen
                  obtain ⟨he1, he2⟩ := isE_spec hE
                  have := Look.run_pure1 h
                  subst this
                  have hc1 : 0 ≤ i ∧ i < (c.len real : Int) := hc
                  simp only [RV, CR] at hx
                  obtain ⟨v0, q1, q2, q2b⟩ := hx
                  simp only [List.cons.injEq, and_true] at q2
                  subst q2
                  obtain ⟨v1, n, cs, q3, q4, q5⟩ := row_cells hb.mem hab
                  rw [q3] at q1; cases q1
                  have hdl := RC_len he1 q5
                  have hn : n = c.len real := by
                    rw [q4.1] at hdl
                    exact Nat.eq_of_mul_eq_mul_right he2 hdl
                  subst hn
                  obtain ⟨g', cap, cur, fz, rest, rfl, _⟩ := row_open q4 (i := 0) (by rw [q4.1]; exact Nat.mul_pos (by omega) he2)
                  refine ⟨_, hrun _ _ cap hc1.1 hc1.2, hb.same ?_⟩
                  simp only [RV, CR]
                  exact ⟨_, g', q3, rfl, by rw [add_at]; rfl⟩
                · cases hlen
              · exact (Look.run_no h).elim
            · exact (Look.run_no h).elim
          · exact (Look.run_no h).elim
        · exact (Look.run_no h).elim
      · exact (Look.run_no h).elim
    · exact (Look.run_no h).elim
theorem idx_sound (ht : TTok P tt) (hb : Base m w me kb) {T : Nat} {x ix : AV} {vx vi : Value} {e : Eff} (hx : RV m w x vx) (hi : RV m w ix vi) (h : (idxEv real tt T x ix).run me = some e) (hc : e.c) :
    ∃ v, (Instr.index T vx vi).run P w = .ok v w ∧ OkE m w me kb e.v e.puts v m w := by
  unfold idxEv at h
  split at h
  · exact (Look.run_no h).elim
  · rename_i i hin
    obtain ⟨k0, rfl⟩ := num_int hin hi
    split at h
    · rename_i xs
      split at h
      · rename_i hl
        have hT : P.underlying T = some .string := (ht.look hl).k
        have := Look.run_pure1 h
        subst this
        have hc1 : 0 ≤ i ∧ i < (xs.length : Int) := hc
        simp only [RV, CR, List.cons.injEq, and_true] at hx
        subst hx
        have hlt : i.toNat < xs.length := by omega
        refine ⟨.int .u8 ((xs.getD i.toNat 0).toNat : Int), ?_, hb.same (by simp [RV, CR, real])⟩
        have hget : (⟨xs.toArray⟩ : ByteArray)[i.toNat]? = some xs[i.toNat] := by
          rw [getElem?_pos _ _ (by simpa [ByteArray.size] using hlt)]
          rfl
        simp [Instr.index, asIntOf, run_underlying hT, hc1.1, hget, List.getD, List.getElem?_eq_getElem hlt]
      · exact (Look.run_no h).elim
    · rename_i k c
      split at h
      · rename_i n te _ _ _ _ hl
        have hT : P.underlying T = some (.array n te) := (ht.look hl).k
        split at h
        · rename_i kk es by_ z1 ek hl2
          obtain ⟨inf, z, hinf, hsz, _⟩ := (ht.look hl2).i
          have hsz : inf.size = es := hsz
          have hagg : (P.underlying te).map aggD = some false := (ht.look hl2).agg
          split at h
          · rename_i h1 h2
            have h1 := beq_nat h1
            have h2 := beq_nat h2
            subst h1; subst h2
            split at h
            · rename_i a hga
              have := Look.run_pure1 h
              subst this
              have hc1 : 0 ≤ i ∧ i < (n : Int) := hc
              simp only [RV] at hx
              obtain ⟨cs, rfl, q1, q2⟩ := hx
              obtain ⟨v, r1, r2, r3⟩ := get1_sound hga q2 (show real.nat i < cs.length by show i.toNat < _; omega)
              have r1' : cs[i.toNat]? = some v := r1
              refine ⟨v, ?_, hb.same (RV_of_CR r3 r2)⟩
              simp [Instr.index, asIntOf, run_underlying hT, hc1, sizeOf, typeInfo, hinf, hsz, part, run_isAgg hagg, r1']
            · exact (Look.run_no h).elim
          · exact (Look.run_no h).elim
        · exact (Look.run_no h).elim
      · exact (Look.run_no h).elim
    · exact (Look.run_no h).elim

/-! ## Choices -/
theorem isBool_sound {a : AV} {v : Value} {b : Bool} (h : isBool a = some b) (hv : RV m w a v) : v = .bool b := by
  cases a <;> simp [isBool] at h <;> simp [RV, CR] at hv <;> subst h <;> exact hv
theorem pick_sound (hb : Base m w me kb) {c a b : AV} {vc va vb : Value} {e : Eff} (hcv : RV m w c vc) (ha : RV m w a va) (hbv : RV m w b vb) (h : (pickEv real c a b).run me = some e) :
    ∃ x, vc = .bool x ∧ OkE m w me kb e.v e.puts (if x = true then va else vb) m w := by
  unfold pickEv at h
  split at h
  · have := Look.run_pure1 h; subst this
    simp only [RV, CR, List.cons.injEq, and_true] at hcv
    exact ⟨true, hcv, hb.same (by simpa using ha)⟩
  · have := Look.run_pure1 h; subst this
    simp only [RV, CR, List.cons.injEq, and_true] at hcv
    exact ⟨false, hcv, hb.same (by simpa using hbv)⟩
  · rename_i x
    split at h
    · rename_i y z hy hz
      have := Look.run_pure1 h; subst this
      simp only [RV, CR, List.cons.injEq, and_true] at hcv
      have h1 := isBool_sound hy ha
      have h2 := isBool_sound hz hbv
      subst h1; subst h2
      refine ⟨x, hcv, hb.same ?_⟩
      cases x <;> simp [RV, CR, real]
    · exact (Look.run_no h).elim
  · exact (Look.run_no h).elim
theorem min2_sound {a b r : AV} {va vb : Value} (h : min2Ev real a b = some r) (ha : RV m w a va) (hb : RV m w b vb) : ∃ v, (Builtin.min2 va vb).run P w = .ok v w ∧ RV m w r v := by
  unfold min2Ev at h
  split at h <;> cases h <;> simp only [RV, CR, List.cons.injEq, and_true] at ha hb <;> subst ha <;> subst hb <;> refine ⟨_, rfl, ?_⟩ <;> simp only [RV, CR, real]
  all_goals (first | rfl | (split <;> split <;> first | rfl | (exfalso; omega)))
theorem max2_sound {a b r : AV} {va vb : Value} (h : max2Ev real a b = some r) (ha : RV m w a va) (hb : RV m w b vb) : ∃ v, (Builtin.max2 va vb).run P w = .ok v w ∧ RV m w r v := by
  unfold max2Ev at h
  split at h <;> cases h <;> simp only [RV, CR, List.cons.injEq, and_true] at ha hb <;> subst ha <;> subst hb <;> refine ⟨_, rfl, ?_⟩ <;> simp only [RV, CR, real]
  all_goals (first | rfl | (split <;> split <;> first | rfl | (exfalso; omega)))

/-! ## Length -/
theorem len_sound (ht : TTok P tt) (hb : Base m w me kb) {T ty : Nat} {x : AV} {vx : Value} {e : Eff} (hx : RV m w x vx)
    (h : (builtinEv real tt kb .len [T] [x]).run me = some e) : ∃ v, (Builtin.len_ #[T] ty #[vx]).run P w = .ok v w ∧ OkE m w me kb e.v e.puts v m w := by
  simp only [builtinEv] at h
  split at h
  · rename_i te _ _ _ _ hl
    have hT : P.underlying T = some (.slice te) := (ht.look hl).k
    have hrun : ∀ ad n cap, (Builtin.len_ #[T] ty #[.slice ad n cap]).run P w = .ok (.int .i64 (n : Int)) w := fun ad n cap => by
      simp [Builtin.len_, run_underlying hT, goInt]
    split at h
    · exact (Look.run_no h).elim
    · rename_i hne
      unfold withLen at h
      split at h
      · rename_i xs; exact absurd rfl (hne xs)
      · rename_i e' c
        split at h
        · rename_i n hlen
          have := Look.run_pure1 h; subst this
          unfold AC.lenE at hlen
          split at hlen
          · rename_i hE
            cases hlen
            obtain ⟨he1, he2⟩ := isE_spec hE
            simp only [RV, CR] at hx
            obtain ⟨ad, n, cap, ds, q1, q2, q3, q4, q5⟩ := hx
            simp only [List.cons.injEq, and_true] at q1
            subst q1
            have hdl := RC_len he1 q2
            have hn : n = c.len real := by
              rw [q3] at hdl
              exact Nat.eq_of_mul_eq_mul_right he2 hdl
            exact ⟨_, hrun _ _ _, hb.same (by simp only [RV, CR]; rw [hn]; rfl)⟩
          · cases hlen
        · exact (Look.run_no h).elim
      · rename_i k g o e' a n
        have := Look.run_pure1 h; subst this
        simp only [RV, CR] at hx
        obtain ⟨v0, ad, cap, q1, q2, q3, q4⟩ := hx
        simp only [List.cons.injEq, and_true] at q2
        subst q2
        exact ⟨_, hrun _ _ _, hb.same (by simp only [RV, CR]; rfl)⟩
      · have := Look.run_pure1 h; subst this
        simp only [RV, CR, List.cons.injEq, and_true] at hx
        subst hx
        exact ⟨_, hrun _ _ _, hb.same (by simp only [RV, CR]; rfl)⟩
      · rename_i k
        obtain ⟨ab, hab, hnew⟩ := Look.run_look h
        clear h
        have h := hnew
        clear hnew
        split at h
        · rename_i B e' c
          split at h
          · rename_i n hlen
            have := Look.run_pure1 h; subst this
            unfold AC.lenE at hlen
            split at hlen
            · rename_i hE
              cases hlen
              obtain ⟨he1, he2⟩ := isE_spec hE
              simp only [RV, CR] at hx
              obtain ⟨v0, q1, q2, q2b⟩ := hx
              simp only [List.cons.injEq, and_true] at q2
              subst q2
              obtain ⟨v1, n, cs, q3, q4, q5⟩ := row_cells hb.mem hab
              rw [q3] at q1; cases q1
              have hdl := RC_len he1 q5
              have hn : n = c.len real := by
                rw [q4.1] at hdl
                exact Nat.eq_of_mul_eq_mul_right he2 hdl
              have hshape : ∃ ad cap, vx = .slice ad n cap := by
                rcases q4.2 with ⟨rfl, h6⟩ | ⟨g, cap, cur, fz, rfl, _⟩
                · exact ⟨none, 0, by rw [h6]⟩
                · exact ⟨_, cap, rfl⟩
              obtain ⟨ad, cap, rfl⟩ := hshape
              exact ⟨_, hrun _ _ _, hb.same (by simp only [RV, CR]; rw [hn]; rfl)⟩
            · cases hlen
          · exact (Look.run_no h).elim
        · exact (Look.run_no h).elim
      · exact (Look.run_no h).elim
  · rename_i hl
    have hT : P.underlying T = some .string := (ht.look hl).k
    split at h
    · rename_i xs
      have := Look.run_pure1 h; subst this
      simp only [RV, CR, List.cons.injEq, and_true] at hx
      subst hx
      refine ⟨.int .i64 (xs.length : Int), ?_, hb.same (by simp only [RV, CR]; rfl)⟩
      have hsz : (⟨xs.toArray⟩ : ByteArray).size = xs.length := by simp [ByteArray.size]
      simp [Builtin.len_, run_underlying hT, goInt, hsz]
    · exact (Look.run_no h).elim
  · exact (Look.run_no h).elim

/-! ## Equality of arrays of whole numbers -/
theorem run_eqItems_ints (d : Nat) {te : Nat} {k k' : IntKind} (ht : P.underlying te = some (.int k')) (as bs : List Int) : ∀ (is : List Nat), (∀ i ∈ is, i < as.length ∧ i < bs.length) →
    (Op.eqItems (d + 1) te 1 (as.map (Value.int k)).toArray (bs.map (Value.int k)).toArray is).run P w = .ok (is.all fun i => as.getD i 0 == bs.getD i 0) w
  | [], _ => by simp [Op.eqItems]
  | i :: is, h => by
    have hi := h i (by simp)
    have ih := run_eqItems_ints (k := k) d ht as bs is (fun j hj => h j (by simp [hj]))
    have hagg : (P.underlying te).map aggD = some false := by rw [ht]; rfl
    have hp : ∀ (cs : List Int), i < cs.length → (part te (cs.map (Value.int k)).toArray (i * 1)).run P w = .ok (.int k (cs.getD i 0)) w := by
      intro cs hc
      simp [part, run_isAgg hagg, hc, List.getD]
    simp only [Op.eqItems, Sem.run_bind, hp as hi.1, hp bs hi.2, Result.andThen_ok, run_equalIn_int w d te k k' _ _ ht]
    cases hbb : (as.getD i 0 == bs.getD i 0) with
    | false => rw [List.all_cons, hbb]; simp only [Bool.not_false, if_true, Sem.run_pure, Bool.false_and]
    | true => rw [List.all_cons, hbb]; simp only [Bool.not_true, Bool.false_eq_true, if_false, ih, Bool.true_and]
theorem range_all (as bs : List Int) (h : as.length = bs.length) : ((List.range as.length).all fun i => as.getD i 0 == bs.getD i 0) = (as == bs) := by
  rw [Bool.eq_iff_iff]
  simp only [List.all_eq_true, List.mem_range, beq_iff_eq]
  constructor
  · intro hall
    refine List.ext_getElem h (fun i h1 h2 => ?_)
    have := hall i h1
    simpa [List.getD, h1, h2] using this
  · rintro rfl i _; rfl
theorem run_equal_ints {T te n : Nat} {k k' : IntKind} {i : TypeInfo} (hT : P.underlying T = some (.array n te)) (hte : P.underlying te = some (.int k')) (hi : P.info? te = some i) (hsz : i.size = 1) (as bs : List Int)
    (ha : as.length = n) (hb : bs.length = n) : (Op.equal T (.agg (as.map (Value.int k)).toArray) (.agg (bs.map (Value.int k)).toArray)).run P w = .ok (as == bs) w := by
  show (Op.equalIn (9999 + 1) T _ _).run P w = _
  have hc : P.cellsOf te = 1 := by simp [Program.cellsOf, hi, hsz]
  rw [run_equalIn_array w 9999 _ _ hT hi, hc, run_eqItems_ints (d := 9998) hte as bs (List.range n) (fun j hj => by have := List.mem_range.1 hj; omega), ← ha, range_all as bs (by omega)]
theorem eqGuard_arr {T te n : Nat} {k' : IntKind} (hT : P.underlying T = some (.array n te)) (hte : P.underlying te = some (.int k')) : P.eqGuardType P.depth T = false := by
  unfold Program.depth
  simp [Program.eqGuardType, hT, hte]

theorem ints_u8 (xs : List UInt8) : xs.map E8 = (xs.map fun x => (x.toNat : Int)).map (Value.int .u8) := by simp
theorem eqs_u8 (xs ys : List UInt8) : ((xs.map fun x => (x.toNat : Int)) == (ys.map fun x => (x.toNat : Int))) = (xs == ys) := by
  rw [Bool.eq_iff_iff, beq_iff_eq, beq_iff_eq]
  constructor
  · intro h
    refine List.map_inj_right (fun a b hab => ?_) |>.1 h
    exact UInt8.toNat_inj.1 (by omega)
  · rintro rfl; rfl
theorem ints_u16 (xs : List UInt16) : xs.map E16 = (xs.map fun x => (x.toNat : Int)).map (Value.int .u16) := by simp
theorem eqs_u16 (xs ys : List UInt16) : ((xs.map fun x => (x.toNat : Int)) == (ys.map fun x => (x.toNat : Int))) = (xs == ys) := by
  rw [Bool.eq_iff_iff, beq_iff_eq, beq_iff_eq]
  constructor
  · intro h
    refine List.map_inj_right (fun a b hab => ?_) |>.1 h
    exact UInt16.toNat_inj.1 (by omega)
  · rintro rfl; rfl
theorem ints_u32 (xs : List UInt32) : xs.map E32 = (xs.map fun x => (x.toNat : Int)).map (Value.int .u32) := by simp
theorem eqs_u32 (xs ys : List UInt32) : ((xs.map fun x => (x.toNat : Int)) == (ys.map fun x => (x.toNat : Int))) = (xs == ys) := by
  rw [Bool.eq_iff_iff, beq_iff_eq, beq_iff_eq]
  constructor
  · intro h
    refine List.map_inj_right (fun a b hab => ?_) |>.1 h
    exact UInt32.toNat_inj.1 (by omega)
  · rintro rfl; rfl
theorem ints_u64 (xs : List UInt64) : xs.map E64 = (xs.map fun x => (x.toNat : Int)).map (Value.int .u64) := by simp
theorem eqs_u64 (xs ys : List UInt64) : ((xs.map fun x => (x.toNat : Int)) == (ys.map fun x => (x.toNat : Int))) = (xs == ys) := by
  rw [Bool.eq_iff_iff, beq_iff_eq, beq_iff_eq]
  constructor
  · intro h
    refine List.map_inj_right (fun a b hab => ?_) |>.1 h
    exact UInt64.toNat_inj.1 (by omega)
  · rintro rfl; rfl
theorem eq_sound (ht : TTok P tt) {T : Nat} {x y : AV} {vx vy : Value} {c : Prop} {b : Bool} (h : eqEv real tt T x y = some (c, b)) (hx : RV m w x vx) (hy : RV m w y vy) :
    (Op.equal T vx vy).run P w = .ok b w ∧ P.eqGuardType P.depth T = false ∧ ∃ a d, vx = .agg a ∧ vy = .agg d := by
  unfold eqEv at h
  split at h
  · rename_i n c0 k d0
    split at h
    · rename_i n' te _ _ _ _ hl
      have hT : P.underlying T = some (.array n' te) := (ht.look hl).k
      split at h
      · rename_i k' by_ z1 ek hl2
        have hte : P.underlying te = some (.int k') := (ht.look hl2).k
        obtain ⟨inf, z, hinf, hsz, _⟩ := (ht.look hl2).i
        have hsz : inf.size = 1 := hsz
        split at h
        · rename_i h1 h2
          have h1 := beq_nat h1
          have h2 := beq_nat h2
          subst h1; subst h2
          split at h
          · rename_i b' he
            cases h
            simp only [RV] at hx hy
            obtain ⟨cs, rfl, q1, q2⟩ := hx
            obtain ⟨ds, rfl, q3, q4⟩ := hy
            refine ⟨?_, eqGuard_arr hT hte, _, _, rfl, rfl⟩
            unfold AC.eqv at he
            split at he <;> cases he <;> simp only [RC] at q2 q4 <;> subst q2 <;> subst q4 <;> simp only [List.length_map] at q1 q3
            · rw [ints_u8, ints_u8, run_equal_ints hT hte hinf hsz _ _ (by simpa using q1) (by simpa using q3), eqs_u8]; rfl
            · rw [ints_u16, ints_u16, run_equal_ints hT hte hinf hsz _ _ (by simpa using q1) (by simpa using q3), eqs_u16]; rfl
            · rw [ints_u32, ints_u32, run_equal_ints hT hte hinf hsz _ _ (by simpa using q1) (by simpa using q3), eqs_u32]; rfl
            · rw [ints_u64, ints_u64, run_equal_ints hT hte hinf hsz _ _ (by simpa using q1) (by simpa using q3), eqs_u64]; rfl
            · exact run_equal_ints hT hte hinf hsz _ _ q1 q3
          · cases h
        · cases h
      · cases h
    · cases h
  · cases h
end
end Go.Vc