/- A part of the proof of given statements: a verified condition generator for the model, and contracts of the program's functions. No condition. -/
import Derived.Test.YtegnmmfjbncgnaaVcSnd12
set_option linter.unusedVariables false
set_option linter.unusedSimpArgs false
namespace Go.Vc
open Go Go.RowKit

/-- a function that can be entered -/
def Ready (P : Program) (f : Nat) : Prop := (P.funcs[f]?).map (fun fn => fn.body.isSome && !(fn.name == "runtime.NumGoroutine")) = some true
/-- a function's contract, as of an operation -/
def SpecOK (P : Program) (f : Nat) (sp : Spec) : Prop :=
  ∀ (m : Hd) (w : World) (me : Mem) (kb : Nat) (args : List AV) (vals : List Value) (e : Eff), Base m w me kb → RVs m w args vals → (sp args kb).run me = some e → e.c →
    Calls P f vals.toArray w fun en w' => ∃ v, en = .returned v ∧ ∃ m', OkE m w me kb e.v e.puts v m' w'
def SpecsOK (P : Program) (sps : Specs) : Prop := ∀ p ∈ sps, Ready P p.1 ∧ SpecOK P p.1 p.2
theorem SpecsOK.look {P : Program} {sps : Specs} (h : SpecsOK P sps) {f : Nat} {s : Spec} (hl : splook sps f = some s) : Ready P f ∧ SpecOK P f s := by
  induction sps with
  | nil => simp [splook] at hl
  | cons a r ih =>
    obtain ⟨k, t⟩ := a
    simp only [splook] at hl
    split at hl
    · rename_i e
      have := Nat.eq_of_beq_eq_true e
      subst this; cases hl
      exact h (k, s) (by simp)
    · exact ih (fun p hp => h p (by simp [hp])) hl

section
variable {P : Program} {tt : TT} {sps : Specs} {m : Hd} {w : World} {me : Mem} {kb : Nat}
theorem OpRun.val {ρ : Operand → Value} {o : Oper} {s : Sem Value} {post : Value → World → Prop} {v : Value} {w' : World} (he : execOp ρ o = (do pure (.value (← s)))) (hr : s.run P w = .ok v w') (hp : post v w') :
    OpRun P ρ o w post := by
  unfold OpRun
  rw [he, Sem.run_bind, hr]
  exact hp
theorem OpRun.unit {ρ : Operand → Value} {o : Oper} {s : Sem Unit} {post : Value → World → Prop} {w' : World} (he : execOp ρ o = (do s; pure .skip)) (hr : s.run P w = .ok () w') (hp : post undef w') :
    OpRun P ρ o w post := by
  unfold OpRun
  rw [he, Sem.run_bind, hr]
  exact hp
theorem gets_sound {sl : List (Nat × AV)} {a : Act} (h : SlR m w sl a) : ∀ (l : List Operand), RVs m w (aop.gets real sl l) (l.map a.eval)
  | [] => by simp [aop.gets, RVs]
  | x :: r => by
    simp only [aop.gets, List.map_cons, RVs]
    exact ⟨_, _, rfl, oget_sound h x, gets_sound h r⟩
theorem parts_sound {sl : List (Nat × AV)} {a : Act} (h : SlR m w sl a) : ∀ (l : List (Nat × Operand)), PartsR m w (aop.parts real sl l) (l.map fun p => (p.1, a.eval p.2))
  | [] => by simp [aop.parts, PartsR]
  | (i, x) :: r => by
    simp only [aop.parts, List.map_cons, PartsR]
    exact ⟨trivial, oget_sound h x, parts_sound h r⟩
theorem optGet_sound {sl : List (Nat × AV)} {a : Act} (h : SlR m w sl a) (x : Option Operand) : OptR m w (aop.optGet real sl x) (x.map a.eval) := by
  cases x with
  | none => simp [aop.optGet, OptR]
  | some y => simp only [aop.optGet, Option.map_some, OptR]; exact oget_sound h y

theorem RVs_one {x : AV} {vals : List Value} (h : RVs m w [x] vals) : ∃ v, vals = [v] ∧ RV m w x v := by
  simp only [RVs] at h
  obtain ⟨v, r, rfl, h1, rfl⟩ := h
  exact ⟨v, rfl, h1⟩
theorem RVs_two {x y : AV} {vals : List Value} (h : RVs m w [x, y] vals) : ∃ v u, vals = [v, u] ∧ RV m w x v ∧ RV m w y u := by
  simp only [RVs] at h
  obtain ⟨v, r, rfl, h1, u, r2, rfl, h2, rfl⟩ := h
  exact ⟨v, u, rfl, h1, h2⟩

theorem bltin_sound (ht : TTok P tt) (hb : Base m w me kb) {b : Builtin} {tys : Array Nat} {ty : Nat} {consts : Array Bool} {args : List AV} {vals : List Value} {e : Eff} (ha : RVs m w args vals)
    (h : (builtinEv real tt kb b tys.toList args).run me = some e) (hc : e.c) :
    ∃ v m' w', (builtin b tys ty consts vals.toArray).run P w = .ok (.value v) w' ∧ OkE m w me kb e.v e.puts v m' w' := by
  generalize htl : tys.toList = tl at h
  have htys : tys = tl.toArray := by rw [← htl]
  subst htys
  unfold builtinEv at h
  split at h
  · rename_i T x
    obtain ⟨vx, rfl, hx⟩ := RVs_one ha
    have h' : (builtinEv real tt kb .len [T] [x]).run me = some e := by simp only [builtinEv]; exact h
    obtain ⟨v, h1, h2⟩ := len_sound (ty := ty) ht hb hx h'
    exact ⟨v, m, w, by simp [builtin, h1], h2⟩
  · rename_i T U s x
    obtain ⟨vs, vx, rfl, hs, hx⟩ := RVs_two ha
    split at h
    · rename_i e2 _ _ _ _ hl
      have hU : P.underlying U = some (.slice e2) := (ht.look hl).k
      obtain ⟨v, m', w', h1, h2⟩ := append_sound (ty := ty) ht hb hU (.inl ⟨_, rfl⟩) hs hx h hc
      exact ⟨v, m', w', by simp [builtin, h1], h2⟩
    · rename_i hl
      have hU : P.underlying U = some .string := (ht.look hl).k
      obtain ⟨v, m', w', h1, h2⟩ := append_sound (ty := ty) ht hb hU (.inr rfl) hs hx h hc
      exact ⟨v, m', w', by simp [builtin, h1], h2⟩
    · exact (Look.run_no h).elim
  · rename_i T U s x
    obtain ⟨vs, vx, rfl, hs, hx⟩ := RVs_two ha
    obtain ⟨v, w', h1, h2⟩ := copy_sound (U := U) (ty := ty) ht hb hs hx h hc
    exact ⟨v, m, w', by simp [builtin, h1], h2⟩
  · rename_i a b _ _
    obtain ⟨va, vb, rfl, h1, h2⟩ := RVs_two ha
    split at h
    · rename_i r hr
      have := Look.run_pure1 h; subst this
      obtain ⟨v, h3, h4⟩ := min2_sound (P := P) hr h1 h2
      exact ⟨v, m, w, by simp [builtin, Builtin.min_, h3], hb.same h4⟩
    · exact (Look.run_no h).elim
  · rename_i a b _ _
    obtain ⟨va, vb, rfl, h1, h2⟩ := RVs_two ha
    split at h
    · rename_i r hr
      have := Look.run_pure1 h; subst this
      obtain ⟨v, h3, h4⟩ := max2_sound (P := P) hr h1 h2
      exact ⟨v, m, w, by simp [builtin, Builtin.max_, h3], hb.same h4⟩
    · exact (Look.run_no h).elim
  · exact (Look.run_no h).elim

def isCst : Operand → Bool
  | .const _ => true
  | _ => false
theorem callFunc_run {f : Nat} (h : Ready P f) (args : Array Value) (w : World) : (callFunc f args).run P w = .ok (.enter f args) w := by
  unfold Ready at h
  cases hf : P.funcs[f]? with
  | none => simp [hf] at h
  | some fn =>
    rw [hf] at h
    simp only [Option.map_some, Option.some.injEq, Bool.and_eq_true, Bool.not_eq_true'] at h
    have hb : fn.body.isNone = false := by cases hq : fn.body <;> simp_all
    unfold callFunc
    simp only [Sem.run_bind, run_program, Result.andThen_ok, hf]
    rw [if_neg (by simp [h.2]), if_neg (by simp [hb])]
    rfl

theorem nonagg_guard {op : BinOp} {T : Nat} {x y : Operand} {a b : Value} (ha : ∀ c, a ≠ .agg c) (hn : a ≠ .nilIface) (w : World) : (eqGuard op T x y a b).run P w = .ok () w := by
  unfold eqGuard
  cases op <;> simp <;> split <;> first | rfl | (exfalso; first | exact hn rfl | exact ha _ rfl)
theorem binEv_no {op : BinOp} {x y : AV} {r : Prop × AV} (h : (match x with | .i _ => true | .w8 _ => true | .w16 _ => true | .w32 _ => true | .w64 _ => true | .s _ => true | _ => false) = false) (he : binEv real op x y = some r) : False := by
  unfold binEv at he
  split at he
  · split at he
    · cases he
    · split at he <;> first | (cases he; done) | (simp at h)
  · split at he
    · cases he
    · split at he <;> first | (cases he; done) | (simp at h)
  · unfold binEv2 at he
    split at he <;> first | (cases he; done) | (simp at h)
theorem binEv_shape {op : BinOp} {x y : AV} {r : Prop × AV} {vx : Value} (he : binEv real op x y = some r) (hx : RV m w x vx) : (∀ c, vx ≠ .agg c) ∧ vx ≠ .nilIface := by
  cases x <;> first
    | (exact (binEv_no rfl he).elim)
    | (simp only [RV, CR, List.cons.injEq, and_true] at hx; subst hx; exact ⟨fun c h => (by cases h), fun h => (by cases h)⟩)
theorem binop_sound (ht : TTok P tt) (hb : Base m w me kb) {op : BinOp} {T : Nat} {x y : AV} {vx vy : Value} {e : Eff} {ox oy : Operand} (hx : RV m w x vx) (hy : RV m w y vy)
    (h : (binopEv real tt op T x y).run me = some e) (hc : e.c) : ∃ v, (do eqGuard op T ox oy vx vy; binOp op T vx vy : Sem Value).run P w = .ok v w ∧ OkE m w me kb e.v e.puts v m w := by
  have hbool : ∀ a, vx = .bool a → (boolEq real tt op T a y).run me = some e → ∃ v, (do eqGuard op T ox oy vx vy; binOp op T vx vy : Sem Value).run P w = .ok v w ∧ OkE m w me kb e.v e.puts v m w := by
    rintro a rfl h
    unfold boolEq at h
    split at h
    · rename_i b _ _ _ _ hbo hl
      have hT : P.underlying T = some .bool := (ht.look hl).k
      have := isBool_sound hbo hy
      subst this
      split at h
      · have := Look.run_pure1 h; subst this
        refine ⟨.bool (a == b), ?_, hb.same (by simp [RV, CR, real])⟩
        rw [Sem.run_bind, nonagg_guard (by simp) (by simp)]
        exact run_eql_bool w T a b hT
      · have := Look.run_pure1 h; subst this
        refine ⟨.bool (!(a == b)), ?_, hb.same (by simp [RV, CR, real])⟩
        rw [Sem.run_bind, nonagg_guard (by simp) (by simp)]
        simp only [Result.andThen_ok, binOp]
        simp [run_equal_bool w T a b hT]
      · exact (Look.run_no h).elim
    · exact (Look.run_no h).elim
  unfold binopEv at h
  split at h
  · rename_i a
    simp only [RV, CR, List.cons.injEq, and_true] at hx
    exact hbool a hx h
  · rename_i a
    simp only [RV, CR, List.cons.injEq, and_true] at hx
    exact hbool a hx h
  · split at h
    · split at h
      · rename_i c b he
        have := Look.run_pure1 h; subst this
        obtain ⟨h1, h2, a, d, rfl, rfl⟩ := eq_sound ht he hx hy
        refine ⟨.bool b, ?_, hb.same (by simp [RV, CR])⟩
        rw [Sem.run_bind, run_eqGuard_agg w .eql T ox oy a d h2]
        simp only [Result.andThen_ok, binOp]
        simp [h1]
      · exact (Look.run_no h).elim
    · split at h
      · rename_i c b he
        have := Look.run_pure1 h; subst this
        obtain ⟨h1, h2, a, d, rfl, rfl⟩ := eq_sound ht he hx hy
        refine ⟨.bool (!b), ?_, hb.same (by simp [RV, CR, real])⟩
        rw [Sem.run_bind, run_eqGuard_agg w .neq T ox oy a d h2]
        simp only [Result.andThen_ok, binOp]
        simp [h1]
      · exact (Look.run_no h).elim
    · exact (Look.run_no h).elim
  · obtain ⟨c, v, he, rfl⟩ := oneEff_run h
    obtain ⟨v', h1, h2⟩ := binEv_sound (P := P) (T := T) he hc hx hy
    refine ⟨v', ?_, hb.same h2⟩
    have hshape : (∀ c, vx ≠ .agg c) ∧ vx ≠ .nilIface := by
      exact binEv_shape he hx
    rw [Sem.run_bind, nonagg_guard hshape.1 hshape.2]
    exact h1

theorem aop_sound (ht : TTok P tt) (hs : SpecsOK P sps) (hb : Base m w me kb) {sl : List (Nat × AV)} {a : Act} (hsl : SlR m w sl a) {o : Oper} {e : Eff} (h : (aop real tt sps sl kb o.op).run me = some e) (hc : e.c) :
    OpRun P a.eval o w fun v w' => ∃ m', OkE m w me kb e.v e.puts v m' w' := by
  obtain ⟨dst, op, type, pos, after, guard⟩ := o
  have G := oget_sound hsl
  unfold aop at h
  split at h
  · rename_i x hop
    (try simp only at hop); subst hop
    have := Look.run_pure1 h; subst this
    exact OpRun.val (s := pure (a.eval x)) rfl rfl ⟨m, hb.same (G x)⟩
  · rename_i x hop
    (try simp only at hop); subst hop
    have := Look.run_pure1 h; subst this
    exact OpRun.val (s := pure (a.eval x)) rfl rfl ⟨m, hb.same (G x)⟩
  · rename_i c x y hop
    (try simp only at hop); subst hop
    obtain ⟨b, h1, h2⟩ := pick_sound hb (G c) (G x) (G y) h
    unfold OpRun
    simp only [execOp, Sem.run_bind, h1, asBool, Sem.run_pure, Result.andThen_ok]
    exact ⟨m, h2⟩
  · rename_i T hop
    (try simp only at hop); subst hop
    obtain ⟨v, m', w', h1, h2⟩ := alloc_sound (P := P) ht hb h
    exact OpRun.val rfl h1 ⟨m', h2⟩
  · rename_i T x hop
    (try simp only at hop); subst hop
    obtain ⟨v, m', w', h1, h2⟩ := box_sound (P := P) ht hb (G x) h
    exact OpRun.val rfl h1 ⟨m', h2⟩
  · rename_i T ps hop
    (try simp only at hop); subst hop
    obtain ⟨v, h1, h2⟩ := build_sound (P := P) (vparts := ps.map fun (i, x) => (i, a.eval x)) ht hb (by simpa using parts_sound hsl ps.toList) h hc
    exact OpRun.val rfl h1 ⟨m, h2⟩
  · rename_i T n ps hop
    (try simp only at hop); subst hop
    obtain ⟨v, m', w', h1, h2⟩ := buildSlice_sound (P := P) (vparts := ps.map fun (i, x) => (i, a.eval x)) ht hb (by simpa using parts_sound hsl ps.toList) h
    exact OpRun.val rfl h1 ⟨m', h2⟩
  · rename_i T x hop
    (try simp only at hop); subst hop
    obtain ⟨v, h1, h2⟩ := load_sound (P := P) ht hb (G x) h hc
    exact OpRun.val rfl h1 ⟨m, h2⟩
  · rename_i T x y hop
    (try simp only at hop); subst hop
    obtain ⟨w', h1, h2⟩ := store_sound (P := P) ht hb (G x) (G y) h hc
    exact OpRun.unit rfl h1 ⟨m, h2⟩
  · rename_i x hop
    (try simp only at hop); subst hop
    have hx := G x
    split at h
    · rename_i k g o hq
      have := Look.run_pure1 h; subst this
      rw [hq] at hx
      have hx' := hx
      simp only [RV, CR] at hx'
      obtain ⟨gb, _, h2⟩ := hx'
      simp only [List.cons.injEq, and_true] at h2
      unfold OpRun
      simp only [execOp, h2, Sem.run_pure]
      rw [← h2]
      exact ⟨m, hb.same hx⟩
    · rename_i k g o e' i' hq
      have := Look.run_pure1 h; subst this
      rw [hq] at hx
      have hx' := hx
      simp only [RV, CR] at hx'
      obtain ⟨_, gb, _, _, h2⟩ := hx'
      simp only [List.cons.injEq, and_true] at h2
      unfold OpRun
      simp only [execOp, h2, Sem.run_pure]
      rw [← h2]
      exact ⟨m, hb.same hx⟩
    · rename_i b hq
      have := Look.run_pure1 h; subst this
      rw [hq] at hx
      have hx' := hx
      simp only [RV, CR] at hx'
      obtain ⟨ad, ds, h2, _⟩ := hx'
      simp only [List.cons.injEq, and_true] at h2
      unfold OpRun
      simp only [execOp, h2, Sem.run_pure]
      rw [← h2]
      exact ⟨m, hb.same hx⟩
    · exact (Look.run_no h).elim
  · rename_i op T x y U hop
    (try simp only at hop); subst hop
    obtain ⟨v, h1, h2⟩ := binop_sound (P := P) (ox := x) (oy := y) ht hb (G x) (G y) h hc
    exact OpRun.val rfl h1 ⟨m, h2⟩
  · rename_i op T x hop
    (try simp only at hop); subst hop
    obtain ⟨c, v, he, rfl⟩ := oneEff_run h
    obtain ⟨v', h1, h2⟩ := unEv_sound (P := P) he (G x)
    exact OpRun.val rfl h1 ⟨m, hb.same h2⟩
  · rename_i src dst x hop
    (try simp only at hop); subst hop
    obtain ⟨v, m', w', h1, h2⟩ := conv_sound (P := P) ht hb (G x) h hc
    exact OpRun.val rfl h1 ⟨m', h2⟩
  · rename_i T n c hop
    (try simp only at hop); subst hop
    obtain ⟨v, m', w', h1, h2⟩ := makeSlice_sound (P := P) ht hb (G n) (G c) h hc
    exact OpRun.val rfl h1 ⟨m', h2⟩
  · rename_i T x lo hi mx hop
    (try simp only at hop); subst hop
    obtain ⟨v, h1, h2⟩ := slice_sound (P := P) ht hb (G x) (optGet_sound hsl lo) (optGet_sound hsl hi) (optGet_sound hsl mx) h hc
    exact OpRun.val rfl h1 ⟨m, h2⟩
  · rename_i T x f hop
    (try simp only at hop); subst hop
    obtain ⟨v, h1, h2⟩ := fieldAddr_sound (P := P) ht hb (G x) h
    exact OpRun.val rfl h1 ⟨m, h2⟩
  · rename_i T x i hop
    (try simp only at hop); subst hop
    obtain ⟨v, h1, h2⟩ := idxAddr_sound (P := P) ht hb (G x) (G i) h hc
    exact OpRun.val rfl h1 ⟨m, h2⟩
  · rename_i T x i hop
    (try simp only at hop); subst hop
    obtain ⟨v, h1, h2⟩ := idx_sound (P := P) ht hb (G x) (G i) h hc
    exact OpRun.val rfl h1 ⟨m, h2⟩
  · rename_i x i hop
    (try simp only at hop); subst hop
    have hx := G x
    split at h
    · rename_i l hq
      split at h
      · rename_i hlt
        have := Look.run_pure1 h; subst this
        rw [hq] at hx
        simp only [RV] at hx
        obtain ⟨vs, h1, h2⟩ := hx
        have hget : ∀ (l : List AV) (vs : List Value) (i : Nat), RVs m w l vs → i < llen l → ∃ v, vs[i]? = some v ∧ RV m w (lget l i) v := by
          intro l
          induction l with
          | nil => intro vs i _ hi; simp [llen] at hi
          | cons b r ih =>
            intro vs i hv hi
            simp only [RVs] at hv
            obtain ⟨v, q, rfl, g1, g2⟩ := hv
            cases i with
            | zero => exact ⟨v, rfl, g1⟩
            | succ i => simpa [lget] using ih q i g2 (by simpa [llen] using hi)
        obtain ⟨v, g1, g2⟩ := hget l vs i h2 (by simp [Nat.blt] at hlt; omega)
        refine OpRun.val (v := v) (w' := w) rfl ?_ ⟨m, hb.same g2⟩
        simp [Instr.extract, h1, g1]
      · exact (Look.run_no h).elim
    · exact (Look.run_no h).elim
  · rename_i b args tys hop
    (try simp only at hop); subst hop
    obtain ⟨v, m', w', h1, h2⟩ := bltin_sound (P := P) (ty := type) (consts := args.map isCst) ht hb (gets_sound hsl args.toList) h hc
    have key : execOp a.eval { dst := dst, op := Op.call { callee := .builtin b, args := args, argTypes := tys }, type := type, pos := pos, after := after, guard := guard } = builtin b tys type (args.map isCst) (args.map a.eval) := rfl
    have e1 : (args.toList.map a.eval).toArray = args.map a.eval := by rw [← Array.toList_map, Array.toArray_toList]
    rw [e1] at h1
    unfold OpRun
    rw [key, h1]
    exact ⟨m', h2⟩
  · rename_i f args tys hop
    (try simp only at hop); subst hop
    split at h
    · rename_i s hsp
      obtain ⟨hr, hok⟩ := hs.look hsp
      have hcall := hok m w me kb _ _ e hb (gets_sound hsl args.toList) h hc
      have e1 : (args.toList.map a.eval).toArray = args.map a.eval := by rw [← Array.toList_map, Array.toArray_toList]
      rw [e1] at hcall
      have key : execOp a.eval { dst := dst, op := Op.call { callee := .value (.func f), args := args, argTypes := tys }, type := type, pos := pos, after := after, guard := guard } = callFunc f ((#[] ++ args.map a.eval) ++ #[]) := rfl
      unfold OpRun
      rw [key, callFunc_run hr, Array.append_empty, Array.empty_append]
      exact hcall
    · exact (Look.run_no h).elim
  · exact (Look.run_no h).elim
end
end Go.Vc
