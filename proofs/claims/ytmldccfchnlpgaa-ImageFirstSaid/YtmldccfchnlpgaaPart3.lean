/- A part of the proof of given statements: a verified condition generator for the model, and contracts of the program's functions. No condition. -/
import Derived.Test.YtmldccfchnlpgaaPart2
import Derived.ProofKit
set_option linter.unusedVariables false
set_option linter.unusedSimpArgs false
set_option linter.constructorNameAsVariable false
set_option linter.unusedVariables false
set_option linter.unusedSimpArgs false
namespace Go.Vc
open Go Go.RowKit

/-- a function that can be entered -/
def Ready (P : Program) (f : Nat) : Prop := (P.funcs[f]?).map (fun fn => fn.body.isSome && !(fn.name == "runtime.NumGoroutine")) = some true
/-- the variables of the program's packages lie as in some world of its shape, and nothing turns them -/
def GInv (P : Program) (m : Hd) (w : World) : Prop := ∃ w0 : World, w0.ShapedOpen P ∧ ∀ g o, g < P.globals.size → w0.heap[g]? = some o → Stable m w g ∧ w.heap[g]? = some o
/-- a function's contract, as of an operation -/
def SpecOK (P : Program) (f : Nat) (sp : Spec) : Prop :=
  ∀ (m : Hd) (w : World) (me : Mem) (kb : Nat) (args : List AV) (vals : List Value) (e : Eff), GInv P m w → Base m w me kb → RVs m w args vals → (sp args kb).run me = some e → e.c →
    Calls P f vals.toArray w fun en w' => ∃ v, en = .returned v ∧ ∃ m', OkE m w me kb e.v e.puts v m' w'
def SpecsOK (P : Program) (sps : Specs) : Prop := ∀ p ∈ sps, Ready P p.1 ∧ SpecOK P p.1 p.2
theorem SpecsOK.look {P : Program} {sps : Specs} (h : SpecsOK P sps) {f : Nat} {s : Spec} (hl : splook sps f = some s) : Ready P f ∧ SpecOK P f s := by
  induction sps with
  | nil => simp [splook] at hl
  | cons a r ih =>
    obtain ⟨k, t⟩ := a
    simp only [splook] at hl
    split at hl
    · rename_i e
      have := Nat.eq_of_beq_eq_true e
      subst this; cases hl
      exact h (k, s) (by simp)
    · exact ih (fun p hp => h p (by simp [hp])) hl

section
variable {P : Program} {tt : TT} {sps : Specs} {m : Hd} {w : World} {me : Mem} {kb : Nat}
theorem OpRun.val {ρ : Operand → Value} {o : Oper} {s : Sem Value} {post : Value → World → Prop} {v : Value} {w' : World} (he : execOp ρ o = (do pure (.value (← s)))) (hr : s.run P w = .ok v w') (hp : post v w') :
    OpRun P ρ o w post := by
  unfold OpRun
  rw [he, Sem.run_bind, hr]
  exact hp
theorem OpRun.unit {ρ : Operand → Value} {o : Oper} {s : Sem Unit} {post : Value → World → Prop} {w' : World} (he : execOp ρ o = (do s; pure .skip)) (hr : s.run P w = .ok () w') (hp : post undef w') :
    OpRun P ρ o w post := by
  unfold OpRun
  rw [he, Sem.run_bind, hr]
  exact hp
theorem gets_sound {sl : List (Nat × AV)} {a : Act} (h : SlR m w sl a) : ∀ (l : List Operand), RVs m w (aop.gets real sl l) (l.map a.eval)
  | [] => by simp [aop.gets, RVs]
  | x :: r => by
    simp only [aop.gets, List.map_cons, RVs]
    exact ⟨_, _, rfl, oget_sound h x, gets_sound h r⟩
theorem parts_sound {sl : List (Nat × AV)} {a : Act} (h : SlR m w sl a) : ∀ (l : List (Nat × Operand)), PartsR m w (aop.parts real sl l) (l.map fun p => (p.1, a.eval p.2))
  | [] => by simp [aop.parts, PartsR]
  | (i, x) :: r => by
    simp only [aop.parts, List.map_cons, PartsR]
    exact ⟨trivial, oget_sound h x, parts_sound h r⟩
theorem optGet_sound {sl : List (Nat × AV)} {a : Act} (h : SlR m w sl a) (x : Option Operand) : OptR m w (aop.optGet real sl x) (x.map a.eval) := by
  cases x with
  | none => simp [aop.optGet, OptR]
  | some y => simp only [aop.optGet, Option.map_some, OptR]; exact oget_sound h y

theorem RVs_one {x : AV} {vals : List Value} (h : RVs m w [x] vals) : ∃ v, vals = [v] ∧ RV m w x v := by
  simp only [RVs] at h
  obtain ⟨v, r, rfl, h1, rfl⟩ := h
  exact ⟨v, rfl, h1⟩
theorem RVs_two {x y : AV} {vals : List Value} (h : RVs m w [x, y] vals) : ∃ v u, vals = [v, u] ∧ RV m w x v ∧ RV m w y u := by
  simp only [RVs] at h
  obtain ⟨v, r, rfl, h1, u, r2, rfl, h2, rfl⟩ := h
  exact ⟨v, u, rfl, h1, h2⟩

theorem bltin_sound (ht : TTok P tt) (hb : Base m w me kb) {b : Builtin} {tys : Array Nat} {ty : Nat} {consts : Array Bool} {args : List AV} {vals : List Value} {e : Eff} (ha : RVs m w args vals)
    (h : (builtinEv real tt kb b tys.toList args).run me = some e) (hc : e.c) :
    ∃ v m' w', (builtin b tys ty consts vals.toArray).run P w = .ok (.value v) w' ∧ OkE m w me kb e.v e.puts v m' w' := by
  generalize htl : tys.toList = tl at h
  have htys : tys = tl.toArray := by rw [← htl]
  subst htys
  unfold builtinEv at h
  split at h
  · rename_i T x
    obtain ⟨vx, rfl, hx⟩ := RVs_one ha
    have h' : (builtinEv real tt kb .len [T] [x]).run me = some e := by simp only [builtinEv]; exact h
    obtain ⟨v, h1, h2⟩ := len_sound (ty := ty) ht hb hx h'
    exact ⟨v, m, w, by simp [builtin, h1], h2⟩
  · rename_i T U s x
    obtain ⟨vs, vx, rfl, hs, hx⟩ := RVs_two ha
    split at h
    · rename_i e2 _ _ _ _ hl
      have hU : P.underlying U = some (.slice e2) := (ht.look hl).k
      obtain ⟨v, m', w', h1, h2⟩ := append_sound (ty := ty) ht hb hU (.inl ⟨_, rfl⟩) hs hx h hc
      exact ⟨v, m', w', by simp [builtin, h1], h2⟩
    · rename_i hl
      have hU : P.underlying U = some .string := (ht.look hl).k
      obtain ⟨v, m', w', h1, h2⟩ := append_sound (ty := ty) ht hb hU (.inr rfl) hs hx h hc
      exact ⟨v, m', w', by simp [builtin, h1], h2⟩
    · rename_i kq _ _ _ _ hl
      have hU : P.underlying U = some (.int kq) := (ht.look hl).k
      obtain ⟨v, m', w', h1, h2⟩ := appendZ_sound (ty := ty) ht hb hU hs hx h hc
      exact ⟨v, m', w', by simp [builtin, h1], h2⟩
    · exact (Look.run_no h).elim
  · rename_i T U s x
    obtain ⟨vs, vx, rfl, hs, hx⟩ := RVs_two ha
    obtain ⟨v, w', h1, h2⟩ := copy_sound (U := U) (ty := ty) ht hb hs hx h hc
    exact ⟨v, m, w', by simp [builtin, h1], h2⟩
  · rename_i T U x k
    obtain ⟨vx, vk, rfl, hx, hk⟩ := RVs_two ha
    obtain ⟨v, w', h1, h2⟩ := mapDel_sound (U := U) (ty := ty) ht hb hx hk h
    exact ⟨v, m, w', by simp [builtin, h1], h2⟩
  · rename_i a b _ _
    obtain ⟨va, vb, rfl, h1, h2⟩ := RVs_two ha
    split at h
    · rename_i r hr
      have := Look.run_pure1 h; subst this
      obtain ⟨v, h3, h4⟩ := min2_sound (P := P) hr h1 h2
      exact ⟨v, m, w, by simp [builtin, Builtin.min_, h3], hb.same h4⟩
    · exact (Look.run_no h).elim
  · rename_i a b _ _
    obtain ⟨va, vb, rfl, h1, h2⟩ := RVs_two ha
    split at h
    · rename_i r hr
      have := Look.run_pure1 h; subst this
      obtain ⟨v, h3, h4⟩ := max2_sound (P := P) hr h1 h2
      exact ⟨v, m, w, by simp [builtin, Builtin.max_, h3], hb.same h4⟩
    · exact (Look.run_no h).elim
  · exact (Look.run_no h).elim

def isCst : Operand → Bool
  | .const _ => true
  | _ => false
theorem callFunc_run {f : Nat} (h : Ready P f) (args : Array Value) (w : World) : (callFunc f args).run P w = .ok (.enter f args) w := by
  unfold Ready at h
  cases hf : P.funcs[f]? with
  | none => simp [hf] at h
  | some fn =>
    rw [hf] at h
    simp only [Option.map_some, Option.some.injEq, Bool.and_eq_true, Bool.not_eq_true'] at h
    have hb : fn.body.isNone = false := by cases hq : fn.body <;> simp_all
    unfold callFunc
    simp only [Sem.run_bind, run_program, Result.andThen_ok, hf]
    rw [if_neg (by simp [h.2]), if_neg (by simp [hb])]
    rfl

theorem nonagg_guard {op : BinOp} {T : Nat} {x y : Operand} {a b : Value} (ha : ∀ c, a ≠ .agg c) (hn : a ≠ .nilIface) (w : World) : (eqGuard op T x y a b).run P w = .ok () w := by
  unfold eqGuard
  cases op <;> simp <;> split <;> first | rfl | (exfalso; first | exact hn rfl | exact ha _ rfl)
theorem binEv_no {op : BinOp} {x y : AV} {r : Prop × AV} (h : (match x with | .i _ => true | .w8 _ => true | .w16 _ => true | .w32 _ => true | .w64 _ => true | .s _ => true | _ => false) = false) (he : binEv real op x y = some r) : False := by
  unfold binEv at he
  split at he
  · split at he
    · cases he
    · split at he <;> first | (cases he; done) | (simp at h)
  · split at he
    · cases he
    · split at he <;> first | (cases he; done) | (simp at h)
  · unfold binEv2 at he
    split at he <;> first | (cases he; done) | (simp at h)
theorem binEv_shape {op : BinOp} {x y : AV} {r : Prop × AV} {vx : Value} (he : binEv real op x y = some r) (hx : RV m w x vx) : (∀ c, vx ≠ .agg c) ∧ vx ≠ .nilIface := by
  cases x <;> first
    | (exact (binEv_no rfl he).elim)
    | (simp only [RV, CR, List.cons.injEq, and_true] at hx; subst hx; exact ⟨fun c h => (by cases h), fun h => (by cases h)⟩)
theorem binop_sound (ht : TTok P tt) (hb : Base m w me kb) {op : BinOp} {T : Nat} {x y : AV} {vx vy : Value} {e : Eff} {ox oy : Operand} (hx : RV m w x vx) (hy : RV m w y vy)
    (h : (binopEv real tt op T x y).run me = some e) (hc : e.c) : ∃ v, (do eqGuard op T ox oy vx vy; binOp op T vx vy : Sem Value).run P w = .ok v w ∧ OkE m w me kb e.v e.puts v m w := by
  have hbool : ∀ a, vx = .bool a → (boolEq real tt op T a y).run me = some e → ∃ v, (do eqGuard op T ox oy vx vy; binOp op T vx vy : Sem Value).run P w = .ok v w ∧ OkE m w me kb e.v e.puts v m w := by
    rintro a rfl h
    unfold boolEq at h
    split at h
    · rename_i b _ _ _ _ hbo hl
      have hT : P.underlying T = some .bool := (ht.look hl).k
      have := isBool_sound hbo hy
      subst this
      split at h
      · have := Look.run_pure1 h; subst this
        refine ⟨.bool (a == b), ?_, hb.same (by simp [RV, CR, real])⟩
        rw [Sem.run_bind, nonagg_guard (by simp) (by simp)]
        exact run_eql_bool w T a b hT
      · have := Look.run_pure1 h; subst this
        refine ⟨.bool (!(a == b)), ?_, hb.same (by simp [RV, CR, real])⟩
        rw [Sem.run_bind, nonagg_guard (by simp) (by simp)]
        simp only [Result.andThen_ok, binOp]
        simp [run_equal_bool w T a b hT]
      · exact (Look.run_no h).elim
    · exact (Look.run_no h).elim
  unfold binopEv at h
  split at h
  · rename_i a
    simp only [RV, CR, List.cons.injEq, and_true] at hx
    exact hbool a hx h
  · rename_i a
    simp only [RV, CR, List.cons.injEq, and_true] at hx
    exact hbool a hx h
  · split at h
    · split at h
      · rename_i c b he
        have := Look.run_pure1 h; subst this
        obtain ⟨h1, h2, a, d, rfl, rfl⟩ := eq_sound ht he hx hy
        refine ⟨.bool b, ?_, hb.same (by simp [RV, CR])⟩
        rw [Sem.run_bind, run_eqGuard_agg w .eql T ox oy a d h2]
        simp only [Result.andThen_ok, binOp]
        simp [h1]
      · exact (Look.run_no h).elim
    · split at h
      · rename_i c b he
        have := Look.run_pure1 h; subst this
        obtain ⟨h1, h2, a, d, rfl, rfl⟩ := eq_sound ht he hx hy
        refine ⟨.bool (!b), ?_, hb.same (by simp [RV, CR, real])⟩
        rw [Sem.run_bind, run_eqGuard_agg w .neq T ox oy a d h2]
        simp only [Result.andThen_ok, binOp]
        simp [h1]
      · exact (Look.run_no h).elim
    · exact (Look.run_no h).elim
  · obtain ⟨c, v, he, rfl⟩ := oneEff_run h
    obtain ⟨v', h1, h2⟩ := binEv_sound (P := P) (T := T) he hc hx hy
    refine ⟨v', ?_, hb.same h2⟩
    have hshape : (∀ c, vx ≠ .agg c) ∧ vx ≠ .nilIface := by
      exact binEv_shape he hx
    rw [Sem.run_bind, nonagg_guard hshape.1 hshape.2]
    exact h1

theorem aop_sound (ht : TTok P tt) (hs : SpecsOK P sps) (hgi : GInv P m w) (hb : Base m w me kb) {sl : List (Nat × AV)} {a : Act} (hsl : SlR m w sl a) {o : Oper} {e : Eff} (h : (aop real tt sps sl kb o.op).run me = some e) (hc : e.c) :
    OpRun P a.eval o w fun v w' => ∃ m', OkE m w me kb e.v e.puts v m' w' := by
  obtain ⟨dst, op, type, pos, after, guard⟩ := o
  have G := oget_sound hsl
  unfold aop at h
  split at h
  · rename_i x hop
    (try simp only at hop); subst hop
    have := Look.run_pure1 h; subst this
    exact OpRun.val (s := pure (a.eval x)) rfl rfl ⟨m, hb.same (G x)⟩
  · rename_i x hop
    (try simp only at hop); subst hop
    have := Look.run_pure1 h; subst this
    exact OpRun.val (s := pure (a.eval x)) rfl rfl ⟨m, hb.same (G x)⟩
  · rename_i c x y hop
    (try simp only at hop); subst hop
    obtain ⟨b, h1, h2⟩ := pick_sound hb (G c) (G x) (G y) h
    unfold OpRun
    simp only [execOp, Sem.run_bind, h1, asBool, Sem.run_pure, Result.andThen_ok]
    exact ⟨m, h2⟩
  · rename_i T hop
    (try simp only at hop); subst hop
    obtain ⟨v, m', w', h1, h2⟩ := alloc_sound (P := P) ht hb h
    exact OpRun.val rfl h1 ⟨m', h2⟩
  · rename_i T x hop
    (try simp only at hop); subst hop
    obtain ⟨v, m', w', h1, h2⟩ := box_sound (P := P) ht hb (G x) h
    exact OpRun.val rfl h1 ⟨m', h2⟩
  · rename_i T ps hop
    (try simp only at hop); subst hop
    obtain ⟨v, h1, h2⟩ := build_sound (P := P) (vparts := ps.map fun (i, x) => (i, a.eval x)) ht hb (by simpa using parts_sound hsl ps.toList) h hc
    exact OpRun.val rfl h1 ⟨m, h2⟩
  · rename_i T n ps hop
    (try simp only at hop); subst hop
    obtain ⟨v, m', w', h1, h2⟩ := buildSlice_sound (P := P) (vparts := ps.map fun (i, x) => (i, a.eval x)) ht hb (by simpa using parts_sound hsl ps.toList) h
    exact OpRun.val rfl h1 ⟨m', h2⟩
  · rename_i T x hop
    (try simp only at hop); subst hop
    obtain ⟨v, h1, h2⟩ := load_sound (P := P) ht hb (G x) h hc
    exact OpRun.val rfl h1 ⟨m, h2⟩
  · rename_i T x y hop
    (try simp only at hop); subst hop
    obtain ⟨m', w', h1, h2⟩ := store_sound (P := P) ht hb (G x) (G y) h hc
    exact OpRun.unit rfl h1 ⟨m', h2⟩
  · rename_i x hop
    (try simp only at hop); subst hop
    have hx := G x
    split at h
    · rename_i k g o hq
      have := Look.run_pure1 h; subst this
      rw [hq] at hx
      have hx' := hx
      simp only [RV, CR] at hx'
      obtain ⟨gb, _, h2⟩ := hx'
      simp only [List.cons.injEq, and_true] at h2
      unfold OpRun
      simp only [execOp, h2, Sem.run_pure]
      rw [← h2]
      exact ⟨m, hb.same hx⟩
    · rename_i k g o e' i' hq
      have := Look.run_pure1 h; subst this
      rw [hq] at hx
      have hx' := hx
      simp only [RV, CR] at hx'
      obtain ⟨_, gb, _, _, h2⟩ := hx'
      simp only [List.cons.injEq, and_true] at h2
      unfold OpRun
      simp only [execOp, h2, Sem.run_pure]
      rw [← h2]
      exact ⟨m, hb.same hx⟩
    · rename_i b hq
      have := Look.run_pure1 h; subst this
      rw [hq] at hx
      have hx' := hx
      simp only [RV, CR] at hx'
      obtain ⟨ad, ds, h2, _⟩ := hx'
      simp only [List.cons.injEq, and_true] at h2
      unfold OpRun
      simp only [execOp, h2, Sem.run_pure]
      rw [← h2]
      exact ⟨m, hb.same hx⟩
    · rename_i k g o e' i' j' c' hq
      have := Look.run_pure1 h; subst this
      rw [hq] at hx
      have hx' := hx
      simp only [RV, CR] at hx'
      obtain ⟨_, gb, _, _, h2⟩ := hx'
      simp only [List.cons.injEq, and_true] at h2
      unfold OpRun
      simp only [execOp, h2, Sem.run_pure]
      rw [← h2]
      exact ⟨m, hb.same hx⟩
    · exact (Look.run_no h).elim
  · rename_i op T x y U hop
    (try simp only at hop); subst hop
    obtain ⟨v, h1, h2⟩ := binop_sound (P := P) (ox := x) (oy := y) ht hb (G x) (G y) h hc
    exact OpRun.val rfl h1 ⟨m, h2⟩
  · rename_i op T x hop
    (try simp only at hop); subst hop
    obtain ⟨c, v, he, rfl⟩ := oneEff_run h
    obtain ⟨v', h1, h2⟩ := unEv_sound (P := P) he (G x)
    exact OpRun.val rfl h1 ⟨m, hb.same h2⟩
  · rename_i src dst x hop
    (try simp only at hop); subst hop
    obtain ⟨v, m', w', h1, h2⟩ := conv_sound (P := P) ht hb (G x) h hc
    exact OpRun.val rfl h1 ⟨m', h2⟩
  · rename_i T n c hop
    (try simp only at hop); subst hop
    obtain ⟨v, m', w', h1, h2⟩ := makeSlice_sound (P := P) ht hb (G n) (G c) h hc
    exact OpRun.val rfl h1 ⟨m', h2⟩
  · rename_i T hop
    (try simp only at hop); subst hop
    obtain ⟨v, m', w', h1, h2⟩ := makeMap_sound (P := P) ht hb h
    exact OpRun.val rfl h1 ⟨m', h2⟩
  · rename_i T x k y hop
    (try simp only at hop); subst hop
    obtain ⟨w', h1, h2⟩ := mapSet_sound (P := P) ht hb (G x) (G k) (G y) h
    exact OpRun.unit rfl h1 ⟨m, h2⟩
  · rename_i T x k y hop
    (try simp only at hop); subst hop
    obtain ⟨w', h1, h2⟩ := mapSet_sound (P := P) ht hb (G x) (G k) (G y) h
    exact OpRun.unit rfl h1 ⟨m, h2⟩
  · rename_i T x k ok hop
    (try simp only at hop); subst hop
    obtain ⟨v, h1, h2⟩ := mapGet_sound (P := P) ht hb (G x) (G k) h
    exact OpRun.val rfl h1 ⟨m, h2⟩
  · rename_i T x lo hi mx hop
    (try simp only at hop); subst hop
    split at h
    · rename_i h00
      unfold aop.is00 at h00
      split at h00 <;> first | (cases h00; done) | skip
      obtain ⟨v, h1, h2⟩ := slice0_sound (P := P) ht hb (G x) h
      exact OpRun.val rfl h1 ⟨m, h2⟩
    · obtain ⟨v, h1, h2⟩ := slice_sound (P := P) ht hb (G x) (optGet_sound hsl lo) (optGet_sound hsl hi) (optGet_sound hsl mx) h hc
      exact OpRun.val rfl h1 ⟨m, h2⟩
  · rename_i T x f hop
    (try simp only at hop); subst hop
    obtain ⟨v, h1, h2⟩ := field_sound (P := P) ht hb (G x) h
    exact OpRun.val rfl h1 ⟨m, h2⟩
  · rename_i T x f hop
    (try simp only at hop); subst hop
    obtain ⟨v, h1, h2⟩ := fieldAddr_sound (P := P) ht hb (G x) h
    exact OpRun.val rfl h1 ⟨m, h2⟩
  · rename_i T x i hop
    (try simp only at hop); subst hop
    obtain ⟨v, h1, h2⟩ := idxAddr_sound (P := P) ht hb (G x) (G i) h hc
    exact OpRun.val rfl h1 ⟨m, h2⟩
  · rename_i T x i hop
    (try simp only at hop); subst hop
    obtain ⟨v, h1, h2⟩ := idx_sound (P := P) ht hb (G x) (G i) h hc
    exact OpRun.val rfl h1 ⟨m, h2⟩
  · rename_i x i hop
    (try simp only at hop); subst hop
    have hx := G x
    split at h
    · rename_i l hq
      split at h
      · rename_i hlt
        have := Look.run_pure1 h; subst this
        rw [hq] at hx
        simp only [RV] at hx
        obtain ⟨vs, h1, h2⟩ := hx
        have hget : ∀ (l : List AV) (vs : List Value) (i : Nat), RVs m w l vs → i < llen l → ∃ v, vs[i]? = some v ∧ RV m w (lget l i) v := by
          intro l
          induction l with
          | nil => intro vs i _ hi; simp [llen] at hi
          | cons b r ih =>
            intro vs i hv hi
            simp only [RVs] at hv
            obtain ⟨v, q, rfl, g1, g2⟩ := hv
            cases i with
            | zero => exact ⟨v, rfl, g1⟩
            | succ i => simpa [lget] using ih q i g2 (by simpa [llen] using hi)
        obtain ⟨v, g1, g2⟩ := hget l vs i h2 (by simp [Nat.blt] at hlt; omega)
        refine OpRun.val (v := v) (w' := w) rfl ?_ ⟨m, hb.same g2⟩
        simp [Instr.extract, h1, g1]
      · exact (Look.run_no h).elim
    · exact (Look.run_no h).elim
  · rename_i b args tys hop
    (try simp only at hop); subst hop
    obtain ⟨v, m', w', h1, h2⟩ := bltin_sound (P := P) (ty := type) (consts := args.map isCst) ht hb (gets_sound hsl args.toList) h hc
    have key : execOp a.eval { dst := dst, op := Op.call { callee := .builtin b, args := args, argTypes := tys }, type := type, pos := pos, after := after, guard := guard } = builtin b tys type (args.map isCst) (args.map a.eval) := rfl
    have e1 : (args.toList.map a.eval).toArray = args.map a.eval := by rw [← Array.toList_map, Array.toArray_toList]
    rw [e1] at h1
    unfold OpRun
    rw [key, h1]
    exact ⟨m', h2⟩
  · rename_i f args tys hop
    (try simp only at hop); subst hop
    split at h
    · rename_i s hsp
      obtain ⟨hr, hok⟩ := hs.look hsp
      have hcall := hok m w me kb _ _ e hgi hb (gets_sound hsl args.toList) h hc
      have e1 : (args.toList.map a.eval).toArray = args.map a.eval := by rw [← Array.toList_map, Array.toArray_toList]
      rw [e1] at hcall
      have key : execOp a.eval { dst := dst, op := Op.call { callee := .value (.func f), args := args, argTypes := tys }, type := type, pos := pos, after := after, guard := guard } = callFunc f ((#[] ++ args.map a.eval) ++ #[]) := rfl
      unfold OpRun
      rw [key, callFunc_run hr, Array.append_empty, Array.empty_append]
      exact hcall
    · exact (Look.run_no h).elim
  · exact (Look.run_no h).elim
end
end Go.Vc
set_option linter.unusedVariables false
set_option linter.unusedSimpArgs false
namespace Go.Vc
open Go Go.RowKit

/-- the world against the one in which the call began: W: the blocks that may be written -/
structure Env where
  w0 : World
  W : List Nat
  ok : Nat → Prop
  keep : Option (Hd × World)
  pin : List (Nat × Value)
  pb : Nat → Prop
structure Fr (E : Env) (m : Hd) (w : World) : Prop where
  os : w.os = E.w0.os
  tape : w.tape = E.w0.tape
  output : w.output = E.w0.output
  size : E.w0.heap.size ≤ w.heap.size
  ok : m.ok = E.ok
  block : ∀ b, b < E.w0.heap.size → b ∉ E.W → w.heap[b]? = E.w0.heap[b]?
  own : ∀ k v b, m k = some v → blk v = some b → E.w0.heap.size ≤ b ∨ b ∈ E.W
  keep : ∀ m0 w1, E.keep = some (m0, w1) → Pres m0 w1 m w
  pin : ∀ j v, (j, v) ∈ E.pin → m j = some v
  pub : ∀ b, m.pub b → b < E.w0.heap.size → b ∉ E.W → E.pb b
  pubm : ∀ b, E.pb b → m.pub b
theorem Fr.step {E : Env} {m m' : Hd} {w w' : World} (h : Fr E m w) (t : Tr m w m' w') : Fr E m' w' := by
  refine ⟨t.os.trans h.os, t.tape.trans h.tape, t.output.trans h.output, Nat.le_trans h.size t.size, t.ok.trans h.ok, fun b hb hw => ?_, fun k v b hk hv => ?_, fun m0 w1 he => (h.keep m0 w1 he).trans t.pres, fun j v hj => t.mu j v (h.pin j v hj), fun b hb h1 h2 => ?_, fun b hb => t.pub b (h.pubm b hb)⟩
  · rw [t.old b (Nat.lt_of_lt_of_le hb h.size) (.inr fun k v hk hv => ?_), h.block b hb hw]
    rcases h.own k v b hk hv with h1 | h1
    · omega
    · exact hw h1
  · rcases t.own k v b hk hv with ⟨k0, v0, h1, h2⟩ | h1
    · exact h.own k0 v0 b h1 h2
    · exact .inl (Nat.le_trans h.size h1)
  · rcases t.pubn b hb with h3 | ⟨k, v, h3, h4⟩ | h3
    · exact h.pub b h3 h1 h2
    · rcases h.own k v b h3 h4 with h5 | h5
      · omega
      · exact absurd h5 h2
    · have := h.size; omega

/-- the call began where the packages' variables lay as they should, and may not write them -/
def GE (P : Program) (E : Env) : Prop := ∃ w0 : World, w0.ShapedOpen P ∧ ∀ g o, g < P.globals.size → w0.heap[g]? = some o → g < E.w0.heap.size ∧ g ∉ E.W ∧ E.ok g ∧ E.w0.heap[g]? = some o
theorem GE.inv {P : Program} {E : Env} {m : Hd} {w : World} (h : GE P E) (hf : Fr E m w) : GInv P m w := by
  obtain ⟨w0, hs, hg⟩ := h
  refine ⟨w0, hs, fun g o h1 h2 => ?_⟩
  obtain ⟨a, b, c, d⟩ := hg g o h1 h2
  refine ⟨⟨Nat.lt_of_lt_of_le a hf.size, by rw [hf.ok]; exact c, .inr fun k v hk hv => ?_⟩, by rw [hf.block g a b]; exact d⟩
  rcases hf.own k v g hk hv with h3 | h3
  · omega
  · exact b h3
theorem GInv.ge {P : Program} {m : Hd} {w : World} (h : GInv P m w) {E : Env} (e0 : E.w0 = w) (hok : ∀ b, Stable m w b → E.ok b) (hW : ∀ b, Stable m w b → b ∉ E.W) : GE P E := by
  obtain ⟨w0, hs, hg⟩ := h
  refine ⟨w0, hs, fun g o h1 h2 => ?_⟩
  obtain ⟨a, b⟩ := hg g o h1 h2
  rw [e0]
  exact ⟨a.1, hW g a, hok g a, b⟩

/-- memory's part of a state -/
structure StM (E : Env) (me : Mem) (nk : Nat) (m : Hd) (w : World) : Prop where
  mem : MemR m w me
  bd : Bd m w
  nk : ∀ k, nk ≤ k → m k = none
  fr : Fr E m w
/-- a call's contract, by what follows it -/
def KSpecOK (P : Program) (f : Nat) (ks : KSpec) : Prop :=
  ∀ (E : Env) (s : AS) (m : Hd) (w : World) (args : List AV) (vals : List Value) (K : AV → AS → Prop), GE P E → StM E s.me s.nk m w → RVs m w args vals → ks args s K →
    Calls P f vals.toArray w fun en w' => ∃ v, en = .returned v ∧ ∃ av s' m', K av s' ∧ RV m' w' av v ∧ StM E s'.me s'.nk m' w' ∧ Pres m w m' w'
def KSpecsOK (P : Program) (kss : List (Nat × KSpec)) : Prop := ∀ p ∈ kss, Ready P p.1 ∧ KSpecOK P p.1 p.2
theorem KSpecsOK.look {P : Program} {kss : List (Nat × KSpec)} (h : KSpecsOK P kss) {f : Nat} {s : KSpec} (hl : klook kss f = some s) : Ready P f ∧ KSpecOK P f s := by
  induction kss with
  | nil => simp [klook] at hl
  | cons a r ih =>
    obtain ⟨k, t⟩ := a
    simp only [klook] at hl
    split at hl
    · rename_i e
      have := Nat.eq_of_beq_eq_true e
      subst this; cases hl
      exact h (k, s) (by simp)
    · exact ih (fun p hp => h p (by simp [hp])) hl
structure XOK (P : Program) (x : Cx) : Prop where
  tt : TTok P x.tt
  sp : SpecsOK P x.sp
  ks : KSpecsOK P x.ks

structure StR (E : Env) (nt : Nat) (s : AS) (m : Hd) (a : Act) (w : World) : Prop where
  sl : SlR m w s.sl a
  mem : MemR m w s.me
  bd : Bd m w
  nk : ∀ k, s.nk ≤ k → m k = none
  tm : a.tmps.size = nt
  df : a.defers = []
  fr : Fr E m w

section
variable {P : Program} {E : Env} {x : Cx} {s : AS} {m : Hd} {a : Act} {w : World}

theorem SlR.put {sl : List (Nat × AV)} (h : SlR m w sl a) {d : Nat} {av : AV} {v : Value} (hd : d < a.tmps.size) (hv : RV m w av v) : SlR m w ((d, av) :: sl) (a.put (some d) v) := by
  intro t
  simp only [sget, Act.put]
  split
  · rename_i e
    have := beq_nat e; subst this
    simp [hd, hv]
  · rename_i e
    have hne : d ≠ t := fun h => by subst h; simp at e
    have := h t
    simpa [Array.getD_eq_getD_getElem?, Array.getElem?_setIfInBounds_ne hne] using this
theorem SlR.mono {m' : Hd} {w' : World} {sl : List (Nat × AV)} (h : SlR m w sl a) (hp : Pres m w m' w') : SlR m' w' sl a := fun t => RV_mono hp _ _ (h t)
theorem SlR.putU {sl : List (Nat × AV)} (h : SlR m w sl a) {d : Nat} : SlR m w ((d, .tup []) :: sl) (a.put (some d) undef) := by
  intro t
  simp only [sget, Act.put]
  split
  · rename_i e
    have := beq_nat e; subst this
    simp only [RV, RVs]
    refine ⟨[], ?_, rfl⟩
    by_cases hd : d < a.tmps.size
    · simp [hd, undef]
    · simp [Array.getElem?_eq_none (Nat.le_of_not_lt hd), undef]
  · rename_i e
    have hne : d ≠ t := fun h => by subst h; simp at e
    have := h t
    simpa [Array.getD_eq_getD_getElem?, Array.getElem?_setIfInBounds_ne hne] using this
theorem SlR.know {sl : List (Nat × AV)} (h : SlR m w sl a) {d : Nat} {av : AV} (hv : RV m w av (a.tmps.getD d undef)) : SlR m w ((d, av) :: sl) a := by
  intro t
  simp only [sget]
  split
  · rename_i e
    have := beq_nat e; subst this
    exact hv
  · exact h t

theorem StR.base (h : StR E x.nt s m a w) : Base m w s.me s.nk := ⟨h.mem, h.bd, fun k hk _ => h.nk k hk⟩
theorem put_size (a : Act) (d : Option Nat) (v : Value) : (a.put d v).tmps.size = a.tmps.size := by cases d <;> simp [Act.put]
theorem put_defers (a : Act) (d : Option Nat) (v : Value) : (a.put d v).defers = a.defers := by cases d <;> rfl
theorem StR.step (h : StR E x.nt s m a w) {dst : Option Nat} (hd : dstOk x.nt dst = true) {av : AV} {puts : Mem} {v : Value} {m' : Hd} {w' : World} (hk : OkE m w s.me s.nk av puts v m' w') :
    StR E x.nt (s.upd dst av puts) m' (a.put dst v) w' := by
  have hsl := h.sl.mono hk.tr.pres
  refine ⟨?_, ?_, hk.bd, fun k hk1 => ?_, ?_, ?_, h.fr.step hk.tr⟩
  · cases dst with
    | none => exact hsl
    | some d => exact hsl.put (by simp [dstOk, Nat.blt] at hd; rw [h.tm]; omega) hk.rv
  · cases dst <;> exact hk.mem
  · have hnk : (s.upd dst av puts).nk = s.nk + 8 := by cases dst <;> rfl
    cases hm : m' k with
    | none => rfl
    | some u =>
      exfalso
      rcases hk.keys k (by simp [hm]) with h1 | h1
      · exact h1 (h.nk k (by omega))
      · omega
  · rw [put_size]; exact h.tm
  · rw [put_defers]; exact h.df
theorem StR.skip (h : StR E x.nt s m a w) {dst : Option Nat} : StR E x.nt (s.putO dst (.tup [])) m (a.put dst undef) w := by
  refine ⟨?_, ?_, h.bd, ?_, ?_, ?_, h.fr⟩
  · cases dst with
    | none => exact h.sl
    | some d => exact h.sl.putU
  · cases dst <;> exact h.mem
  · cases dst <;> exact h.nk
  · rw [put_size]; exact h.tm
  · rw [put_defers]; exact h.df
theorem StR.know (h : StR E x.nt s m a w) {d : Nat} {av : AV} (hv : RV m w av (a.tmps.getD d undef)) : StR E x.nt (s.put d av) m a w :=
  ⟨h.sl.know hv, h.mem, h.bd, h.nk, h.tm, h.df, h.fr⟩

theorem nth_get {α : Type} : ∀ (l : List α) (i : Nat), nth l i = l[i]?
  | [], i => by simp [nth]
  | a :: r, 0 => rfl
  | a :: r, i + 1 => by simp [nth, nth_get r i]
theorem yielded_of {all : List Oper} {j dj : Nat} {oj : Oper} (h1 : nth all j = some oj) (h2 : oj.dst = some dj) : yielded all.toArray a.tmps j = (match a.tmps[dj]? with | some (.bool b) => some b | _ => none) := by
  rw [nth_get] at h1
  simp only [yielded, List.getElem?_toArray, h1, Option.bind_some, h2]
  rfl
theorem yielded_bool {all : List Oper} {j dj : Nat} {oj : Oper} (h1 : nth all j = some oj) (h2 : oj.dst = some dj) {b : Bool} (hv : a.tmps.getD dj undef = .bool b) : yielded all.toArray a.tmps j = some b := by
  rw [yielded_of h1 h2]
  rw [Array.getD_eq_getD_getElem?] at hv
  cases h : a.tmps[dj]? with
  | none => rw [h] at hv; simp [undef] at hv
  | some u => rw [h] at hv; simp at hv; subst hv; rfl
theorem yielded_undef {all : List Oper} {j dj : Nat} {oj : Oper} (h1 : nth all j = some oj) (h2 : oj.dst = some dj) (hv : a.tmps.getD dj undef = undef) : yielded all.toArray a.tmps j = none := by
  rw [yielded_of h1 h2]
  rw [Array.getD_eq_getD_getElem?] at hv
  cases h : a.tmps[dj]? with
  | none => rfl
  | some u => rw [h] at hv; simp at hv; subst hv; rfl

theorem StR.stM (h : StR E x.nt s m a w) : StM E s.me s.nk m w := ⟨h.mem, h.bd, h.nk, h.fr⟩
theorem StR.back (h : StR E x.nt s m a w) {dst : Option Nat} (hd : dstOk x.nt dst = true) {av : AV} {s' : AS} {v : Value} {m' : Hd} {w' : World} (hv : RV m' w' av v) (hs : StM E s'.me s'.nk m' w') (hp : Pres m w m' w') :
    StR E x.nt (s.ret dst av s') m' (a.put dst v) w' := by
  have hsl := h.sl.mono hp
  refine ⟨?_, ?_, hs.bd, ?_, ?_, ?_, hs.fr⟩
  · cases dst with
    | none => exact hsl
    | some d => exact hsl.put (by simp [dstOk, Nat.blt] at hd; rw [h.tm]; omega) hv
  · cases dst <;> exact hs.mem
  · cases dst <;> exact hs.nk
  · rw [put_size]; exact h.tm
  · rw [put_defers]; exact h.df

theorem kcall_run (hs : KSpecsOK P x.ks) (hE : GE P E) {o : Oper} {ks : KSpec} {args : List Operand} (hk : kcall x.ks o.op = some (ks, args)) (hr : StR E x.nt s m a w) {K : AV → AS → Prop} (h : ks (aop.gets real s.sl args) s K) :
    OpRun P a.eval o w fun v w' => ∃ av s' m', K av s' ∧ RV m' w' av v ∧ StM E s'.me s'.nk m' w' ∧ Pres m w m' w' := by
  obtain ⟨dst, op, type, pos, after, guard⟩ := o
  unfold kcall at hk
  split at hk
  · rename_i f args' tys hop
    simp only at hop; subst hop
    split at hk
    · rename_i k hl
      cases hk
      obtain ⟨hr1, hok⟩ := hs.look hl
      have hcall := hok E s m w _ _ K hE hr.stM (gets_sound hr.sl args'.toList) h
      have e1 : (args'.toList.map a.eval).toArray = args'.map a.eval := by rw [← Array.toList_map, Array.toArray_toList]
      rw [e1] at hcall
      have key : execOp a.eval { dst := dst, op := Op.call { callee := .value (.func f), args := args', argTypes := tys }, type := type, pos := pos, after := after, guard := guard } = callFunc f ((#[] ++ args'.map a.eval) ++ #[]) := rfl
      unfold OpRun
      rw [key, callFunc_run hr1, Array.append_empty, Array.empty_append]
      exact hcall
    · cases hk
  · cases hk

theorem acNil_of {c : AC} {e : Nat} (he : c.isE e = true) {cs : List Value} (h : RC m w c cs) (hl : cs.length = 0) : acNil c := by
  obtain ⟨h1, h2⟩ := isE_spec he
  have h3 := RC_len h1 h
  rw [hl] at h3
  have h4 : c.len real = 0 := by
    cases hq : c.len real with
    | zero => rfl
    | succ k =>
      rw [hq, Nat.succ_mul] at h3
      omega
  cases c <;> simp only [AC.len, real] at h4 <;> first
    | exact List.length_eq_zero_iff.1 h4
    | exact h4
    | (simp [AC.esz] at h1)
/-- comparing with nil -/
theorem run_eql_slice {T el : Nat} (w : World) (hT : P.underlying T = some (.slice el)) (ad : Option Addr) (n c : Nat) : (Op.equal T (.slice ad n c) (.slice none 0 0)).run P w = .ok ad.isNone w := by
  show (Op.equalIn (9999 + 1) T _ _).run P w = _
  unfold Op.equalIn
  simp only [Sem.run_bind, run_underlying hT, Result.andThen_ok]
  cases ad <;> rfl
theorem run_eql_ptr {T el : Nat} (w : World) (hT : P.underlying T = some (.pointer el)) (ad : Option Addr) : (Op.equal T (.pointer ad) (.pointer none)).run P w = .ok ad.isNone w := by
  show (Op.equalIn (9999 + 1) T _ _).run P w = _
  unfold Op.equalIn
  simp only [Sem.run_bind, run_underlying hT, Result.andThen_ok]
  cases ad <;> rfl
theorem nilB_RV (eq b : Bool) : RV m w (nilB real eq b) (.bool (if eq then b else !b)) := by cases eq <;> simp [nilB, RV, CR, real]
theorem knownB_RV (eq b : Bool) : RV m w (knownB eq b) (.bool (if eq then b else !b)) := by cases eq <;> cases b <;> simp [knownB, RV, CR]
def nilZ : Bool → Value
  | true => .slice none 0 0
  | false => .pointer none
theorem nilOp_run {o : Oper} {sl : Bool} {T : Nat} {eq : Bool} {y : Operand} (h : nilOp o.op = some (sl, T, eq, y)) (hv : (∃ ad n c, a.eval y = .slice ad n c) ∨ ∃ ad, a.eval y = .pointer ad)
    {b : Bool} (hb : (Op.equal T (a.eval y) (nilZ sl)).run P w = .ok b w) {Q : Value → World → Prop} (hQ : Q (.bool (if eq then b else !b)) w) : OpRun P a.eval o w Q := by
  obtain ⟨dst, op, type, pos, after, guard⟩ := o
  have hv1 : (∀ c, a.eval y ≠ .agg c) ∧ a.eval y ≠ .nilIface := by
    rcases hv with ⟨_, _, _, h1⟩ | ⟨_, h1⟩ <;> rw [h1] <;> exact ⟨fun c h => (by cases h), fun h => (by cases h)⟩
  have key : ((do eqGuard .eql T y (.const (nilZ sl)) (a.eval y) (nilZ sl); binOp .eql T (a.eval y) (nilZ sl) : Sem Value).run P w = .ok (.bool b) w) ∧ ((do eqGuard .neq T y (.const (nilZ sl)) (a.eval y) (nilZ sl); binOp .neq T (a.eval y) (nilZ sl) : Sem Value).run P w = .ok (.bool !b) w) := by
    rw [Sem.run_bind, nonagg_guard hv1.1 hv1.2, Sem.run_bind, nonagg_guard hv1.1 hv1.2]
    simp only [Result.andThen_ok]
    cases sl <;> simp only [nilZ] at hb ⊢ <;> rcases hv with ⟨ad, n, c, h1⟩ | ⟨ad, h1⟩ <;> rw [h1] at hb ⊢ <;> exact ⟨by simp [binOp, hb], by simp [binOp, hb]⟩
  unfold nilOp at h
  split at h <;> first | (cases h; done) | skip
  all_goals
    rename_i hop
    (try simp only at hop)
    subst hop
    cases h
    first
      | exact OpRun.val (v := .bool b) rfl key.1 (by simpa using hQ)
      | exact OpRun.val (v := .bool !b) rfl key.2 (by simpa using hQ)
theorem nilVc_sound (hx : XOK P x) (hr : StR E x.nt s m a w) {o : Oper} {sl : Bool} {T : Nat} {eq : Bool} {y : Operand} (h : nilOp o.op = some (sl, T, eq, y)) {K : AV → Prop} (hk : nilVc real x.tt sl T eq s.me (oget real s.sl y) K) :
    OpRun P a.eval o w fun v w' => ∃ av, K av ∧ OkE m w s.me s.nk av [] v m w' := by
  have hy := oget_sound hr.sl y
  have slc : ∀ el ad n c, P.underlying T = some (.slice el) → sl = true → a.eval y = .slice ad n c → ∀ av, K av → RV m w av (.bool (if eq then ad.isNone else !ad.isNone)) → OpRun P a.eval o w fun v w' => ∃ av, K av ∧ OkE m w s.me s.nk av [] v m w' := by
    intro el ad n c hT hs hv av hK hrv
    subst hs
    exact nilOp_run h (.inl ⟨ad, n, c, hv⟩) (by rw [hv]; exact run_eql_slice w hT ad n c) ⟨av, hK, hr.base.same hrv⟩
  have ptr : ∀ el ad, P.underlying T = some (.pointer el) → sl = false → a.eval y = .pointer ad → ∀ av, K av → RV m w av (.bool (if eq then ad.isNone else !ad.isNone)) → OpRun P a.eval o w fun v w' => ∃ av, K av ∧ OkE m w s.me s.nk av [] v m w' := by
    intro el ad hT hs hv av hK hrv
    subst hs
    exact nilOp_run h (.inr ⟨ad, hv⟩) (by rw [hv]; exact run_eql_ptr w hT ad) ⟨av, hK, hr.base.same hrv⟩
  unfold nilVc at hk
  split at hk
  · rename_i el _ _ _ _ hl
    have hT : P.underlying T = some (.slice el) := (hx.tt.look hl).k
    split at hk
    · exact hk.elim
    · split at hk
      · rename_i hq
        rw [hq] at hy
        simp only [RV, CR, List.cons.injEq, and_true] at hy
        exact slc el none 0 0 hT rfl hy _ hk (knownB_RV eq true)
      · rename_i hq
        rw [hq] at hy
        simp only [RV, CR, List.cons.injEq, and_true] at hy
        obtain ⟨ad, hy⟩ := hy
        exact slc el ad 0 0 hT rfl hy _ (hk ad.isNone) (nilB_RV eq _)
      · rename_i k g o' e i n hq
        rw [hq] at hy
        simp only [RV, CR, List.cons.injEq, and_true] at hy
        obtain ⟨v, ad, cap, _, hy, hn, hc, _⟩ := hy
        refine slc el ad n cap hT rfl hy _ (hk ad.isNone (fun hb => ?_)) (nilB_RV eq _)
        by_cases h0 : 0 < cap
        · obtain ⟨g', _, rfl⟩ := hc h0
          cases hb
        · omega
      · rename_i e c hq
        split at hk
        · rename_i hE
          rw [hq] at hy
          simp only [RV, CR, List.cons.injEq, and_true] at hy
          obtain ⟨ad, n, cap, ds, hy, h1, h2, h3, h4⟩ := hy
          refine slc el ad n cap hT rfl hy _ (hk ad.isNone (fun hb => ?_)) (nilB_RV eq _)
          by_cases h0 : 0 < n
          · obtain ⟨g', rfl, _⟩ := h4 h0
            cases hb
          · exact acNil_of hE h1 (by rw [h2, show n = 0 by omega]; simp)
        · exact hk.elim
      · rename_i k hq
        split at hk
        · rename_i T' e c hl2
          split at hk
          · rename_i hE
            rw [hq] at hy
            simp only [RV, CR, List.cons.injEq, and_true] at hy
            obtain ⟨v, hv, hy, _⟩ := hy
            obtain ⟨v', n, cs, h1, h2, h3⟩ := row_cells hr.mem hl2
            rw [hv] at h1; cases h1
            have hlen := h2.1
            rcases h2.2 with ⟨ad, rfl, _⟩ | ⟨g, o', cap, cur, fz, rfl, h5, h6, h7, h8, h9⟩
            · refine slc el ad 0 0 hT rfl hy _ (hk ad.isNone (fun hb => acNil_of hE h3 ?_)) (nilB_RV eq _)
              simp_all
            · exact slc el _ _ _ hT rfl hy _ (hk false (fun hb => by cases hb)) (nilB_RV eq _)
          · exact hk.elim
        · exact hk.elim
      · exact hk.elim
  · rename_i el _ _ _ _ hl
    have hT : P.underlying T = some (.pointer el) := (hx.tt.look hl).k
    split at hk
    · exact hk.elim
    · split at hk
      · rename_i hq
        rw [hq] at hy
        simp only [RV, CR, List.cons.injEq, and_true] at hy
        exact ptr el none hT rfl hy _ hk (knownB_RV eq true)
      · rename_i k g o' hq
        rw [hq] at hy
        simp only [RV, CR, List.cons.injEq, and_true] at hy
        obtain ⟨g', _, hy⟩ := hy
        exact ptr el _ hT rfl hy _ hk (knownB_RV eq false)
      · rename_i a' hq
        rw [hq] at hy
        simp only [RV, CR, List.cons.injEq, and_true] at hy
        obtain ⟨ad, ds, hy, _⟩ := hy
        exact ptr el _ hT rfl hy _ hk (knownB_RV eq false)
      · exact hk.elim
  · exact hk.elim
theorem opVc_sound (hx : XOK P x) (hE : GE P E) {o : Oper} {K : AS → Prop} (h : opVc real x o s K) (hr : StR E x.nt s m a w) {K' : Act → World → Prop} {Q : Exit → Act → World → Prop}
    (hK : ∀ s' m' a' w', StR E x.nt s' m' a' w' → K s' → K' a' w') : o.wp P a w K' Q := by
  unfold opVc at h
  split at h
  · rename_i hd
    split at h
    · rename_i ks args hks
      exact (kcall_run hx.ks hE hks hr h).wp fun v w' ⟨av, s', m', hk, hv, hm, hp⟩ => hK _ m' _ w' (hr.back hd hv hm hp) hk
    · split at h
      · rename_i sl T eq y hn
        exact (nilVc_sound hx hr hn h).wp fun v w' ⟨av, hk, ho⟩ => hK _ m _ w' (hr.step hd ho) hk
      · split at h
        · rename_i e he
          exact (aop_sound hx.tt hx.sp (hE.inv hr.fr) hr.base hr.sl he h.1).wp fun v w' ⟨m', hk⟩ => hK _ m' _ w' (hr.step hd hk) h.2
        · exact h.elim
  · exact h.elim

theorem opsVc_sound (hx : XOK P x) (hE : GE P E) (mu : Bool) (all : List Oper) {Q : Exit → Act → World → Prop} : ∀ (l : List Oper) (s : AS) (m : Hd) (a : Act) (w : World) (K : AS → Prop), opsVc real x mu all l s K → StR E x.nt s m a w →
    (∀ s' m' a' w', StR E x.nt s' m' a' w' → K s' → Q .normal a' w') → wpList P all.toArray Q l a w
  | [], s, m, a, w, K, h, hr, hK => hK s m a w hr h
  | o :: r, s, m, a, w, K, h, hr, hK => by
    have exec : ∀ s1, Region.wanted o (yielded all.toArray a.tmps) = true → opVc real x o s1 (fun s' => opsVc real x mu all r s' K) → StR E x.nt s1 m a w → wpList P all.toArray Q (o :: r) a w := by
      intro s1 hw h1 hr1
      unfold wpList
      rw [if_pos hw]
      exact .inl (opVc_sound hx hE h1 hr1 fun s' m' a' w' hr' h' => opsVc_sound hx hE mu all r s' m' a' w' K h' hr' hK)
    have skip : ∀ s1, Region.wanted o (yielded all.toArray a.tmps) = false → opsVc real x mu all r (s1.putO o.dst (.tup [])) K → StR E x.nt s1 m a w → wpList P all.toArray Q (o :: r) a w := by
      intro s1 hw h1 hr1
      unfold wpList
      rw [if_neg (by simp [hw])]
      exact opsVc_sound hx hE mu all r _ m _ w K h1 hr1.skip hK
    unfold opsVc at h
    split at h
    · rename_i hg
      exact exec s (by simp [Region.wanted, hg]) h hr
    · rename_i j want hg
      have hwant : ∀ b, yielded all.toArray a.tmps j = some b → Region.wanted o (yielded all.toArray a.tmps) = (b == want) := by
        intro b hb; simp [Region.wanted, hg, hb]
      have hwant0 : yielded all.toArray a.tmps j = none → Region.wanted o (yielded all.toArray a.tmps) = false := by
        intro hb; simp [Region.wanted, hg, hb]
      split at h
      · exact h.elim
      · rename_i oj hj
        split at h
        · exact h.elim
        · rename_i dj hdj
          have hsl := hr.sl dj
          split at h
          · rename_i hq
            rw [hq] at hsl
            simp only [RV, CR, List.cons.injEq, and_true] at hsl
            have hy := hwant _ (yielded_bool hj hdj hsl)
            cases want with
            | true => exact exec s (by rw [hy]; rfl) h hr
            | false => exact skip s (by rw [hy]; rfl) h hr
          · rename_i hq
            rw [hq] at hsl
            simp only [RV, CR, List.cons.injEq, and_true] at hsl
            have hy := hwant _ (yielded_bool hj hdj hsl)
            cases want with
            | false => exact exec s (by rw [hy]; rfl) h hr
            | true => exact skip s (by rw [hy]; rfl) h hr
          · rename_i y hq
            rw [hq] at hsl
            simp only [RV, CR, List.cons.injEq, and_true] at hsl
            have hy := hwant _ (yielded_bool hj hdj hsl)
            have hkn : ∀ b, y = b → StR E x.nt (s.put dj (.kb b)) m a w := fun b hb => hr.know (by simp only [RV, CR]; rw [hsl, hb])
            cases mu with
            | true =>
              obtain ⟨hyt, h⟩ := h
              have hyt : y = true := by simpa [real] using hyt
              subst hyt
              cases want with
              | true => exact exec _ (by rw [hy]; rfl) h (hkn true rfl)
              | false => exact skip _ (by rw [hy]; rfl) h (hkn true rfl)
            | false =>
            cases want with
            | true =>
              cases y with
              | true => exact exec _ (by rw [hy]; rfl) (h.1.resolve_left (fun e => by simp [real] at e)) (hkn true rfl)
              | false => exact skip _ (by rw [hy]; rfl) (h.2.resolve_left (fun e => by simp [real] at e)) (hkn false rfl)
            | false =>
              cases y with
              | false => exact exec _ (by rw [hy]; rfl) (h.1.resolve_left (fun e => by simp [real] at e)) (hkn false rfl)
              | true => exact skip _ (by rw [hy]; rfl) (h.2.resolve_left (fun e => by simp [real] at e)) (hkn true rfl)
          · rename_i hq
            rw [hq] at hsl
            simp only [RV, RVs] at hsl
            obtain ⟨vs, h1, rfl⟩ := hsl
            exact skip s (hwant0 (yielded_undef hj hdj h1)) h hr
          · exact h.elim
end
end Go.Vc
set_option linter.unusedVariables false
set_option linter.unusedSimpArgs false
namespace Go.Vc
open Go Go.RowKit

/-! ## Regions whose order is drawn -/
def isTmp : Operand → Option Nat
  | .tmp t => some t
  | _ => none
def tmpsOf : List Operand → List Nat
  | [] => []
  | x :: r => match isTmp x with
    | some t => t :: tmpsOf r
    | none => tmpsOf r
def Oper.reads (o : Oper) : List Nat := tmpsOf o.op.operands.toList
def rdSl (sl : List (Nat × AV)) : List Nat → List (Nat × AV)
  | [] => []
  | t :: r => (t, sget sl t) :: rdSl sl r
/-- no look into memory -/
def opPure (tt : TT) : Op → Bool
  | .move _ => true
  | .assign _ => true
  | .pick _ _ _ => true
  | .binOp _ _ _ _ _ => true
  | .unOp _ _ _ => true
  | .extract _ _ => true
  | .build _ _ => true
  | .nilCheck _ => true
  | .fieldAddr _ _ _ => true
  | .field _ _ _ => true
  | .indexAddr T _ _ => match tlook tt T with
    | some ⟨.arr _ _, _, _, _, _⟩ => true
    | _ => false
  | _ => false
/-- may change what was there -/
def isMut : Op → Bool
  | .store _ _ _ => true
  | .call { callee := .builtin .copy, .. } => true
  | .call { callee := .builtin .append, args := args, .. } => match args.toList with
    | .const _ :: _ => false
    | _ => true
  | _ => false
def inDrop (nk0 : Nat) (k : Nat) : List Nat → Bool
  | [] => false
  | j :: r => match Nat.ble (nk0 + 8 * j) k with
    | true => match Nat.blt k (nk0 + 8 * j + 8) with
      | true => true
      | false => inDrop nk0 k r
    | false => inDrop nk0 k r
def memDrop (nk0 : Nat) (ds : List Nat) : Mem → Mem
  | [] => []
  | (k, a) :: r => match inDrop nk0 k ds with
    | true => memDrop nk0 ds r
    | false => (k, a) :: memDrop nk0 ds r
def memBelow (nk : Nat) : Mem → Bool
  | [] => true
  | (k, _) :: r => match Nat.blt k nk with
    | true => memBelow nk r
    | false => false
/-- names of before the region, given away -/
def outOk (nk0 k : Nat) (ks : List Nat) : AB → Bool
  | .dead => match Nat.blt k nk0 with
    | true => lmem 4000 ks
    | false => false
  | _ => false
where
  lmem (k : Nat) : List Nat → Bool
    | [] => false
    | j :: r => match Nat.beq k j with
      | true => true
      | false => lmem k r
def putsOk (pu mu : Bool) (ks : List Nat) (nk0 nk : Nat) : Mem → Bool
  | [] => true
  | (k, a) :: r => match pu, mu, Nat.ble nk k, Nat.blt k (nk + 8), inDrop nk0 k ks with
    | false, true, _, true, _ => putsOk pu mu ks nk0 nk r
    | false, false, true, true, _ => putsOk pu mu ks nk0 nk r
    | false, false, false, true, true => putsOk pu mu ks nk0 nk r
    | false, false, false, true, false => match outOk nk0 k ks a with
      | true => putsOk pu mu ks nk0 nk r
      | false => false
    | _, _, _, _, _ => false
def dl : List (Nat × List Nat) → Nat → List Nat
  | [], _ => []
  | (k, a) :: r, t => match Nat.beq k t with
    | true => a
    | false => dl r t
/-- the names that an operation is not to look at; those that it may turn -/
abbrev Drops := List (Nat × List Nat) × List (Nat × List Nat)
def dlook (drs : Drops) (i : Nat) : List Nat := match drs with
  | (a, _) => dl a i
/-- of which operations of this region the names may be turned by this one -/
def kls (drs : Drops) (i : Nat) : List Nat := match drs with
  | (_, b) => dl b i
def isMutK (drs : Drops) (i : Nat) (op : Op) : Bool := match isMut op, kls drs i with
  | true, [] => true
  | _, _ => false
/-- without what was given away -/
def memLive (ds : List Nat) : Mem → Mem
  | [] => []
  | (k, a) :: r => match a with
    | .dead => memLive (k :: ds) r
    | a => match outOk.lmem k ds with
      | true => memLive ds r
      | false => (k, a) :: memLive ds r
def dMem (tt : TT) (drs : Drops) (nk0 i : Nat) (op : Op) (me : Mem) : Mem :=
  match opPure tt op with
  | true => []
  | false => match dlook drs i with
    | [] => me
    | ds => memLive [] (memDrop nk0 ds me)
def dRun (F : Fs) (x : Cx) (drs : Drops) (nk0 i : Nat) (o : Oper) (s : AS) : Option Eff :=
  (aop F x.tt x.sp (rdSl s.sl (Oper.reads o)) s.nk o.op).run (dMem x.tt drs nk0 i o.op s.me)
def AS.skipD (s : AS) (dst : Option Nat) : AS := ⟨(s.putO dst (.tup [])).sl, s.me, s.nk + 8⟩
def dOp (F : Fs) (x : Cx) (drs : Drops) (nk0 i : Nat) (o : Oper) (s : AS) (K : AS → Prop) : Prop :=
  match dstOk x.nt o.dst with
  | true => match dRun F x drs nk0 i o s with
    | some e => match putsOk (opPure x.tt o.op) (isMutK drs i o.op) (kls drs i) nk0 s.nk e.puts with
      | true => e.c ∧ K (s.upd o.dst e.v e.puts)
      | false => False
    | none => False
  | false => False
def drawVc (F : Fs) (x : Cx) (mu : Bool) (drs : Drops) (nk0 : Nat) (all : List Oper) : Nat → List Oper → AS → (AS → Prop) → Prop
  | _, [], s, K => K s
  | i, o :: r, s, K => match o.guard with
    | none => dOp F x drs nk0 i o s fun s' => drawVc F x mu drs nk0 all (Nat.succ i) r s' K
    | some (j, want) => match nth all j with
      | none => False
      | some oj => match oj.dst with
        | none => False
        | some dj => match sget s.sl dj with
          | .kb true => match want with
            | true => dOp F x drs nk0 i o s fun s' => drawVc F x mu drs nk0 all (Nat.succ i) r s' K
            | false => drawVc F x mu drs nk0 all (Nat.succ i) r (s.skipD o.dst) K
          | .kb false => match want with
            | false => dOp F x drs nk0 i o s fun s' => drawVc F x mu drs nk0 all (Nat.succ i) r s' K
            | true => drawVc F x mu drs nk0 all (Nat.succ i) r (s.skipD o.dst) K
          | .b y => match mu with
            | true => F.pB y true ∧ (match want with
              | true => dOp F x drs nk0 i o (s.put dj (.kb true)) fun s' => drawVc F x mu drs nk0 all (Nat.succ i) r s' K
              | false => drawVc F x mu drs nk0 all (Nat.succ i) r ((s.put dj (.kb true)).skipD o.dst) K)
            | false => match want with
            | true => (F.pB y false ∨ dOp F x drs nk0 i o (s.put dj (.kb true)) fun s' => drawVc F x mu drs nk0 all (Nat.succ i) r s' K) ∧
                (F.pB y true ∨ drawVc F x mu drs nk0 all (Nat.succ i) r ((s.put dj (.kb false)).skipD o.dst) K)
            | false => (F.pB y true ∨ dOp F x drs nk0 i o (s.put dj (.kb false)) fun s' => drawVc F x mu drs nk0 all (Nat.succ i) r s' K) ∧
                (F.pB y false ∨ drawVc F x mu drs nk0 all (Nat.succ i) r ((s.put dj (.kb true)).skipD o.dst) K)
          | .tup [] => drawVc F x mu drs nk0 all (Nat.succ i) r (s.skipD o.dst) K
          | _ => False

/-! ## What of a region can be seen without running it -/
def bmask (B : List Nat) (o : Oper) : Nat := o.after.toList.foldl (fun s e => if Region.binds .any e then s ||| 2 ^ e.on ||| B.getD e.on 0 else s) 0
def gslot (all : List Oper) (o : Oper) : List Nat := match o.guard with
  | none => []
  | some (j, _) => match all[j]? with
    | some oj => oj.dst.toList
    | none => []
def comp (B : List Nat) (i j : Nat) : Bool := (B.getD i 0).testBit j || (B.getD j 0).testBit i
/-- everything that hangs on the ways of ordering alone -/
def drawOk (tt : TT) (drs : Drops) (ops : List Oper) : Bool :=
  let B := (Region.before ops.toArray).toList
  decide (ops.length ≤ 4000) && (List.range ops.length).all fun i => match ops[i]? with
    | none => true
    | some o => (o.after.toList.all fun e => !Region.binds .any e || e.on < i) && (B.getD i 0 == bmask B o) &&
      (match o.guard with
        | none => true
        | some (j, _) => (B.getD i 0).testBit j) &&
      (List.range ops.length).all fun j => match ops[j]? with
        | none => true
        | some q => j == i || (
          (match q.dst with
            | none => true
            | some d => (!(Oper.reads o).contains d || comp B i j) && !(o.dst == some d)) &&
          (opPure tt o.op || !isMutK drs j q.op || comp B i j) &&
          (opPure tt o.op || opPure tt q.op || !(j < i) || (B.getD i 0).testBit j || (dlook drs i).contains j) &&
          (opPure tt o.op || opPure tt q.op || comp B i j || (kls drs j).all fun k => k == 4000 || (dlook drs i).contains k && !(i == k) && !(kls drs i).contains k) &&
          (!(kls drs j).contains 4000 || (!isMutK drs i o.op && (opPure tt o.op || opPure tt q.op || comp B i j || decide (j < i)))))
abbrev DrawT := List (Nat × Drops)
def drlook : DrawT → Nat → Drops
  | [], _ => ([], [])
  | (k, a) :: r, t => match Nat.beq k t with
    | true => a
    | false => drlook r t
def drawsOk (tt : TT) (dr : DrawT) : Code → Bool
  | .region id ops true => drawOk tt (drlook dr id) ops.toList
  | .seq a b => drawsOk tt dr a && drawsOk tt dr b
  | .block _ b => drawsOk tt dr b
  | .cond _ a b => drawsOk tt dr a && drawsOk tt dr b
  | .loop b => drawsOk tt dr b
  | _ => true

structure DStat (tt : TT) (drs : Drops) (ops : List Oper) (B : List Nat) : Prop where
  on : ∀ i o e, ops[i]? = some o → e ∈ o.after → Region.binds .any e = true → e.on < i
  msk : ∀ i o, ops[i]? = some o → B.getD i 0 = bmask B o
  gd : ∀ i o j b, ops[i]? = some o → o.guard = some (j, b) → (B.getD i 0).testBit j = true
  rd : ∀ (i : Nat) (o : Oper) (j : Nat) (q : Oper) (d : Nat), ops[i]? = some o → ops[j]? = some q → j ≠ i → q.dst = some d → d ∈ Oper.reads o → comp B i j = true
  ds : ∀ (i : Nat) (o : Oper) (j : Nat) (q : Oper) (d : Nat), ops[i]? = some o → ops[j]? = some q → j ≠ i → q.dst = some d → o.dst ≠ some d
  mt : ∀ i o j q, ops[i]? = some o → ops[j]? = some q → j ≠ i → opPure tt o.op = false → isMutK drs j q.op = true → comp B i j = true
  dr : ∀ i o j q, ops[i]? = some o → ops[j]? = some q → j < i → opPure tt o.op = false → opPure tt q.op = false → (B.getD i 0).testBit j = true ∨ j ∈ dlook drs i
  kl : ∀ i o j q k, ops[i]? = some o → ops[j]? = some q → j ≠ i → opPure tt o.op = false → opPure tt q.op = false → k ∈ kls drs j → comp B i j = true ∨ k = 4000 ∨ (k ∈ dlook drs i ∧ i ≠ k ∧ k ∉ kls drs i)
  len : ops.length ≤ 4000
  ko : ∀ i o j q, ops[i]? = some o → ops[j]? = some q → j ≠ i → 4000 ∈ kls drs j → isMutK drs i o.op = false ∧ (opPure tt o.op = false → opPure tt q.op = false → comp B i j = true ∨ j < i)
theorem drawOk_spec {tt : TT} {drs : Drops} {ops : List Oper} (h : drawOk tt drs ops = true) : DStat tt drs ops (Region.before ops.toArray).toList := by
  unfold drawOk at h
  rw [Bool.and_eq_true, decide_eq_true_eq] at h
  obtain ⟨hlen, h⟩ := h
  simp only [List.all_eq_true, List.mem_range] at h
  have key : ∀ i o, ops[i]? = some o → i < ops.length := fun i o h => (List.getElem?_eq_some_iff.1 h).1
  have h1 : ∀ i o, ops[i]? = some o → _ := fun i o ho => by have := h i (key i o ho); rw [ho] at this; exact this
  refine ⟨fun i o e ho he hb => ?_, fun i o ho => ?_, fun i o j b ho hg => ?_, fun i o j q d ho hq hne hd hr => ?_, fun i o j q d ho hq hne hd hr => ?_, fun i o j q ho hq hne hp hm => ?_, fun i o j q ho hq hlt hp hpq => ?_, fun i o j q k ho hq hne hp hpq hk => ?_, hlen, fun i o j q ho hq hne hk => ?_⟩
  · have := h1 i o ho
    simp only [Bool.and_eq_true, List.all_eq_true] at this
    have := this.1.1.1 e (by simpa using he)
    simpa [hb] using this
  · have := h1 i o ho
    simp only [Bool.and_eq_true, List.all_eq_true] at this
    simpa using this.1.1.2
  · have := h1 i o ho
    simp only [Bool.and_eq_true, List.all_eq_true, hg] at this
    exact this.1.2
  all_goals
    have := h1 i o ho
    simp only [Bool.and_eq_true, List.all_eq_true] at this
    have := this.2 j (by rw [List.mem_range]; exact key j q hq)
    rw [hq] at this
    simp only [Bool.or_eq_true, beq_iff_eq, Bool.and_eq_true] at this
  · have := ((this.resolve_left hne).1.1.1.1)
    rw [hd] at this
    simp only [Bool.and_eq_true, Bool.or_eq_true, Bool.not_eq_true', List.contains_eq_mem, decide_eq_false_iff_not] at this
    exact this.1.resolve_left (fun h => h hr)
  · have := ((this.resolve_left hne).1.1.1.1)
    rw [hd] at this
    simp only [Bool.and_eq_true, Bool.or_eq_true, Bool.not_eq_true', beq_eq_false_iff_ne] at this
    exact this.2 hr
  · have := ((this.resolve_left hne).1.1.1.2)
    simpa [hp, hm] using this
  · have := ((this.resolve_left (by omega)).1.1.2)
    simpa [hp, hpq, hlt] using this
  · have := ((this.resolve_left hne).1.2)
    simp only [hp, hpq, Bool.false_eq_true, false_or, Bool.or_eq_true, beq_iff_eq, List.all_eq_true, Bool.and_eq_true, List.contains_eq_mem, decide_eq_true_eq, Bool.not_eq_true', beq_eq_false_iff_ne, decide_eq_false_iff_not] at this
    rcases this with h | h
    · exact .inl h
    · rcases h k hk with h | h
      · exact .inr (.inl h)
      · exact .inr (.inr ⟨h.1.1, h.1.2, h.2⟩)
  · have := ((this.resolve_left hne).2)
    simp only [List.contains_eq_mem, decide_eq_true hk, Bool.not_true, Bool.false_eq_true, false_or, Bool.and_eq_true, Bool.not_eq_true', Bool.or_eq_true, decide_eq_true_eq] at this
    refine ⟨this.1, fun hp hpq => ?_⟩
    rcases this.2 with ((h | h) | h) | h
    · rw [hp] at h; cases h
    · rw [hpq] at h; cases h
    · exact .inl h
    · exact .inr h
end Go.Vc
set_option linter.unusedVariables false
set_option linter.unusedSimpArgs false
namespace Go.Vc
open Go Go.RowKit

/-! ## What the text's order gives -/
inductive Gd (ops : List Oper) (o : Oper) (s : AS) : AS → Bool → Prop
  | no : o.guard = none → Gd ops o s s true
  | kb (j : Nat) (want : Bool) (oj : Oper) (dj : Nat) (y : Bool) : o.guard = some (j, want) → ops[j]? = some oj → oj.dst = some dj → sget s.sl dj = .kb y → Gd ops o s s (y == want)
  | b (j : Nat) (want : Bool) (oj : Oper) (dj : Nat) (y : Bool) : o.guard = some (j, want) → ops[j]? = some oj → oj.dst = some dj → sget s.sl dj = .b y → Gd ops o s (s.put dj (.kb y)) (y == want)
  | un (j : Nat) (want : Bool) (oj : Oper) (dj : Nat) : o.guard = some (j, want) → ops[j]? = some oj → oj.dst = some dj → sget s.sl dj = .tup [] → Gd ops o s s false
def StepOK (x : Cx) (drs : Drops) (nk0 : Nat) (ops : List Oper) (i : Nat) (o : Oper) (s : AS) (r : Option Eff) (s2 : AS) : Prop :=
  ∃ s' b, Gd ops o s s' b ∧ match r with
    | some e => b = true ∧ dstOk x.nt o.dst = true ∧ dRun real x drs nk0 i o s' = some e ∧ e.c ∧ putsOk (opPure x.tt o.op) (isMutK drs i o.op) (kls drs i) nk0 s'.nk e.puts = true ∧ s2 = s'.upd o.dst e.v e.puts
    | none => b = false ∧ s2 = s'.skipD o.dst
theorem dOp_spec {x : Cx} {drs : Drops} {nk0 i : Nat} {o : Oper} {s : AS} {K : AS → Prop} (h : dOp real x drs nk0 i o s K) :
    ∃ e, dstOk x.nt o.dst = true ∧ dRun real x drs nk0 i o s = some e ∧ e.c ∧ putsOk (opPure x.tt o.op) (isMutK drs i o.op) (kls drs i) nk0 s.nk e.puts = true ∧ K (s.upd o.dst e.v e.puts) := by
  unfold dOp at h
  split at h
  · rename_i hd
    split at h
    · rename_i e he
      split at h
      · rename_i hp
        exact ⟨e, hd, he, h.1, hp, h.2⟩
      · exact h.elim
    · exact h.elim
  · exact h.elim
def HasTr (x : Cx) (drs : Drops) (nk0 : Nat) (ops l : List Oper) (i : Nat) (s : AS) (K : AS → Prop) : Prop :=
  ∃ (st : Nat → AS) (res : Nat → Option Eff), st i = s ∧ (∀ n o, l[n]? = some o → StepOK x drs nk0 ops (i + n) o (st (i + n)) (res (i + n)) (st (i + n + 1))) ∧ K (st (i + l.length))
theorem drawVc_trace {x : Cx} {mu : Bool} {drs : Drops} {nk0 : Nat} {ops : List Oper} : ∀ (l : List Oper) (i : Nat) (s : AS) (K : AS → Prop), drawVc real x mu drs nk0 ops i l s K → HasTr x drs nk0 ops l i s K
  | [], i, s, K, h => ⟨fun _ => s, fun _ => none, rfl, fun n o hn => by simp at hn, h⟩
  | o :: r, i, s, K, h => by
    have fin : ∀ s2 r0, StepOK x drs nk0 ops i o s r0 s2 → drawVc real x mu drs nk0 ops (i + 1) r s2 K → HasTr x drs nk0 ops (o :: r) i s K := by
      intro s2 r0 hs hd
      obtain ⟨st, res, h1, h2, h3⟩ := drawVc_trace r (i + 1) s2 K hd
      refine ⟨fun n => if n ≤ i then s else st n, fun n => if n ≤ i then r0 else res n, by simp, fun n q hn => ?_, ?_⟩
      · cases n with
        | zero =>
          simp only [List.getElem?_cons_zero, Option.some.injEq] at hn
          subst hn
          have e1 : ¬ (i + 0 + 1 ≤ i) := by omega
          simp only [Nat.add_zero, Nat.le_refl, if_true, if_neg e1]
          rw [h1]; exact hs
        | succ n =>
          have := h2 n q (by simpa using hn)
          have e0 : i + (n + 1) = i + 1 + n := by omega
          simp only [e0]
          rw [if_neg (by omega), if_neg (by omega), if_neg (by omega)]
          exact this
      · have e0 : i + (o :: r).length = i + 1 + r.length := by simp; omega
        rw [e0]
        show K (if _ then _ else _)
        rw [if_neg (by omega)]
        exact h3
    have exec : ∀ s1, Gd ops o s s1 true → dOp real x drs nk0 i o s1 (fun s' => drawVc real x mu drs nk0 ops (i + 1) r s' K) → HasTr x drs nk0 ops (o :: r) i s K := fun s1 hg h1 => by
      obtain ⟨e, g1, g2, g3, g4, g5⟩ := dOp_spec h1
      exact fin _ (some e) ⟨s1, true, hg, rfl, g1, g2, g3, g4, rfl⟩ g5
    have skip : ∀ s1, Gd ops o s s1 false → drawVc real x mu drs nk0 ops (i + 1) r (s1.skipD o.dst) K → HasTr x drs nk0 ops (o :: r) i s K := fun s1 hg h1 =>
      fin _ none ⟨s1, false, hg, rfl, rfl⟩ h1
    unfold drawVc at h
    split at h
    · rename_i hg
      exact exec s (.no hg) h
    · rename_i j want hg
      split at h
      · exact h.elim
      · rename_i oj hj
        rw [nth_get] at hj
        split at h
        · exact h.elim
        · rename_i dj hdj
          split at h
          · rename_i hq
            have := Gd.kb (s := s) j want oj dj true hg hj hdj hq
            cases want with
            | true => exact exec s this h
            | false => exact skip s this h
          · rename_i hq
            have := Gd.kb (s := s) j want oj dj false hg hj hdj hq
            cases want with
            | true => exact skip s this h
            | false => exact exec s this h
          · rename_i y hq
            have := Gd.b (s := s) j want oj dj y hg hj hdj hq
            cases mu with
            | true =>
              obtain ⟨hyt, h⟩ := h
              have hyt : y = true := by simpa [real] using hyt
              subst hyt
              cases want with
              | true => exact exec _ this h
              | false => exact skip _ this h
            | false =>
            cases want with
            | true =>
              cases y with
              | true => exact exec _ this (h.1.resolve_left (fun e => by simp [real] at e))
              | false => exact skip _ this (h.2.resolve_left (fun e => by simp [real] at e))
            | false =>
              cases y with
              | false => exact exec _ this (h.1.resolve_left (fun e => by simp [real] at e))
              | true => exact skip _ this (h.2.resolve_left (fun e => by simp [real] at e))
          · rename_i hq
            exact skip s (.un j want oj dj hg hj hdj hq) h
          · exact h.elim

/-! ## Memory, by who has written -/
def look (res : Nat → Option Eff) (me : Mem) (p : Nat → Bool) : Nat → Nat → Option AB
  | 0, k => mlook me k
  | i + 1, k => match p i, res i with
    | true, some e => match mlook e.puts k with
      | some ab => some ab
      | none => look res me p i k
    | _, _ => look res me p i k
theorem mlook_mputs : ∀ (p me : Mem) (k : Nat), mlook (mputs p me) k = match mlook p k with
    | some ab => some ab
    | none => mlook me k
  | [], me, k => rfl
  | (t, a) :: r, me, k => by
    simp only [mputs]
    rw [mlook_cons, mlook_cons]
    split
    · rfl
    · exact mlook_mputs r me k
theorem look_congr {res : Nat → Option Eff} {me : Mem} {p q : Nat → Bool} {k : Nat} : ∀ (n : Nat), (∀ i e, i < n → res i = some e → mlook e.puts k ≠ none → p i = q i) → look res me p n k = look res me q n k
  | 0, _ => rfl
  | n + 1, h => by
    have ih := look_congr (me := me) n (fun i e hi => h i e (by omega))
    simp only [look]
    cases hr : res n with
    | none => cases p n <;> cases q n <;> exact ih
    | some e =>
      cases hm : mlook e.puts k with
      | none => cases p n <;> cases q n <;> simp [hm, ih]
      | some ab =>
        rw [h n e (by omega) hr (by simp [hm])]
        cases q n
        · exact ih
        · simp [hm]
theorem look_up {res : Nat → Option Eff} {me : Mem} {p : Nat → Bool} {k i : Nat} : ∀ (n : Nat), i ≤ n → (∀ j, j < n → p j = true → j < i ∨ ∀ e, res j = some e → mlook e.puts k = none) → look res me p n k = look res me p i k
  | 0, hi, _ => by rw [show i = 0 by omega]
  | n + 1, hi, h => by
    by_cases e : i = n + 1
    · rw [e]
    · rw [← look_up n (by omega) (fun j hj => h j (by omega))]
      simp only [look]
      cases hp : p n with
      | false => rfl
      | true =>
        rcases h n (by omega) hp with h1 | h1
        · omega
        · cases hr : res n with
          | none => rfl
          | some e => simp [h1 e hr]
theorem look_src {res : Nat → Option Eff} {me : Mem} {p : Nat → Bool} {k : Nat} {ab : AB} : ∀ (n : Nat), look res me p n k = some ab → mlook me k = some ab ∨ ∃ j e, j < n ∧ p j = true ∧ res j = some e ∧ mlook e.puts k ≠ none
  | 0, h => .inl h
  | n + 1, h => by
    simp only [look] at h
    split at h
    · rename_i e hp hr
      split at h
      · rename_i ab' hm
        exact .inr ⟨n, e, by omega, hp, hr, by simp [hm]⟩
      · rcases look_src n h with h1 | ⟨j, e', h1, h2⟩
        · exact .inl h1
        · exact .inr ⟨j, e', by omega, h2⟩
    · rcases look_src n h with h1 | ⟨j, e', h1, h2⟩
      · exact .inl h1
      · exact .inr ⟨j, e', by omega, h2⟩
theorem outOk_spec {nk0 k : Nat} {ks : List Nat} {a : AB} (h : outOk nk0 k ks a = true) : k < nk0 ∧ a = .dead ∧ 4000 ∈ ks := by
  have hm : ∀ {l : List Nat}, outOk.lmem 4000 l = true → 4000 ∈ l := by
    intro l
    induction l with
    | nil => intro h; simp [outOk.lmem] at h
    | cons j r ih =>
      intro h
      simp only [outOk.lmem] at h
      split at h
      · rename_i e; rw [beq_nat e]; exact List.mem_cons_self
      · exact List.mem_cons_of_mem _ (ih h)
  unfold outOk at h
  split at h
  · split at h
    · rename_i h1
      simp [Nat.blt] at h1
      exact ⟨by omega, rfl, hm h⟩
    · cases h
  · cases h
theorem putsOk_spec {pu mu : Bool} {ks : List Nat} {nk0 nk : Nat} : ∀ {ps : Mem} {k : Nat}, putsOk pu mu ks nk0 nk ps = true → mlook ps k ≠ none → pu = false ∧ k < nk + 8 ∧ (mu = true ∨ nk ≤ k ∨ inDrop nk0 k ks = true ∨ (k < nk0 ∧ mlook ps k = some .dead ∧ 4000 ∈ ks))
  | [], k, h, hm => absurd rfl hm
  | (t, a) :: r, k, h, hm => by
    simp only [putsOk] at h
    by_cases e : t = k
    · subst e
      split at h
      · rename_i h1; simp [Nat.blt] at h1; exact ⟨rfl, by omega, .inl rfl⟩
      · rename_i h1 h2; simp [Nat.blt] at h2; exact ⟨rfl, by omega, .inr (.inl (Nat.le_of_ble_eq_true h1))⟩
      · rename_i h0 h1 h2; simp [Nat.blt] at h1; exact ⟨rfl, by omega, .inr (.inr (.inl h2))⟩
      · rename_i h0 h1 h2
        split at h
        · rename_i h3
          obtain ⟨g1, g2, g3⟩ := outOk_spec h3
          simp [Nat.blt] at h1
          exact ⟨rfl, by omega, .inr (.inr (.inr ⟨g1, by rw [mlook_cons, if_pos rfl, g2], g3⟩))⟩
        · cases h
      · cases h
    · rw [mlook_cons, if_neg e] at hm ⊢
      have h' : putsOk pu mu ks nk0 nk r = true := by
        split at h
        · exact h
        · exact h
        · exact h
        · split at h
          · exact h
          · cases h
        · cases h
      exact putsOk_spec h' hm
theorem inDrop_has {nk0 k : Nat} : ∀ {ds : List Nat}, inDrop nk0 k ds = true → ∃ j, j ∈ ds ∧ nk0 + 8 * j ≤ k ∧ k < nk0 + 8 * j + 8
  | [], h => by simp [inDrop] at h
  | d :: r, h => by
    simp only [inDrop] at h
    split at h
    · rename_i h1
      split at h
      · rename_i h2
        simp [Nat.blt] at h2
        exact ⟨d, List.mem_cons_self, Nat.le_of_ble_eq_true h1, by omega⟩
      · obtain ⟨j, h3, h4⟩ := inDrop_has h
        exact ⟨j, List.mem_cons_of_mem _ h3, h4⟩
    · obtain ⟨j, h3, h4⟩ := inDrop_has h
      exact ⟨j, List.mem_cons_of_mem _ h3, h4⟩
theorem memBelow_spec {nk : Nat} : ∀ {me : Mem} {k : Nat} {ab : AB}, memBelow nk me = true → mlook me k = some ab → k < nk
  | [], k, ab, h, hm => by simp [mlook] at hm
  | (t, a) :: r, k, ab, h, hm => by
    simp only [memBelow] at h
    rw [mlook_cons] at hm
    split at h
    · rename_i h1
      split at hm
      · rename_i e; subst e; simp [Nat.blt] at h1; omega
      · exact memBelow_spec h hm
    · cases h
theorem inDrop_spec {nk0 k : Nat} : ∀ {ds : List Nat} {j : Nat}, inDrop nk0 k ds = false → j ∈ ds → ¬ (nk0 + 8 * j ≤ k ∧ k < nk0 + 8 * j + 8)
  | [], j, h, hj => by simp at hj
  | d :: r, j, h, hj => by
    simp only [inDrop] at h
    have hr : inDrop nk0 k r = false ∧ ¬ (nk0 + 8 * d ≤ k ∧ k < nk0 + 8 * d + 8) := by
      split at h
      · split at h
        · cases h
        · rename_i h2
          refine ⟨h, fun ⟨_, h3⟩ => ?_⟩
          have : Nat.blt k (nk0 + 8 * d + 8) = true := by rw [Nat.blt]; exact Nat.ble_eq_true_of_le h3
          rw [this] at h2; simp at h2
      · rename_i h1
        refine ⟨h, fun ⟨h3, _⟩ => ?_⟩
        rw [Nat.ble_eq_true_of_le h3] at h1; simp at h1
    rcases List.mem_cons.1 hj with e | e
    · subst e; exact hr.2
    · exact inDrop_spec hr.1 e
theorem memDrop_spec {nk0 : Nat} {ds : List Nat} {k : Nat} {ab : AB} : ∀ {me : Mem}, mlook (memDrop nk0 ds me) k = some ab → inDrop nk0 k ds = false ∧ mlook me k = some ab
  | [], h => by simp [memDrop, mlook] at h
  | (t, a) :: r, h => by
    simp only [memDrop] at h
    rw [mlook_cons]
    split at h
    · rename_i h1
      obtain ⟨g1, g2⟩ := memDrop_spec h
      refine ⟨g1, ?_⟩
      rw [if_neg]
      · exact g2
      · intro e; subst e; rw [h1] at g1; cases g1
    · rename_i h1
      rw [mlook_cons] at h
      split at h
      · rename_i e; subst e; exact ⟨h1, by simpa using h⟩
      · rename_i e
        obtain ⟨g1, g2⟩ := memDrop_spec h
        exact ⟨g1, by rw [if_neg e]; exact g2⟩
theorem memLive_spec : ∀ {me : Mem} {ds : List Nat} {k : Nat} {ab : AB}, mlook (memLive ds me) k = some ab → k ∉ ds ∧ mlook me k = some ab ∧ ab ≠ .dead
  | [], ds, k, ab, h => by simp [memLive, mlook] at h
  | (t, a) :: r, ds, k, ab, h => by
    have hl : ∀ {l : List Nat} {x : Nat}, outOk.lmem x l = false → x ∉ l := by
      intro l x
      induction l with
      | nil => intro _; simp
      | cons j r ih =>
        intro h
        simp only [outOk.lmem] at h
        split at h
        · cases h
        · rename_i hb
          intro hm
          rcases List.mem_cons.1 hm with e | e
          · subst e; simp at hb
          · exact ih h e
    simp only [memLive] at h
    split at h
    · obtain ⟨g1, g2, g3⟩ := memLive_spec h
      have hne : ¬ t = k := fun e => g1 (by rw [e]; exact List.mem_cons_self)
      exact ⟨fun hm => g1 (List.mem_cons_of_mem _ hm), by rw [mlook_cons, if_neg hne]; exact g2, g3⟩
    · rename_i hnd
      split at h
      · rename_i hin
        obtain ⟨g1, g2, g3⟩ := memLive_spec h
        have hin' : t ∈ ds := by
          cases hq : outOk.lmem t ds with
          | false => rw [hq] at hin; cases hin
          | true =>
            clear hin g1 g2 g3 h
            induction ds with
            | nil => simp [outOk.lmem] at hq
            | cons j r ih =>
              simp only [outOk.lmem] at hq
              split at hq
              · rename_i e; rw [beq_nat e]; exact List.mem_cons_self
              · exact List.mem_cons_of_mem _ (ih hq)
        have hne : ¬ t = k := fun e => g1 (e ▸ hin')
        exact ⟨g1, by rw [mlook_cons, if_neg hne]; exact g2, g3⟩
      · rename_i hin
        rw [mlook_cons] at h
        split at h
        · rename_i e
          subst e
          cases h
          exact ⟨hl (by simpa using hin), by rw [mlook_cons, if_pos rfl], hnd⟩
        · rename_i e
          obtain ⟨g1, g2, g3⟩ := memLive_spec h
          exact ⟨g1, by rw [mlook_cons, if_neg e]; exact g2, g3⟩
theorem dMem_spec {tt : TT} {drs : Drops} {nk0 i : Nat} {op : Op} {me : Mem} {k : Nat} {ab : AB} (h : mlook (dMem tt drs nk0 i op me) k = some ab) :
    opPure tt op = false ∧ inDrop nk0 k (dlook drs i) = false ∧ mlook me k = some ab ∧ (dlook drs i ≠ [] → ab ≠ .dead) := by
  unfold dMem at h
  split at h
  · simp [mlook] at h
  · rename_i hp
    split at h
    · rename_i hd; rw [hd]; exact ⟨hp, rfl, h, fun h => absurd rfl h⟩
    · obtain ⟨_, g0, g3⟩ := memLive_spec h
      obtain ⟨g1, g2⟩ := memDrop_spec g0
      exact ⟨hp, g1, g2, fun _ => g3⟩
/-- what all who have written there gave away -/
theorem look_dead {res : Nat → Option Eff} {me : Mem} {p : Nat → Bool} {k : Nat} : ∀ (n : Nat), (∃ j e, j < n ∧ p j = true ∧ res j = some e ∧ mlook e.puts k ≠ none) → (∀ j e, j < n → p j = true → res j = some e → mlook e.puts k ≠ none → mlook e.puts k = some .dead) → look res me p n k = some .dead
  | 0, ⟨j, e, hj, _⟩, _ => by omega
  | n + 1, ⟨j, e, hj, hp, he, hk⟩, hall => by
    simp only [look]
    by_cases e1 : j = n
    · subst e1
      rw [hp, he]
      simp only [hall j e (by omega) hp he hk]
    · have ih := look_dead (me := me) n ⟨j, e, by omega, hp, he, hk⟩ (fun j e hj => hall j e (by omega))
      cases hpn : p n with
      | false => exact ih
      | true =>
        cases hr : res n with
        | none => exact ih
        | some e' =>
          cases hm : mlook e'.puts k with
          | none => simp only [hm]; exact ih
          | some ab =>
            have := hall n e' (by omega) hpn hr (by rw [hm]; simp)
            rw [hm] at this
            simp only [hm, this]
theorem run_mono {me me' : Mem} (h : ∀ k ab, mlook me k = some ab → mlook me' k = some ab) : ∀ (l : Look) (e : Eff), l.run me = some e → l.run me' = some e
  | .no, e, hr => by simp [Look.run] at hr
  | .ret _, e, hr => hr
  | .look k f, e, hr => by
    simp only [Look.run] at hr ⊢
    split at hr
    · rename_i ab hm
      rw [h k ab hm]
      exact run_mono h (f ab) e hr
    · cases hr

/-! ## The bits of what goes before -/
theorem fold_bit {B : List Nat} {j : Nat} : ∀ (l : List Edge) (s : Nat), ((l.foldl (fun s e => if Region.binds .any e then s ||| 2 ^ e.on ||| B.getD e.on 0 else s) s).testBit j = true) →
    s.testBit j = true ∨ ∃ e ∈ l, Region.binds .any e = true ∧ (e.on = j ∨ (B.getD e.on 0).testBit j = true)
  | [], s, h => .inl h
  | e :: l, s, h => by
    rw [List.foldl_cons] at h
    rcases fold_bit l _ h with h1 | ⟨q, h1, h2⟩
    · split at h1
      · rename_i hb
        rw [Nat.testBit_or, Nat.testBit_or, Nat.testBit_two_pow] at h1
        simp only [Bool.or_eq_true, decide_eq_true_eq] at h1
        rcases h1 with (h1 | h1) | h1
        · exact .inl h1
        · exact .inr ⟨e, by simp, hb, .inl h1⟩
        · exact .inr ⟨e, by simp, hb, .inr h1⟩
      · exact .inl h1
    · exact .inr ⟨q, by simp [h1], h2⟩
section
variable {tt : TT} {drs : Drops} {ops : List Oper} {B : List Nat}
theorem DStat.lt (h : DStat tt drs ops B) : ∀ (i : Nat) (o : Oper) (j : Nat), ops[i]? = some o → (B.getD i 0).testBit j = true → j < i := by
  intro i
  induction i using Nat.strongRecOn with
  | _ i ih =>
    intro o j ho hb
    rw [h.msk i o ho] at hb
    rcases fold_bit _ _ hb with h1 | ⟨e, he, hbd, h1⟩
    · simp at h1
    · have hlt := h.on i o e ho (by simpa using he) hbd
      rcases h1 with h1 | h1
      · omega
      · have := (List.getElem?_eq_some_iff.1 ho).1
        obtain ⟨o', ho'⟩ : ∃ o', ops[e.on]? = some o' := ⟨_, List.getElem?_eq_getElem (by omega)⟩
        have := ih e.on hlt o' j ho' h1
        omega
theorem DStat.listed (h : DStat tt drs ops B) {p : Nat → Bool} (hp : ∀ i o e, ops[i]? = some o → p i = true → e ∈ o.after → Region.binds .any e = true → p e.on = true) :
    ∀ (i : Nat) (o : Oper) (j : Nat), ops[i]? = some o → (∀ e, e ∈ o.after → Region.binds .any e = true → p e.on = true) → (B.getD i 0).testBit j = true → p j = true := by
  intro i
  induction i using Nat.strongRecOn with
  | _ i ih =>
    intro o j ho hall hb
    rw [h.msk i o ho] at hb
    rcases fold_bit _ _ hb with h1 | ⟨e, he, hbd, h1⟩
    · simp at h1
    · have he' : e ∈ o.after := by simpa using he
      have hlt := h.on i o e ho he' hbd
      rcases h1 with h1 | h1
      · rw [← h1]; exact hall e he' hbd
      · have := (List.getElem?_eq_some_iff.1 ho).1
        obtain ⟨o', ho'⟩ : ∃ o', ops[e.on]? = some o' := ⟨_, List.getElem?_eq_getElem (by omega)⟩
        exact ih e.on hlt o' j ho' (fun e2 he2 hb2 => hp e.on o' e2 ho' (hall e he' hbd) he2 hb2) h1
end
end Go.Vc
set_option linter.unusedVariables false
set_option linter.unusedSimpArgs false
namespace Go.Vc
open Go Go.RowKit
def RVeq (a b : AV) : Prop := ∀ (m : Hd) (w : World) (v : Value), RV m w a v ↔ RV m w b v
theorem RVeq.rfl' {a : AV} : RVeq a a := fun _ _ _ => Iff.rfl
theorem RVeq.trans {a b c : AV} (h : RVeq a b) (g : RVeq b c) : RVeq a c := fun m w v => (h m w v).trans (g m w v)
theorem RVeq.symm {a b : AV} (h : RVeq a b) : RVeq b a := fun m w v => (h m w v).symm
theorem sget_cons (d : Nat) (a : AV) (r : List (Nat × AV)) (t : Nat) : sget ((d, a) :: r) t = if d = t then a else sget r t := by
  simp only [sget]
  by_cases h : d = t
  · subst h; simp
  · rw [if_neg h]
    split
    · rename_i e; exact absurd (beq_nat e) h
    · rfl
section
variable {P : Program} {E : Env} {x : Cx} {drs : Drops} {ops : List Oper} {B : List Nat} {nk0 : Nat} {s0 : AS} {st : Nat → AS} {res : Nat → Option Eff} {m : Hd} {a : Act} {w : World}
theorem gd_slot {o : Oper} {s s' : AS} {b : Bool} (h : Gd ops o s s' b) (t : Nat) : RVeq (sget s.sl t) (sget s'.sl t) := by
  cases h with
  | no _ => exact .rfl'
  | kb => exact .rfl'
  | un => exact .rfl'
  | b j want oj dj y h1 h2 h3 h4 =>
    simp only [AS.put]
    rw [sget_cons]
    split
    · rename_i e; subst e
      rw [h4]; intro m w v; simp [RV, CR]
    · exact .rfl'
theorem gd_rest {o : Oper} {s s' : AS} {b : Bool} (h : Gd ops o s s' b) : s'.me = s.me ∧ s'.nk = s.nk := by
  cases h <;> exact ⟨rfl, rfl⟩
theorem step_slot {i : Nat} {o : Oper} {s s2 : AS} {r : Option Eff} (h : StepOK x drs nk0 ops i o s r s2) {t : Nat} (ht : o.dst ≠ some t) : RVeq (sget s.sl t) (sget s2.sl t) := by
  obtain ⟨s', b, hg, h⟩ := h
  refine (gd_slot hg t).trans ?_
  split at h
  · obtain ⟨_, _, _, _, _, rfl⟩ := h
    cases hd : o.dst with
    | none => exact .rfl'
    | some d =>
      simp only [AS.upd]
      rw [sget_cons, if_neg (fun e => ht (by rw [hd, e]))]
      exact .rfl'
  · obtain ⟨_, rfl⟩ := h
    cases hd : o.dst with
    | none => exact .rfl'
    | some d =>
      simp only [AS.skipD, AS.putO, AS.put]
      rw [sget_cons, if_neg (fun e => ht (by rw [hd, e]))]
      exact .rfl'
structure Trc (x : Cx) (drs : Drops) (nk0 : Nat) (ops : List Oper) (s0 : AS) (st : Nat → AS) (res : Nat → Option Eff) : Prop where
  h0 : st 0 = s0
  nk : s0.nk = nk0
  low : memBelow nk0 s0.me = true
  step : ∀ i o, ops[i]? = some o → StepOK x drs nk0 ops i o (st i) (res i) (st (i + 1))
theorem Trc.op (i : Nat) (h : i < ops.length) : ∃ o, ops[i]? = some o := ⟨_, List.getElem?_eq_getElem h⟩
theorem Trc.nks (h : Trc x drs nk0 ops s0 st res) : ∀ i, i ≤ ops.length → (st i).nk = nk0 + 8 * i
  | 0, _ => by rw [h.h0, h.nk]; rfl
  | i + 1, hi => by
    obtain ⟨o, ho⟩ := Trc.op (ops := ops) i (by omega)
    have ih := h.nks i (by omega)
    obtain ⟨s', b, hg, hs⟩ := h.step i o ho
    have := (gd_rest hg).2
    split at hs
    · obtain ⟨_, _, _, _, _, e⟩ := hs
      rw [e]
      cases o.dst <;> simp only [AS.upd] <;> omega
    · obtain ⟨_, e⟩ := hs
      rw [e]
      simp only [AS.skipD]
      omega
theorem Trc.mes (h : Trc x drs nk0 ops s0 st res) (k : Nat) : ∀ i, i ≤ ops.length → mlook (st i).me k = look res s0.me (fun _ => true) i k
  | 0, _ => by rw [h.h0]; rfl
  | i + 1, hi => by
    obtain ⟨o, ho⟩ := Trc.op (ops := ops) i (by omega)
    have ih := h.mes k i (by omega)
    obtain ⟨s', b, hg, hs⟩ := h.step i o ho
    have hme := (gd_rest hg).1
    simp only [look]
    split at hs
    · rename_i e he
      obtain ⟨_, _, _, _, _, e1⟩ := hs
      have : (st (i + 1)).me = mputs e.puts s'.me := by rw [e1]; cases o.dst <;> rfl
      rw [this, mlook_mputs, hme, ih]
      simp only [he]
    · rename_i he
      obtain ⟨_, e1⟩ := hs
      have : (st (i + 1)).me = s'.me := by rw [e1]; rfl
      rw [this, hme, ih]
      simp only [he]
theorem Trc.puts (h : Trc x drs nk0 ops s0 st res) {j : Nat} {q : Oper} {e : Eff} {k : Nat} (hq : ops[j]? = some q) (he : res j = some e) (hk : mlook e.puts k ≠ none) :
    opPure x.tt q.op = false ∧ k < nk0 + 8 * j + 8 ∧ (isMutK drs j q.op = true ∨ nk0 + 8 * j ≤ k ∨ inDrop nk0 k (kls drs j) = true ∨ (k < nk0 ∧ mlook e.puts k = some .dead ∧ 4000 ∈ kls drs j)) := by
  obtain ⟨s', b, hg, hs⟩ := h.step j q hq
  rw [he] at hs
  obtain ⟨_, _, _, _, hp, _⟩ := hs
  have := putsOk_spec hp hk
  rw [(gd_rest hg).2, h.nks j (by have := (List.getElem?_eq_some_iff.1 hq).1; omega)] at this
  exact this
theorem inDrop_lo {nk0 k : Nat} {ds : List Nat} (h : inDrop nk0 k ds = true) : nk0 ≤ k := by
  obtain ⟨j, _, h1, _⟩ := inDrop_has h
  omega
/-- a name of before that one gives away: all who write there give it away -/
theorem Trc.dead (h : Trc x drs nk0 ops s0 st res) (hd : DStat x.tt drs ops B) {i : Nat} {o : Oper} (ho : ops[i]? = some o) (hk4 : 4000 ∈ kls drs i) {k : Nat} (hk : k < nk0) {j : Nat} {q : Oper} {e : Eff} (hq : ops[j]? = some q) (he : res j = some e) (hp : mlook e.puts k ≠ none) : mlook e.puts k = some .dead := by
  obtain ⟨_, _, g⟩ := h.puts hq he hp
  have hm : isMutK drs j q.op = false := by
    by_cases e1 : j = i
    · subst e1
      unfold isMutK
      split
      · rename_i hn; rw [hn] at hk4; simp at hk4
      · rfl
    · exact (hd.ko j q i o hq ho (fun e => e1 e.symm) hk4).1
  rcases g with g | g | g | g
  · rw [hm] at g; cases g
  · omega
  · have := inDrop_lo g; omega
  · exact g.2.1
theorem Trc.fwd (h : Trc x drs nk0 ops s0 st res) {t : Nat} : ∀ i, i ≤ ops.length → (∀ j q, j < i → ops[j]? = some q → q.dst ≠ some t) → RVeq (sget s0.sl t) (sget (st i).sl t)
  | 0, _, _ => by rw [h.h0]; exact .rfl'
  | i + 1, hi, hd => by
    obtain ⟨o, ho⟩ := Trc.op (ops := ops) i (by omega)
    exact (h.fwd i (by omega) (fun j q hj => hd j q (by omega))).trans (step_slot (h.step i o ho) (hd i o (by omega) ho))
theorem Trc.keep (h : Trc x drs nk0 ops s0 st res) (hd : DStat x.tt drs ops B) {j t : Nat} {q : Oper} (hq : ops[j]? = some q) (ht : q.dst = some t) : ∀ (n i : Nat), i + n = ops.length → j < i → RVeq (sget (st i).sl t) (sget (st ops.length).sl t)
  | 0, i, hn, hj => by rw [show i = ops.length by omega]; exact .rfl'
  | n + 1, i, hn, hj => by
    obtain ⟨o, ho⟩ := Trc.op (ops := ops) i (by omega)
    exact (step_slot (h.step i o ho) (hd.ds i o j q t ho hq (by omega) ht)).trans (h.keep hd hq ht n (i + 1) (by omega) (by omega))

structure Inv (P : Program) (E : Env) (x : Cx) (nk0 : Nat) (ops : List Oper) (s0 : AS) (st : Nat → AS) (res : Nat → Option Eff) (p : Nat → Bool) (m : Hd) (a : Act) (w : World) : Prop where
  closed : ∀ i o e, ops[i]? = some o → p i = true → e ∈ o.after → Region.binds .any e = true → p e.on = true
  bd : Bd m w
  fr : Fr E m w
  tm : a.tmps.size = x.nt
  df : a.defers = []
  keys : ∀ k, m k ≠ none → k < nk0 ∨ ∃ i, p i = true ∧ nk0 + 8 * i ≤ k ∧ k < nk0 + 8 * i + 8
  old : ∀ t, (∀ j q, ops[j]? = some q → p j = true → q.dst ≠ some t) → RV m w (sget s0.sl t) (a.tmps.getD t undef)
  new : ∀ j q t, ops[j]? = some q → p j = true → q.dst = some t → RV m w (sget (st ops.length).sl t) (a.tmps.getD t undef)
  mem : ∃ me, MemR m w me ∧ ∀ k, mlook me k = look res s0.me p ops.length k

theorem gd_wanted {o : Oper} {s s' : AS} {b : Bool} (h : Gd ops o s s' b)
    (hsl : ∀ j want oj dj, o.guard = some (j, want) → ops[j]? = some oj → oj.dst = some dj → RV m w (sget s.sl dj) (a.tmps.getD dj undef)) : Region.wanted o (yielded ops.toArray a.tmps) = b := by
  cases h with
  | no hg => simp [Region.wanted, hg]
  | kb j want oj dj y hg hj hd hq =>
    have := hsl j want oj dj hg hj hd
    rw [hq] at this
    simp only [RV, CR, List.cons.injEq, and_true] at this
    have hy := yielded_bool (a := a) (by rw [nth_get]; exact hj) hd this
    simp [Region.wanted, hg, hy]
  | b j want oj dj y hg hj hd hq =>
    have := hsl j want oj dj hg hj hd
    rw [hq] at this
    simp only [RV, CR, List.cons.injEq, and_true] at this
    have hy := yielded_bool (a := a) (by rw [nth_get]; exact hj) hd this
    simp [Region.wanted, hg, hy]
  | un j want oj dj hg hj hd hq =>
    have := hsl j want oj dj hg hj hd
    rw [hq] at this
    simp only [RV, RVs] at this
    obtain ⟨vs, h1, rfl⟩ := this
    have hy := yielded_undef (a := a) (by rw [nth_get]; exact hj) hd h1
    simp [Region.wanted, hg, hy]
theorem rdSl_get (sl : List (Nat × AV)) : ∀ (l : List Nat) (t : Nat), sget (rdSl sl l) t = if t ∈ l then sget sl t else .u
  | [], t => by simp [rdSl, sget]
  | d :: r, t => by
    simp only [rdSl]
    rw [sget_cons, rdSl_get sl r t]
    by_cases e : d = t
    · subst e; simp
    · rw [if_neg e]
      have : (t ∈ d :: r) ↔ t ∈ r := by simp [show t ≠ d from fun h => e h.symm]
      simp only [this]
theorem put_ne (a : Act) {dst : Option Nat} {v : Value} {t : Nat} (h : dst ≠ some t) : (a.put dst v).tmps.getD t undef = a.tmps.getD t undef := by
  cases dst with
  | none => rfl
  | some d =>
    simp only [Act.put]
    have hne : d ≠ t := fun e => h (by rw [e])
    simp [Array.getD_eq_getD_getElem?, Array.getElem?_setIfInBounds_ne hne]

section
variable (ht : Trc x drs nk0 ops s0 st res) (hd : DStat x.tt drs ops B) {p : Nat → Bool} (hI : Inv P E x nk0 ops s0 st res p m a w) {i : Nat} {o : Oper} (ho : ops[i]? = some o) (hp : p i = false)
  (hr : ∀ e, e ∈ o.after → Region.binds .any e = true → p e.on = true)
include ht hd hI ho hp hr
/-- what a ready operation reads -/
theorem inv_slot {t : Nat} (hc : ∀ j q, ops[j]? = some q → j ≠ i → q.dst = some t → comp B i j = true) : RV m w (sget (st i).sl t) (a.tmps.getD t undef) := by
  have hlen := (List.getElem?_eq_some_iff.1 ho).1
  have D : ∀ j, (B.getD i 0).testBit j = true → p j = true := fun j h => hd.listed hI.closed i o j ho hr h
  by_cases hx : ∃ j q, ops[j]? = some q ∧ j < i ∧ q.dst = some t
  · obtain ⟨j, q, hq, hj, hqt⟩ := hx
    have hlj : p j = true := by
      have := hc j q hq (by omega) hqt
      simp only [comp, Bool.or_eq_true] at this
      rcases this with h1 | h1
      · exact D j h1
      · have := hd.lt j q i hq h1; omega
    exact ((ht.keep hd hq hqt (ops.length - i) i (by omega) hj) m w _).2 (hI.new j q t hq hlj hqt)
  · refine ((ht.fwd i (by omega) (fun j q hj hq e => hx ⟨j, q, hq, hj, e⟩)) m w _).1 (hI.old t fun j q hq hpj e => ?_)
    have hne : j ≠ i := fun e2 => by subst e2; rw [hp] at hpj; cases hpj
    have := hc j q hq hne e
    simp only [comp, Bool.or_eq_true] at this
    rcases this with h1 | h1
    · exact hx ⟨j, q, hq, hd.lt i o j ho h1, e⟩
    · have := hd.listed hI.closed j q i hq (fun e2 he2 hb2 => hI.closed j q e2 hq hpj he2 hb2) h1
      rw [hp] at this; cases this
theorem inv_mem {k : Nat} {ab : AB} (h : mlook (dMem x.tt drs nk0 i o.op (st i).me) k = some ab) : look res s0.me p ops.length k = some ab := by
  have hlen := (List.getElem?_eq_some_iff.1 ho).1
  have D : ∀ j, (B.getD i 0).testBit j = true → p j = true := fun j h => hd.listed hI.closed i o j ho hr h
  obtain ⟨h1, h2, h3, hnd⟩ := dMem_spec h
  rw [ht.mes k i (by omega)] at h3
  rw [look_up (i := i) ops.length (by omega) fun j hj hpj => ?_, look_congr (q := fun _ => true) i fun j e hj he hk => ?_, h3]
  · obtain ⟨q, hq⟩ := Trc.op (ops := ops) j (by omega)
    obtain ⟨g1, g2, g3⟩ := ht.puts hq he hk
    show p j = true
    rcases g3 with g3 | g3
    · have := hd.mt i o j q ho hq (by omega) h1 g3
      simp only [comp, Bool.or_eq_true] at this
      rcases this with h4 | h4
      · exact D j h4
      · have := hd.lt j q i hq h4; omega
    rcases g3 with g3 | g3 | g3
    · rcases hd.dr i o j q ho hq hj h1 g1 with h4 | h4
      · exact D j h4
      · exact absurd ⟨g3, g2⟩ (inDrop_spec h2 h4)
    · obtain ⟨j', hj', hk1, hk2⟩ := inDrop_has g3
      rcases hd.kl i o j q j' ho hq (by omega) h1 g1 hj' with h4 | h4 | ⟨h4, _⟩
      · simp only [comp, Bool.or_eq_true] at h4
        rcases h4 with h4 | h4
        · exact D j h4
        · have := hd.lt j q i hq h4; omega
      · have := hd.len; omega
      · exact absurd ⟨hk1, hk2⟩ (inDrop_spec h2 h4)
    · obtain ⟨hk0, _, hk4⟩ := g3
      rcases hd.dr i o j q ho hq hj h1 g1 with h4 | h4
      · exact D j h4
      · exfalso
        refine hnd (fun e => by rw [e] at h4; simp at h4) ?_
        have := look_dead (me := s0.me) (p := fun _ => true) i ⟨j, e, hj, rfl, he, hk⟩ (fun j' e' hj' _ he' hne => by
          obtain ⟨q', hq'⟩ := Trc.op (ops := ops) j' (by omega)
          exact ht.dead hd hq hk4 hk0 hq' he' hne)
        rw [h3] at this
        exact Option.some.inj this
  · by_cases hji : j < i
    · exact .inl hji
    · refine .inr fun e he => ?_
      cases hm : mlook e.puts k with
      | none => rfl
      | some ab' =>
        exfalso
        have hne : j ≠ i := fun e2 => by subst e2; rw [hp] at hpj; cases hpj
        obtain ⟨q, hq⟩ := Trc.op (ops := ops) j hj
        obtain ⟨g1, g2, g3⟩ := ht.puts hq he (by rw [hm]; simp)
        rcases g3 with g3 | g3
        · have := hd.mt i o j q ho hq hne h1 g3
          simp only [comp, Bool.or_eq_true] at this
          rcases this with h4 | h4
          · have := hd.lt i o j ho h4; omega
          · have := hd.listed hI.closed j q i hq (fun e2 he2 hb2 => hI.closed j q e2 hq hpj he2 hb2) h4
            rw [hp] at this; cases this
        rcases g3 with g3 | g3 | g3
        · rcases look_src i h3 with h4 | ⟨j', e', h4, _, h5, h6⟩
          · have := memBelow_spec ht.low h4
            omega
          · obtain ⟨q', hq'⟩ := Trc.op (ops := ops) j' (by omega)
            obtain ⟨_, g5, _⟩ := ht.puts hq' h5 h6
            omega
        · obtain ⟨j', hj', hk1, hk2⟩ := inDrop_has g3
          rcases hd.kl i o j q j' ho hq hne h1 g1 hj' with h4 | h4 | ⟨h4, _⟩
          · simp only [comp, Bool.or_eq_true] at h4
            rcases h4 with h4 | h4
            · have := hd.lt i o j ho h4; omega
            · have := hd.listed hI.closed j q i hq (fun e2 he2 hb2 => hI.closed j q e2 hq hpj he2 hb2) h4
              rw [hp] at this; cases this
          · have := hd.len; omega
          · exact absurd ⟨hk1, hk2⟩ (inDrop_spec h2 h4)
        · rcases (hd.ko i o j q ho hq hne g3.2.2).2 h1 g1 with h4 | h4
          · simp only [comp, Bool.or_eq_true] at h4
            rcases h4 with h4 | h4
            · have := hd.lt i o j ho h4; omega
            · have := hd.listed hI.closed j q i hq (fun e2 he2 hb2 => hI.closed j q e2 hq hpj he2 hb2) h4
              rw [hp] at this; cases this
          · exact absurd h4 hji
omit hr in
theorem inv_top {e : Eff} {k : Nat} {ab : AB} (he : res i = some e) (hk : mlook e.puts k = some ab) : look res s0.me (fun j => decide (j = i) || p j) ops.length k = some ab := by
  have hlen := (List.getElem?_eq_some_iff.1 ho).1
  by_cases hout : k < nk0 ∧ 4000 ∈ kls drs i
  · obtain ⟨hk0, hk4⟩ := hout
    have hab := ht.dead hd ho hk4 hk0 ho he (by rw [hk]; simp)
    rw [hk] at hab
    rw [Option.some.inj hab]
    refine look_dead ops.length ⟨i, e, hlen, by simp, he, by rw [hk]; simp⟩ fun j e' hj _ he' hne => ?_
    obtain ⟨q, hq⟩ := Trc.op (ops := ops) j hj
    exact ht.dead hd ho hk4 hk0 hq he' hne
  rw [look_up (i := i + 1) ops.length (by omega) fun j hj hpj => ?_]
  · simp only [look, decide_true, Bool.true_or, he, hk]
  · by_cases hji : j < i + 1
    · exact .inl hji
    · refine .inr fun e' he' => ?_
      have hpj : p j = true := by simpa [show ¬ j = i by omega] using hpj
      cases hm : mlook e'.puts k with
      | none => rfl
      | some ab' =>
        exfalso
        obtain ⟨q, hq⟩ := Trc.op (ops := ops) j hj
        obtain ⟨g1, g2, g3⟩ := ht.puts hq he' (by rw [hm]; simp)
        obtain ⟨k1, k2, k3⟩ := ht.puts ho he (by rw [hk]; simp)
        have hcomp : comp B i j = true → False := fun this => by
          simp only [comp, Bool.or_eq_true] at this
          rcases this with h4 | h4
          · have := hd.lt i o j ho h4; omega
          · have := hd.listed hI.closed j q i hq (fun e2 he2 hb2 => hI.closed j q e2 hq hpj he2 hb2) h4
            rw [hp] at this; cases this
        rcases g3 with g3 | g3
        · exact hcomp (hd.mt i o j q ho hq (by omega) k1 g3)
        have k3 : isMutK drs i o.op = true ∨ nk0 + 8 * i ≤ k ∨ inDrop nk0 k (kls drs i) = true := by
          rcases k3 with k3 | k3 | k3 | k3
          · exact .inl k3
          · exact .inr (.inl k3)
          · exact .inr (.inr k3)
          · exact absurd ⟨k3.1, k3.2.2⟩ hout
        rcases g3 with g3 | g3 | g3
        · omega
        rotate_left
        · rcases k3 with k3 | k3 | k3
          · rw [(hd.ko i o j q ho hq (by omega) g3.2.2).1] at k3; cases k3
          · have := g3.1; omega
          · have := inDrop_lo k3; have := g3.1; omega
        · obtain ⟨j', hj', hk1, hk2⟩ := inDrop_has g3
          rcases hd.kl i o j q j' ho hq (by omega) k1 g1 hj' with h4 | h4 | ⟨h4, h5, h6⟩
          · exact hcomp h4
          · have := hd.len; omega
          · rcases k3 with k3 | k3
            · refine hcomp ?_
              have := hd.mt j q i o hq ho (by omega) g1 k3
              simpa [comp, Bool.or_comm] using this
            rcases k3 with k3 | k3
            · exact h5 (by omega)
            · obtain ⟨j2, hj2, hk3, hk4⟩ := inDrop_has k3
              have : j2 = j' := by omega
              subst this
              exact h6 hj2
end
end
end Go.Vc
set_option linter.unusedVariables false
set_option linter.unusedSimpArgs false
namespace Go.Vc
open Go Go.RowKit
section
variable {P : Program} {E : Env} {x : Cx} {drs : Drops} {ops : List Oper} {B : List Nat} {nk0 : Nat} {s0 : AS} {st : Nat → AS} {res : Nat → Option Eff} {m : Hd} {a : Act} {w : World}
theorem setp {listed : Array Bool} {i : Nat} (hi : i < listed.size) (j : Nat) : (listed.setIfInBounds i true).getD j false = (decide (j = i) || listed.getD j false) := by
  by_cases e : j = i
  · subst e; simp [Array.getD_eq_getD_getElem?, hi]
  · have : i ≠ j := fun h => e h.symm
    simp [Array.getD_eq_getD_getElem?, Array.getElem?_setIfInBounds_ne this, e]
/-- one operation that is ready -/
theorem draw_step (hx : XOK P x) (hE : GE P E) (ht : Trc x drs nk0 ops s0 st res) (hd : DStat x.tt drs ops B) {p : Nat → Bool} {Q : Exit → Act → World → Prop} (hI : Inv P E x nk0 ops s0 st res p m a w) {i : Nat} {o : Oper} (ho : ops[i]? = some o) (hp : p i = false)
    (hr : ∀ e, e ∈ o.after → Region.binds .any e = true → p e.on = true) :
    wpOp P ops.toArray Q i (fun a' w' => ∃ m', Inv P E x nk0 ops s0 st res (fun j => decide (j = i) || p j) m' a' w') a w := by
  have hlen := (List.getElem?_eq_some_iff.1 ho).1
  obtain ⟨s', b, hg, hs⟩ := ht.step i o ho
  have hsl : ∀ j want oj dj, o.guard = some (j, want) → ops[j]? = some oj → oj.dst = some dj → RV m w (sget (st i).sl dj) (a.tmps.getD dj undef) := by
    intro j want oj dj h1 h2 h3
    refine inv_slot ht hd hI ho hp hr fun j' q hq hne hqd => ?_
    have : j' = j := by
      by_cases e : j' = j
      · exact e
      · exact absurd h3 (hd.ds j oj j' q dj h2 hq e hqd)
    subst this
    unfold comp
    rw [hd.gd i o _ want ho h1]
    rfl
  have hw := gd_wanted hg hsl
  unfold wpOp
  simp only [List.getElem?_toArray, ho]
  rw [hw]
  have closed' : ∀ i' o' e, ops[i']? = some o' → (decide (i' = i) || p i') = true → e ∈ o'.after → Region.binds .any e = true → (decide (e.on = i) || p e.on) = true := by
    intro i' o' e h1 h2 h3 h4
    by_cases e1 : i' = i
    · subst e1
      rw [ho] at h1; cases h1
      simp [hr e h3 h4]
    · simp [hI.closed i' o' e h1 (by simpa [e1] using h2) h3 h4]
  split at hs
  · rename_i e he
    obtain ⟨rfl, hdst, hrun, hc, hpo, hst⟩ := hs
    rw [if_pos rfl]
    refine .inl ?_
    obtain ⟨me, hme, hml⟩ := hI.mem
    have hnk : s'.nk = nk0 + 8 * i := by rw [(gd_rest hg).2, ht.nks i (by omega)]
    have hbase : Base m w me s'.nk := by
      refine ⟨hme, hI.bd, fun k h1 h2 => ?_⟩
      cases hk : m k with
      | none => rfl
      | some v =>
        exfalso
        rcases hI.keys k (by rw [hk]; simp) with h3 | ⟨j, h3, h4, h5⟩
        · omega
        · have : j = i := by omega
          subst this; rw [hp] at h3; cases h3
    have hslr : SlR m w (rdSl s'.sl (Oper.reads o)) a := by
      intro t
      rw [rdSl_get]
      split
      · rename_i hmem
        exact ((gd_slot hg t) m w _).1 (inv_slot ht hd hI ho hp hr fun j q hq hne hqd => hd.rd i o j q t ho hq hne hqd hmem)
      · simp [RV]
    have hrun2 : (aop real x.tt x.sp (rdSl s'.sl (Oper.reads o)) s'.nk o.op).run me = some e := by
      refine run_mono (fun k ab hk => ?_) _ _ hrun
      rw [(gd_rest hg).1] at hk
      rw [hml]
      exact inv_mem ht hd hI ho hp hr hk
    refine (aop_sound hx.tt hx.sp (hE.inv hI.fr) hbase hslr hrun2 hc).wp fun v w' ⟨m', hk⟩ => ⟨m', ?_⟩
    have hpres := hk.tr.pres
    refine ⟨closed', hk.bd, hI.fr.step hk.tr, by rw [put_size]; exact hI.tm, by rw [put_defers]; exact hI.df, fun k hk1 => ?_, fun t htn => ?_, fun j q t hq hpj hqt => ?_, mputs e.puts me, hk.mem, fun k => ?_⟩
    · rcases hk.keys k hk1 with h1 | h1
      · rcases hI.keys k h1 with h2 | ⟨j, h2, h3⟩
        · exact .inl h2
        · exact .inr ⟨j, by simp [h2], h3⟩
      · exact .inr ⟨i, by simp, by omega, by omega⟩
    · have h1 : o.dst ≠ some t := htn i o ho (by simp)
      rw [put_ne a h1]
      exact RV_mono hpres _ _ (hI.old t fun j q hq hpj => htn j q hq (by simp [hpj]))
    · by_cases e1 : j = i
      · subst e1
        rw [ho] at hq; cases hq
        have h1 : ((a.put o.dst v).tmps.getD t undef) = v := by
          rw [hqt] at hdst ⊢
          simp only [dstOk, Nat.blt] at hdst
          have := Nat.le_of_ble_eq_true hdst
          have h2 : t < a.tmps.size := by rw [hI.tm]; omega
          simp [Act.put, h2]
        rw [h1]
        refine ((ht.keep hd ho hqt (ops.length - (j + 1)) (j + 1) (by omega) (by omega)) m' w' v).1 ?_
        rw [hst, hqt]
        simp only [AS.upd]
        rw [sget_cons, if_pos rfl]
        exact hk.rv
      · have h1 : o.dst ≠ some t := fun h => hd.ds i o j q t ho hq e1 hqt h
        rw [put_ne a h1]
        exact RV_mono hpres _ _ (hI.new j q t hq (by simpa [e1] using hpj) hqt)
    · rw [mlook_mputs]
      split
      · rename_i ab hab
        exact (inv_top ht hd hI ho hp he hab).symm
      · rename_i hab
        rw [hml]
        refine look_congr _ fun j e' hj he' hne => ?_
        have : j ≠ i := fun e1 => by
          subst e1
          rw [he] at he'; cases he'
          exact hne hab
        simp [this]
  · rename_i he
    obtain ⟨rfl, hst⟩ := hs
    rw [if_neg (by simp)]
    refine ⟨m, closed', hI.bd, hI.fr, by rw [put_size]; exact hI.tm, by rw [put_defers]; exact hI.df, fun k hk1 => ?_, fun t htn => ?_, fun j q t hq hpj hqt => ?_, ?_⟩
    · rcases hI.keys k hk1 with h2 | ⟨j, h2, h3⟩
      · exact .inl h2
      · exact .inr ⟨j, by simp [h2], h3⟩
    · have h1 : o.dst ≠ some t := htn i o ho (by simp)
      rw [put_ne a h1]
      exact hI.old t fun j q hq hpj => htn j q hq (by simp [hpj])
    · by_cases e1 : j = i
      · subst e1
        rw [ho] at hq; cases hq
        refine ((ht.keep hd ho hqt (ops.length - (j + 1)) (j + 1) (by omega) (by omega)) m w _).1 ?_
        have h0 : SlR m w [] a := fun t => by simp [sget, RV]
        have := h0.putU (d := t) t
        rw [hst, hqt]
        simp only [AS.skipD, AS.putO, AS.put]
        rw [sget_cons, if_pos rfl]
        rw [sget_cons, if_pos rfl] at this
        exact this
      · have h1 : o.dst ≠ some t := fun h => hd.ds i o j q t ho hq e1 hqt h
        rw [put_ne a h1]
        exact hI.new j q t hq (by simpa [e1] using hpj) hqt
    · obtain ⟨me, hme, hml⟩ := hI.mem
      refine ⟨me, hme, fun k => ?_⟩
      rw [hml]
      refine look_congr _ fun j e' hj he' hne => ?_
      have : j ≠ i := fun e1 => by subst e1; rw [he] at he'; cases he'
      simp [this]

theorem draw_any (hx : XOK P x) (hE : GE P E) (ht : Trc x drs nk0 ops s0 st res) (hd : DStat x.tt drs ops B) {Q : Exit → Act → World → Prop} (hQ : ∀ m' a' w', StR E x.nt (st ops.length) m' a' w' → Q .normal a' w') :
    ∀ (fuel : Nat) (listed : Array Bool) (m : Hd) (a : Act) (w : World), listed.size = ops.length → listed.toList.count false ≤ fuel → Inv P E x nk0 ops s0 st res (fun j => listed.getD j false) m a w → wpAny P .any ops.toArray Q fuel listed a w := by
  have done : ∀ (listed : Array Bool) (m : Hd) (a : Act) (w : World), listed.size = ops.length → Inv P E x nk0 ops s0 st res (fun j => listed.getD j false) m a w → Region.ready .any ops.toArray listed = [] → Q .normal a w := by
    intro listed m a w hs hI hr
    have all : ∀ i, i < ops.length → listed.getD i false = true := by
      intro i
      induction i using Nat.strongRecOn with
      | _ i ih =>
        intro hi
        obtain ⟨o, ho⟩ := Trc.op (ops := ops) i hi
        cases hp : listed.getD i false with
        | true => rfl
        | false =>
          exfalso
          have : i ∈ Region.ready .any ops.toArray listed := by
            rw [mem_ready]
            refine ⟨?_, o, by simpa using ho, fun e he hb => ih e.on (hd.on i o e ho he hb) (by have := hd.on i o e ho he hb; omega)⟩
            rw [Array.getD_eq_getD_getElem?] at hp ⊢
            rw [Array.getElem?_eq_getElem (by omega)] at hp ⊢
            exact hp
          rw [hr] at this; cases this
    refine hQ m a w ⟨fun t => ?_, ?_, hI.bd, fun k hk => ?_, hI.tm, hI.df, hI.fr⟩
    · by_cases hxx : ∃ (j : Nat) (q : Oper), ops[j]? = some q ∧ q.dst = some t
      · obtain ⟨j, q, hq, hqt⟩ := hxx
        exact hI.new j q t hq (all j (List.getElem?_eq_some_iff.1 hq).1) hqt
      · exact ((ht.fwd ops.length (Nat.le_refl _) (fun j q _ hq e => hxx ⟨j, q, hq, e⟩)) m w _).1 (hI.old t fun j q hq _ e => hxx ⟨j, q, hq, e⟩)
    · obtain ⟨me, hme, hml⟩ := hI.mem
      have heq : ∀ k, mlook (st ops.length).me k = mlook me k := by
        intro k
        rw [ht.mes k _ (Nat.le_refl _), hml]
        exact look_congr _ fun j e hj _ _ => (all j hj).symm
      exact ⟨fun k ab h => hme.at_ k ab (by rw [← heq]; exact h), fun k k' ab ab' v v' b h h' => hme.apart k k' ab ab' v v' b (by rw [← heq]; exact h) (by rw [← heq]; exact h'), hme.pubs, fun k ab v b h => hme.live k ab v b (by rw [← heq]; exact h), fun k ab v b h => hme.okl k ab v b (by rw [← heq]; exact h), hme.okn⟩
    · rw [ht.nks _ (Nat.le_refl _)] at hk
      cases hm : m k with
      | none => rfl
      | some v =>
        exfalso
        rcases hI.keys k (by rw [hm]; simp) with h1 | ⟨i, h1, h2, h3⟩
        · omega
        · have : i < ops.length := by
            rw [← hs]
            by_cases h : i < listed.size
            · exact h
            · rw [Array.getD_eq_getD_getElem?, Array.getElem?_eq_none (by omega)] at h1; cases h1
          omega
  intro fuel
  induction fuel with
  | zero =>
    intro listed m a w hs hcnt hI
    have hr : Region.ready .any ops.toArray listed = [] := by
      cases hq : Region.ready .any ops.toArray listed with
      | nil => rfl
      | cons i r =>
        exfalso
        have : i ∈ Region.ready .any ops.toArray listed := by rw [hq]; simp
        rw [mem_ready] at this
        obtain ⟨h1, o, h2, _⟩ := this
        have hi : i < listed.size := by rw [hs]; exact (List.getElem?_eq_some_iff.1 (by simpa using h2)).1
        rw [Array.getD_eq_getD_getElem?, Array.getElem?_eq_getElem hi] at h1
        have : false ∈ listed.toList := by
          have h1 : listed[i] = false := h1
          rw [← h1]; simp
        have := List.count_pos_iff.2 this
        omega
    exact ⟨hr, done listed m a w hs hI hr⟩
  | succ fuel ih =>
    intro listed m a w hs hcnt hI
    refine ⟨fun hr => done listed m a w hs hI hr, fun i hi => ?_⟩
    rw [mem_ready] at hi
    obtain ⟨h1, o, h2, h3⟩ := hi
    have h2 : ops[i]? = some o := by simpa using h2
    have hil : i < listed.size := by rw [hs]; exact (List.getElem?_eq_some_iff.1 h2).1
    have h1' : listed[i] = false := by
      rw [Array.getD_eq_getD_getElem?, Array.getElem?_eq_getElem hil] at h1; exact h1
    have hp : listed.getD i false = false := by
      rw [Array.getD_eq_getD_getElem?, Array.getElem?_eq_getElem hil]; exact h1'
    refine wpOp_mono (fun a' w' ⟨m', hI'⟩ => ?_) (draw_step hx hE ht hd hI h2 hp h3)
    refine ih (listed.setIfInBounds i true) m' a' w' (by simp [hs]) ?_ ?_
    · have hil' : i < listed.toList.length := by simpa using hil
      have e1 : (listed.setIfInBounds i true).toList = listed.toList.set i true := by simp
      have h4 : listed.toList[i] = false := by simpa using h1'
      have := List.count_set (a := true) (b := false) hil'
      rw [e1, this, h4]
      have h5 : 0 < listed.toList.count false := List.count_pos_iff.2 (by rw [← h4]; exact List.getElem_mem _)
      simp only [BEq.rfl, if_true]
      have e2 : ((true == false) = true) = False := by simp
      simp only [e2, if_false]
      omega
    · have : (fun j => (listed.setIfInBounds i true).getD j false) = fun j => decide (j = i) || listed.getD j false := by funext j; exact setp hil j
      rw [this]; exact hI'

theorem calm_drawn (m : Hd) (w : World) (n : Nat) : Pres m w m { w with drawn := n } := ⟨fun _ _ h => h, fun b h => ⟨rfl, h⟩⟩
theorem StR.drawn {s : AS} (h : StR E x.nt s m a w) (n : Nat) : StR E x.nt s m a { w with drawn := n } :=
  ⟨h.sl.mono (calm_drawn m w n), ⟨fun k ab hk => ABR_keep (h.mem.at_ k ab hk) (fun _ h => h) (fun _ _ _ _ => rfl) (calm_drawn m w n), h.mem.apart, h.mem.pubs, h.mem.live, h.mem.okl, h.mem.okn⟩, h.bd, h.nk, h.tm, h.df,
    ⟨h.fr.os, h.fr.tape, h.fr.output, h.fr.size, h.fr.ok, h.fr.block, h.fr.own, fun m0 w1 he => (h.fr.keep m0 w1 he).trans (calm_drawn m w n), h.fr.pin, h.fr.pub, h.fr.pubm⟩⟩
theorem drawVc_sound (hx : XOK P x) (hE : GE P E) (hm : P.follows .mixedOrders = true) {id : Nat} {opa : Array Oper} (hd : drawOk x.tt drs opa.toList = true) {s : AS} (hlow : memBelow s.nk s.me = true) {K : AS → Prop} {mu : Bool} (h : drawVc real x mu drs s.nk opa.toList 0 opa.toList s K) (hr : StR E x.nt s m a w)
    {Q : Exit → Act → World → Prop} (hQ : ∀ s' m' a' w', StR E x.nt s' m' a' w' → K s' → Q .normal a' w') : (Code.region id opa true).wp P Q a w := by
  obtain ⟨st, res, h0, hst, hK⟩ := drawVc_trace opa.toList 0 s K h
  simp only [Nat.zero_add] at hst hK
  refine wp_region_any hm ?_
  have hr := hr.drawn (w.drawn + 1)
  have := draw_any hx hE ⟨h0, rfl, hlow, hst⟩ (drawOk_spec hd) (Q := Q) (fun m' a' w' h => hQ _ m' a' w' h hK) opa.size (Array.replicate opa.size false) m a { w with drawn := w.drawn + 1 } (by simp) (by simp) ?_
  · simpa using this
  · have hn : ∀ j, (Array.replicate opa.size false).getD j false = false := by
      intro j
      rw [Array.getD_eq_getD_getElem?]
      by_cases h : j < opa.size <;> simp [h]
    refine ⟨fun i o e _ hp => (by rw [hn] at hp; cases hp), hr.bd, hr.fr, hr.tm, hr.df, fun k hk => ?_, fun t _ => hr.sl t, fun j q t _ hp => (by rw [hn] at hp; cases hp), s.me, hr.mem, fun k => ?_⟩
    · by_cases h : k < s.nk
      · exact .inl h
      · exact absurd (hr.nk k (by omega)) hk
    · rw [look_up (i := 0) _ (Nat.zero_le _) (fun j hj hp => by rw [hn] at hp; cases hp)]
      rfl
end
end Go.Vc
set_option linter.unusedVariables false
set_option linter.unusedSimpArgs false
namespace Go.Vc
open Go Go.RowKit

/-! ## A state under another's names -/
abbrev Ren := List (Nat × Option Nat)      -- a new name, the old one; none: nil
def rlook : Ren → Nat → Option (Option Nat)
  | [], _ => none
  | (k, a) :: r, t => match Nat.beq k t with
    | true => some a
    | false => rlook r t
def sameK (r : Ren) (old new : Nat) : Prop :=
  match rlook r new with
  | some (some k) => Nat.beq k old = true
  | _ => False
mutual
/-- what is known by the first says what the second says, under the new names -/
def avLe (r : Ren) : AV → AV → Prop
  | .i x, .i y => x = y
  | .w8 x, .w8 y => x = y
  | .w16 x, .w16 y => x = y
  | .w32 x, .w32 y => x = y
  | .w64 x, .w64 y => x = y
  | .b x, .b y => x = y
  | .kb x, .b y => x = y
  | .kb x, .kb y => x = y
  | .b x, .kb y => x = y
  | .s x, .s y => x = y
  | .ag n c, .ag k d => Nat.beq n k = true ∧ acLe r c d
  | .p k g o, .p k' g' o' => sameK r k k' ∧ Nat.beq g g' = true ∧ Nat.beq o o' = true
  | .pr a, .pr b => avLe r a b
  | .sl k g o e a n, .sl k' g' o' e' a' n' => sameK r k k' ∧ Nat.beq g g' = true ∧ Nat.beq o o' = true ∧ Nat.beq e e' = true ∧ a = a' ∧ n = n'
  | .rb e c, .rb e' d => Nat.beq e e' = true ∧ acLe r c d
  | .rw k, .rw k' => sameK r k k'
  | .nl, .nl => True
  | .nl, .rw k' => match rlook r k' with
    | some none => True
    | _ => False
  | .pn, .pn => True
  | .cl k, .cl k' => sameK r k k'
  | .z, .z => True
  | .nl, .z => True
  | .mh k, .mh k' => sameK r k k'
  | .mn, .mn => True
  | .fv f l, .fv f' l' => Nat.beq f f' = true ∧ alLe r l l'
  | .tup l, .tup l' => alLe r l l'
  | .u, .u => True
  | _, _ => False
def acLe (r : Ren) : AC → AC → Prop
  | .bt xs, .bt ys => xs = ys
  | .wh xs, .wh ys => xs = ys
  | .wd xs, .wd ys => xs = ys
  | .ww xs, .ww ys => xs = ys
  | .is xs, .is ys => xs = ys
  | .ss xs, .ss ys => xs = ys
  | .vs l, .vs l' => alLe r l l'
  | .fn e n f, .fn e' n' f' => Nat.beq e e' = true ∧ n = n' ∧ ∀ i, i < n → avLe r (f i) (f' i)
  | .ds sh xs, .ds sh' ys => Sh.beq sh sh' = true ∧ xs = ys
  | _, _ => False
def alLe (r : Ren) : List AV → List AV → Prop
  | [], [] => True
  | a :: l, b :: l' => avLe r a b ∧ alLe r l l'
  | _, _ => False
end
def segsLe (r : Ren) : List Seg → List Seg → Prop
  | [], [] => True
  | (n, c) :: l, (k, d) :: l' => Nat.beq n k = true ∧ acLe r c d ∧ segsLe r l l'
  | _, _ => False
def abLe (r : Ren) : AB → AB → Prop
  | _, .dead => True
  | .bk T s, .bk T' s' => Nat.beq T T' = true ∧ segsLe r s s'
  | .row T e c, .row T' e' d => Nat.beq T T' = true ∧ Nat.beq e e' = true ∧ acLe r c d
  | .mp T kk vs M, .mp T' kk' vs' M' => Nat.beq T T' = true ∧ KK.beq kk kk' = true ∧ Sh.beq vs vs' = true ∧ M = M'
  | .it k a b c, .it k' a' b' c' => sameK r k k' ∧ a = a' ∧ b = b' ∧ c = c'
  | _, _ => False

/-- what is to be known: slots; of each name the slot that leads to it and what lies there -/
structure Tg where
  sl : List (Nat × AV)
  me : List (Nat × Nat × AB)
def keyOf : AV → Option (Option Nat)
  | .rw k => some (some k)
  | .p k _ _ => some (some k)
  | .pe k _ _ _ _ => some (some k)
  | .sl k _ _ _ _ _ => some (some k)
  | .cl k => some (some k)
  | .mh k => some (some k)
  | .nl => some none
  | _ => none
/-- a name met -/
def badd (k : Nat) (o : Option Nat) (r : Ren) : Ren := match rlook r k with
  | some _ => r
  | none => (k, o) :: r
mutual
def bindV : AV → AV → Ren → Ren
  | .rw k, .rw j, r => badd j (some k) r
  | .nl, .rw j, r => badd j none r
  | .rw k, .sl j _ _ _ _ _, r => badd j (some k) r
  | .sl k _ _ _ _ _, .sl j _ _ _ _ _, r => badd j (some k) r
  | .p k _ _, .p j _ _, r => badd j (some k) r
  | .cl k, .cl j, r => badd j (some k) r
  | .mh k, .mh j, r => badd j (some k) r
  | .ag _ c, .ag _ d, r => bindC c d r
  | .tup l, .tup l', r => bindL l l' r
  | .fv _ l, .fv _ l', r => bindL l l' r
  | _, _, r => r
def bindC : AC → AC → Ren → Ren
  | .vs l, .vs l', r => bindL l l' r
  | _, _, r => r
def bindL : List AV → List AV → Ren → Ren
  | a :: l, b :: l', r => bindL l l' (bindV a b r)
  | _, _, r => r
end
def bindS (sl : List (Nat × AV)) : List (Nat × AV) → Ren → Ren
  | [], r => r
  | (t, a) :: l, r => bindS sl l (bindV (sget sl t) a r)
def bindG : List Seg → List Seg → Ren → Ren
  | (_, c) :: l, (_, d) :: l', r => bindG l l' (bindC c d r)
  | _, _, r => r
def bindB : AB → AB → Ren → Ren
  | .bk _ s, .bk _ s', r => bindG s s' r
  | .row _ _ c, .row _ _ d, r => bindC c d r
  | .it k _ _ _, .it j _ _ _, r => badd j (some k) r
  | _, _, r => r
def bindM (me : Mem) : List (Nat × Nat × AB) → Ren → Ren
  | [], r => r
  | (_, j, ab) :: l, r => match rlook r j with
    | some (some k) => match mlook me k with
      | some ab0 => bindM me l (bindB ab0 ab r)
      | none => bindM me l r
    | _ => bindM me l r
def bindT (sl : List (Nat × AV)) : List (Nat × Nat × AB) → Ren → Ren
  | [], r => r
  | (t, k, _) :: q, r => match keyOf (sget sl t) with
    | some o => bindT sl q (badd k o r)
    | none => bindT sl q r
/-- these names stay -/
def pinI : List Nat → Ren
  | [] => []
  | j :: q => (j, some j) :: pinI q
def fresh1 (k : Nat) : Ren → Bool
  | [] => true
  | (k', _) :: r => match Nat.beq k k' with
    | true => false
    | false => fresh1 k r
def fresh2 (o : Option Nat) : Ren → Bool
  | [] => true
  | (_, o') :: r => match o, o' with
    | some a, some b => match Nat.beq a b with
      | true => false
      | false => fresh2 o r
    | _, _ => fresh2 o r
def renOk : Ren → Bool
  | [] => true
  | (k, o) :: r => match Nat.blt k 64, fresh1 k r, fresh2 o r with
    | true, true, true => renOk r
    | _, _, _ => false
/-- a whole row may be told as a stretch of itself, too -/
def avLeM (r : Ren) (me : Mem) : AV → AV → Prop
  | .rw k, .sl j g o e x n => match Nat.beq g 0, Nat.beq o 0, Nat.beq e 1, mlook me k with
    | true, true, true, some (.row _ 1 (.bt xs)) => sameK r k j ∧ x = 0 ∧ n = xs.length
    | _, _, _, _ => False
  | a, b => avLe r a b
def slLe (r : Ren) (me : Mem) (sl : List (Nat × AV)) : List (Nat × AV) → Prop
  | [] => True
  | (t, a) :: l => (match a with
    | .u => True
    | a => avLeM r me (sget sl t) a) ∧ slLe r me sl l
def meLe (r r' : Ren) (me : Mem) : List (Nat × Nat × AB) → Prop
  | [] => True
  | (_, k, ab) :: l => (match rlook r k with
    | some (some o) => match mlook me o with
      | some ab0 => abLe r' ab0 ab
      | none => False
    | some none => match ab with
      | .row _ _ c => acNil c
      | _ => False
    | none => False) ∧ meLe r r' me l
def inMe (k : Nat) : List (Nat × Nat × AB) → Bool
  | [] => false
  | (_, j, _) :: l => match Nat.beq j k with
    | true => true
    | false => inMe k l
/-- the names of which something is to be known -/
def keepR (l : List (Nat × Nat × AB)) : Ren → Ren
  | [] => []
  | (k, o) :: r => match inMe k l with
    | true => (k, o) :: keepR l r
    | false => keepR l r
def lt64 : Ren → Bool
  | [] => true
  | (k, _) :: r => match Nat.blt k 64 with
    | true => lt64 r
    | false => false
def LeR (s : AS) (t : Tg) (r : Ren) : Prop :=
  match renOk (keepR t.me r), lt64 r with
  | true, true => slLe r s.me s.sl t.sl ∧ meLe r r s.me t.me
  | _, _ => False
def Le (pin : List Nat) (s : AS) (t : Tg) : Prop := LeR s t (bindM s.me t.me (bindS s.sl t.sl (bindT s.sl t.me (pinI pin))))
def tgMem : List (Nat × Nat × AB) → Mem
  | [] => []
  | (_, k, ab) :: l => (k, ab) :: tgMem l
def Tg.as (t : Tg) : AS := ⟨t.sl, tgMem t.me, 64⟩

/-- what is known at a loop's head, or where ways meet again -/
structure Ann where
  S : Type
  pre : S → Prop
  mu : S → Nat
  tg : S → Tg
abbrev Anns := List (Nat × Ann)
def alook : Anns → Nat → Option Ann
  | [], _ => none
  | (k, a) :: r, t => match Nat.beq k t with
    | true => some a
    | false => alook r t
/-- within a loop: a loop's measure is at most the outer one's of this round -/
def liftA (n : Nat) : Anns → Anns
  | [] => []
  | (k, a) :: r => (k, ⟨a.S, fun t => a.pre t ∧ a.mu t ≤ n, a.mu, a.tg⟩) :: liftA n r
/-- the number of the first region -/
def firstReg : Code → Nat
  | .region id _ _ => id
  | .seq a _ => firstReg a
  | .block _ b => firstReg b
  | .cond _ a _ => firstReg a
  | .loop a => firstReg a
  | _ => 0

def lmemB (k : Nat) : List Nat → Bool
  | [] => false
  | j :: r => match Nat.beq k j with
    | true => true
    | false => lmemB k r
/-- the conditions of a piece of code. 'an': of loops, by the number of the first region in them; 'cu': of a sequence's second half, likewise -/
def vc (F : Fs) (x : Cx) (an cu : Anns) : Code → AS → (VX → AS → Prop) → Prop
  | .skip, s, K => K .normal s
  | .region id ops draw, s, K => match draw with
    | false => opsVc F x (lmemB id x.must) ops.toList ops.toList s fun s' => K .normal s'
    | true => match memBelow s.nk s.me with
      | true => drawVc F x (lmemB id x.must) (drlook x.dr id) s.nk ops.toList 0 ops.toList s fun s' => K .normal s'
      | false => False
  | .seq a b, s, K => match alook cu (firstReg b) with
    | none => vc F x an cu a s fun e s' => match e with
      | .normal => vc F x an cu b s' K
      | e => K e s'
    | some A => (vc F x an cu a s fun e s' => match e with
        | .normal => ∃ t, A.pre t ∧ Le x.pin s' (A.tg t)
        | e => K e s') ∧ ∀ t, A.pre t → vc F x an cu b (A.tg t).as K
  | .cond c a b, s, K => match oget F s.sl c with
    | .kb true => vc F x an cu a s K
    | .kb false => vc F x an cu b s K
    | .b y => (F.pB y false ∨ vc F x an cu a s K) ∧ (F.pB y true ∨ vc F x an cu b s K)
    | _ => False
  | .block id b, s, K => vc F x an cu b s fun e s' => match e with
    | .exit i => match Nat.beq i id with
      | true => K .normal s'
      | false => K e s'
    | e => K e s'
  | .exit id, s, K => K (.exit id) s
  | .ret, s, K => K .ret s
  | .loop b, s, K => match alook an (firstReg b) with
    | some A => (∃ t, A.pre t ∧ Le x.pin s (A.tg t)) ∧ ∀ t, A.pre t → vc F x (liftA (A.mu t) an) cu b (A.tg t).as fun e s' => match e with
      | .normal => ∃ t', A.pre t' ∧ A.mu t' < A.mu t ∧ Le x.pin s' (A.tg t')
      | e => K e s'
    | none => False
  | _, _, _ => False

/-! ## What a renaming keeps -/
def hren (m : Hd) (r : Ren) : Hd := ⟨fun k => match rlook r k with
  | some (some o) => m o
  | some none => some (.slice none 0 0)
  | none => none, m.ok, m.pub⟩
section
variable {m : Hd} {w : World} {r : Ren}
theorem hren_apply (k : Nat) : (hren m r) k = (match rlook r k with
  | some (some o) => m o
  | some none => some (.slice none 0 0)
  | none => none) := rfl
theorem sameK_hren {o k : Nat} (h : sameK r o k) : (hren m r) k = m o := by
  unfold sameK at h
  rw [hren_apply]
  split at h
  · rename_i o' ho
    have := beq_nat h; subst this
    rw [ho]
  · exact h.elim
theorem hren_from {k : Nat} {v : Value} (h : (hren m r) k = some v) : (∃ o, m o = some v) ∨ v = .slice none 0 0 := by
  rw [hren_apply] at h
  split at h
  · exact .inl ⟨_, h⟩
  · cases h; exact .inr rfl
  · cases h
theorem Stable.ren {b : Nat} (h : Stable m w b) : Stable (hren m r) w b := by
  refine ⟨h.1, h.2.1, ?_⟩
  rcases h.2.2 with hp | hn
  · exact .inl hp
  · refine .inr fun k v hk hv => ?_
    rcases hren_from hk with ⟨o, ho⟩ | rfl
    · exact hn o v ho hv
    · simp [blk] at hv
theorem StableAt.ren {ad : Addr} {ds : List Value} (h : StableAt m w ad ds) : StableAt (hren m r) w ad ds := ⟨h.1.ren, h.2⟩
/-- names that lead where the old ones do, what stays stays -/
structure RenOK (m : Hd) (w : World) (r : Ren) (m' : Hd) : Prop where
  same : ∀ {o k : Nat}, sameK r o k → m' k = m o
  nil : ∀ {k : Nat}, rlook r k = some none → m' k = some (.slice none 0 0)
  stab : ∀ b, Stable m w b → Stable m' w b
theorem RenOK.at_ {m' : Hd} (h : RenOK m w r m') {ad : Addr} {ds : List Value} (hs : StableAt m w ad ds) : StableAt m' w ad ds := ⟨h.stab _ hs.1, hs.2⟩
theorem RenOK.hren : RenOK m w r (hren m r) := ⟨fun h => sameK_hren h, fun h => by rw [hren_apply, h], fun b h => h.ren⟩
theorem RenOK.none : RenOK m w [] m := ⟨fun h => (show False from h).elim, fun h => by simp [rlook] at h, fun b h => h⟩
/-- under other names; what the forgotten ones lead to does not count as staying -/
def hrens (m : Hd) (r : Ren) : Hd := ⟨(hren m r).mu, fun b => m.ok b ∧ (m.pub b ∨ ∀ k v, m k = some v → blk v ≠ some b), m.pub⟩
theorem RenOK.hrens : RenOK m w r (hrens m r) := ⟨fun h => sameK_hren h, fun h => by show (Go.Vc.hren m r) _ = _; rw [hren_apply, h], fun b h => ⟨h.1, ⟨h.2.1, h.2.2⟩, h.ren.2.2⟩⟩
variable {m' : Hd}
mutual
theorem DR_renG (hR : RenOK m w r m') : ∀ (sh : Sh) (d : D) (cs : List Value), DR m w sh d cs → DR m' w sh d cs
  | .i, d, cs, hc => by simpa only [DR] using hc
  | .w8, d, cs, hc => by simpa only [DR] using hc
  | .w32, d, cs, hc => by simpa only [DR] using hc
  | .w64, d, cs, hc => by simpa only [DR] using hc
  | .b, d, cs, hc => by simpa only [DR] using hc
  | .s, d, cs, hc => by simpa only [DR] using hc
  | .l8 n, d, cs, hc => by simpa only [DR] using hc
  | .ss, d, cs, hc => by
    simp only [DR] at hc ⊢
    obtain ⟨ad, n, cap, ds, h1, h2, h3, h4, h5⟩ := hc
    exact ⟨ad, n, cap, ds, h1, h2, h3, h4, fun hn => let ⟨a, ha, hs⟩ := h5 hn; ⟨a, ha, hR.at_ hs⟩⟩
  | .bs, d, cs, hc => by
    simp only [DR] at hc ⊢
    obtain ⟨ad, n, cap, ds, h1, h2, h3, h4, h5⟩ := hc
    exact ⟨ad, n, cap, ds, h1, h2, h3, h4, fun hn => let ⟨a, ha, hs⟩ := h5 hn; ⟨a, ha, hR.at_ hs⟩⟩
  | .t l, d, cs, hc => by simp only [DR] at hc ⊢; exact DRs_renG hR l d 0 cs hc
  | .sl sh, d, cs, hc => by
    simp only [DR] at hc ⊢
    obtain ⟨ad, n, cap, ds, h1, ⟨css, g1, g2, g3⟩, h3, h4, h5⟩ := hc
    exact ⟨ad, n, cap, ds, h1, ⟨css, g1, g2, fun j x y hx hy => ⟨(g3 j x y hx hy).1, DR_renG hR sh y x (g3 j x y hx hy).2⟩⟩, h3, h4, fun hn => let ⟨a, ha, hs⟩ := h5 hn; ⟨a, ha, hR.at_ hs⟩⟩
theorem DRs_renG (hR : RenOK m w r m') : ∀ (l : List Sh) (d : D) (j : Nat) (cs : List Value), DRs m w l d j cs → DRs m' w l d j cs
  | [], d, j, cs, hc => by simpa only [DRs] using hc
  | a :: l, d, j, cs, hc => by
    simp only [DRs] at hc ⊢
    obtain ⟨c1, c2, h1, h2, h3⟩ := hc
    exact ⟨c1, c2, h1, DR_renG hR a _ c1 h2, DRs_renG hR l d (j + 1) c2 h3⟩
end
theorem DV_renG (hR : RenOK m w r m') {sh : Sh} {d : D} {v : Value} (h : DV m w sh d v) : DV m' w sh d v := let ⟨cs, h1, h2⟩ := h; ⟨cs, DR_renG hR sh d cs h1, h2⟩
theorem ER_renG {kk : KK} {vs : Sh} (hR : RenOK m w r m') : ∀ (l : List (Nat × D × D)) (es : List MapEntry), ER m w kk vs l es → ER m' w kk vs l es
  | [], es, he => he
  | (b, k, d) :: l, es, he => by
    obtain ⟨e, q, h1, h2, h3, h4, h5⟩ := he
    exact ⟨e, q, h1, h2, h3, DV_renG hR h4, ER_renG hR l q h5⟩
mutual
theorem CR_leG (hR : RenOK m w r m') : ∀ (a b : AV) (cs : List Value), avLe r a b → CR m w a cs → CR m' w b cs
  | .i x, b, cs, h, hc => by
    cases b <;> first | exact (show False from h).elim | skip
    simp only [avLe] at h; subst h; simpa only [CR] using hc
  | .w8 x, b, cs, h, hc => by
    cases b <;> first | exact (show False from h).elim | skip
    simp only [avLe] at h; subst h; simpa only [CR] using hc
  | .w16 x, b, cs, h, hc => by
    cases b <;> first | exact (show False from h).elim | skip
    simp only [avLe] at h; subst h; simpa only [CR] using hc
  | .w32 x, b, cs, h, hc => by
    cases b <;> first | exact (show False from h).elim | skip
    simp only [avLe] at h; subst h; simpa only [CR] using hc
  | .w64 x, b, cs, h, hc => by
    cases b <;> first | exact (show False from h).elim | skip
    simp only [avLe] at h; subst h; simpa only [CR] using hc
  | .s x, b, cs, h, hc => by
    cases b <;> first | exact (show False from h).elim | skip
    simp only [avLe] at h; subst h; simpa only [CR] using hc
  | .b x, b, cs, h, hc => by
    cases b <;> first | exact (show False from h).elim | skip
    all_goals (simp only [avLe] at h; subst h; simpa only [CR] using hc)
  | .kb x, b, cs, h, hc => by
    cases b <;> first | exact (show False from h).elim | skip
    all_goals (simp only [avLe] at h; subst h; simpa only [CR] using hc)
  | .u, b, cs, h, hc => by
    cases b <;> first | exact (show False from h).elim | skip
    simpa only [CR] using hc
  | .nl, b, cs, h, hc => by
    cases b <;> first | exact (show False from h).elim | skip
    · simp only [avLe] at h; simp only [CR] at hc ⊢
      split at h
      · rename_i hr
        exact ⟨.slice none 0 0, hR.nil hr, hc, rfl⟩
      · exact h.elim
    · simpa only [CR] using hc
    · simp only [CR] at hc ⊢; exact ⟨none, hc⟩
  | .cl k, b, cs, h, hc => by
    cases b <;> first | exact (show False from h).elim | skip
    simp only [avLe] at h; simp only [CR] at hc ⊢
    obtain ⟨v, h1, h2⟩ := hc
    exact ⟨v, (hR.same h).trans h1, h2⟩
  | .z, b, cs, h, hc => by
    cases b <;> first | exact (show False from h).elim | skip
    simpa only [CR] using hc
  | .mh k, b, cs, h, hc => by
    cases b <;> first | exact (show False from h).elim | skip
    simp only [avLe] at h; simp only [CR] at hc ⊢
    obtain ⟨v, h1, h2⟩ := hc
    exact ⟨v, (hR.same h).trans h1, h2⟩
  | .mn, b, cs, h, hc => by
    cases b <;> first | exact (show False from h).elim | skip
    simpa only [CR] using hc
  | .fv f l, b, cs, h, hc => by
    cases b <;> first | exact (show False from h).elim | skip
    rename_i f' l'
    simp only [avLe] at h; simp only [CR] at hc ⊢
    have := beq_nat h.1; subst this
    obtain ⟨vs, h1, h2⟩ := hc
    exact ⟨vs, h1, LR_leG hR l l' vs h.2 h2⟩
  | .pf k g o e i j c, b, cs, h, hc => by
    cases b <;> exact (show False from h).elim
  | .pn, b, cs, h, hc => by
    cases b <;> first | exact (show False from h).elim | skip
    simpa only [CR] using hc
  | .tup l, b, cs, h, hc => by simp [CR] at hc
  | .pe k g o e i, b, cs, h, hc => by
    cases b <;> exact (show False from h).elim
  | .ag n c, b, cs, h, hc => by
    cases b <;> first | exact (show False from h).elim | skip
    rename_i k d
    simp only [avLe] at h; simp only [CR] at hc ⊢
    have := beq_nat h.1; subst this
    exact ⟨hc.1, RC_leG hR c d cs h.2 hc.2⟩
  | .p k g o, b, cs, h, hc => by
    cases b <;> first | exact (show False from h).elim | skip
    simp only [avLe] at h; simp only [CR] at hc ⊢
    obtain ⟨gb, h1, h2⟩ := hc
    have := beq_nat h.2.2; subst this
    exact ⟨gb, (hR.same h.1).trans h1, h2⟩
  | .pr a, b, cs, h, hc => by
    cases b <;> first | exact (show False from h).elim | skip
    rename_i b
    simp only [avLe] at h; simp only [CR] at hc ⊢
    obtain ⟨ad, ds, h1, h2, h3⟩ := hc
    exact ⟨ad, ds, h1, CR_leG hR a b ds h h2, hR.at_ h3⟩
  | .sl k g o e a n, b, cs, h, hc => by
    cases b <;> first | exact (show False from h).elim | skip
    simp only [avLe] at h; simp only [CR] at hc ⊢
    obtain ⟨v, ad, cap, h1, h2, h3, h4, h5⟩ := hc
    obtain ⟨e0, eg, e1, e2, e3, e4⟩ := h
    have e1 := beq_nat e1; have e2 := beq_nat e2
    subst e1; subst e2; subst e3; subst e4
    exact ⟨v, ad, cap, (hR.same e0).trans h1, h2, h3, h4, h5⟩
  | .rb e c, b, cs, h, hc => by
    cases b <;> first | exact (show False from h).elim | skip
    rename_i e' d
    simp only [avLe] at h; simp only [CR] at hc ⊢
    obtain ⟨ad, n, cap, ds, h1, h2, h3, h4, h5⟩ := hc
    have e1 := beq_nat h.1; subst e1
    exact ⟨ad, n, cap, ds, h1, RC_leG hR c d ds h.2 h2, h3, h4, fun hn => let ⟨a, ha, hs⟩ := h5 hn; ⟨a, ha, hR.at_ hs⟩⟩
  | .rw k, b, cs, h, hc => by
    cases b <;> first | exact (show False from h).elim | skip
    simp only [avLe] at h; simp only [CR] at hc ⊢
    obtain ⟨v, h1, h2⟩ := hc
    exact ⟨v, (hR.same h).trans h1, h2⟩
theorem RC_leG (hR : RenOK m w r m') : ∀ (c d : AC) (cs : List Value), acLe r c d → RC m w c cs → RC m' w d cs
  | .bt xs, d, cs, h, hc => by
    cases d <;> first | exact (show False from h).elim | skip
    simp only [acLe] at h; subst h; simpa only [RC] using hc
  | .wh xs, d, cs, h, hc => by
    cases d <;> first | exact (show False from h).elim | skip
    simp only [acLe] at h; subst h; simpa only [RC] using hc
  | .wd xs, d, cs, h, hc => by
    cases d <;> first | exact (show False from h).elim | skip
    simp only [acLe] at h; subst h; simpa only [RC] using hc
  | .ww xs, d, cs, h, hc => by
    cases d <;> first | exact (show False from h).elim | skip
    simp only [acLe] at h; subst h; simpa only [RC] using hc
  | .is xs, d, cs, h, hc => by
    cases d <;> first | exact (show False from h).elim | skip
    simp only [acLe] at h; subst h; simpa only [RC] using hc
  | .ss xs, d, cs, h, hc => by
    cases d <;> first | exact (show False from h).elim | skip
    simp only [acLe] at h; subst h; simpa only [RC] using hc
  | .vs l, d, cs, h, hc => by
    cases d <;> first | exact (show False from h).elim | skip
    rename_i l'
    simp only [acLe] at h; simp only [RC] at hc ⊢; exact LR_leG hR l l' cs h hc
  | .fn e n f, d, cs, h, hc => by
    cases d <;> first | exact (show False from h).elim | skip
    rename_i e' n' f'
    simp only [acLe] at h; simp only [RC] at hc ⊢
    obtain ⟨css, h1, h2, h3⟩ := hc
    obtain ⟨e1, e2, e3⟩ := h
    have e1 := beq_nat e1; subst e1; subst e2
    refine ⟨css, h1, h2, fun j d hd => ⟨(h3 j d hd).1, ?_⟩⟩
    have hj : j < n := by rw [← h1]; exact (List.getElem?_eq_some_iff.1 hd).1
    exact CR_leG hR (f j) (f' j) d (e3 j hj) (h3 j d hd).2
  | .ds sh xs, d, cs, h, hc => by
    cases d <;> first | exact (show False from h).elim | skip
    simp only [acLe] at h
    obtain ⟨e1, e2⟩ := h
    have e1 := Sh.beq_eq _ _ e1
    subst e1; subst e2
    simp only [RC] at hc ⊢
    obtain ⟨css, h1, h2, h3⟩ := hc
    exact ⟨css, h1, h2, fun j x y hx hy => ⟨(h3 j x y hx hy).1, DR_renG hR sh y x (h3 j x y hx hy).2⟩⟩
theorem LR_leG (hR : RenOK m w r m') : ∀ (l l' : List AV) (cs : List Value), alLe r l l' → LR m w l cs → LR m' w l' cs
  | [], l', cs, h, hc => by
    cases l' with
    | nil => simpa only [LR] using hc
    | cons _ _ => exact (show False from h).elim
  | a :: l, l', cs, h, hc => by
    cases l' with
    | nil => exact (show False from h).elim
    | cons b l' =>
      simp only [alLe] at h; simp only [LR] at hc ⊢
      obtain ⟨c1, c2, h1, h2, h3⟩ := hc
      exact ⟨c1, c2, h1, CR_leG hR a b c1 h.1 h2, LR_leG hR l l' c2 h.2 h3⟩
end
end
end Go.Vc
set_option linter.unusedVariables false
set_option linter.unusedSimpArgs false
namespace Go.Vc
open Go Go.RowKit

section
variable {m m' : Hd} {w : World} {r : Ren}
theorem one_leG (hR : RenOK m w r m') (a b : AV) (v : Value) (h : avLe r a b) (hu : b ≠ .u) (ha : a.one = true) (hv : RV m w a v) : RV m' w b v := by
  have hb : b.one = true := by
    cases a <;> simp only [AV.one, Bool.false_eq_true, reduceCtorEq] at ha <;> cases b <;> first | rfl | exact (show False from h).elim
  exact RV_of_CR hb (CR_leG hR a b [v] h (CR_of_RV ha hv).1)
mutual
theorem RV_leG (hR : RenOK m w r m') : ∀ (a b : AV) (v : Value), avLe r a b → b ≠ .u → RV m w a v → RV m' w b v
  | .u, b, v, h, hu, hv => by
    cases b <;> first | exact (show False from h).elim | exact absurd rfl hu
  | .ag n c, b, v, h, hu, hv => by
    cases b <;> first | exact (show False from h).elim | skip
    rename_i k d
    simp only [avLe] at h; simp only [RV] at hv ⊢
    obtain ⟨cs, h1, h2, h3⟩ := hv
    have := beq_nat h.1; subst this
    exact ⟨cs, h1, h2, RC_leG hR c d cs h.2 h3⟩
  | .tup l, b, v, h, hu, hv => by
    cases b <;> first | exact (show False from h).elim | skip
    rename_i l'
    simp only [avLe] at h; simp only [RV] at hv ⊢
    obtain ⟨vs, h1, h2⟩ := hv
    exact ⟨vs, h1, RVs_leG hR l l' vs h h2⟩
  | .i x, b, v, h, hu, hv => one_leG hR (.i x) b v h hu rfl hv
  | .w8 x, b, v, h, hu, hv => one_leG hR (.w8 x) b v h hu rfl hv
  | .w16 x, b, v, h, hu, hv => one_leG hR (.w16 x) b v h hu rfl hv
  | .w32 x, b, v, h, hu, hv => one_leG hR (.w32 x) b v h hu rfl hv
  | .w64 x, b, v, h, hu, hv => one_leG hR (.w64 x) b v h hu rfl hv
  | .b x, b, v, h, hu, hv => one_leG hR (.b x) b v h hu rfl hv
  | .kb x, b, v, h, hu, hv => one_leG hR (.kb x) b v h hu rfl hv
  | .s x, b, v, h, hu, hv => one_leG hR (.s x) b v h hu rfl hv
  | .p k g o, b, v, h, hu, hv => one_leG hR (.p k g o) b v h hu rfl hv
  | .pe k g o e i, b, v, h, hu, hv => one_leG hR (.pe k g o e i) b v h hu rfl hv
  | .pr a, b, v, h, hu, hv => one_leG hR (.pr a) b v h hu rfl hv
  | .sl k g o e a n, b, v, h, hu, hv => one_leG hR (.sl k g o e a n) b v h hu rfl hv
  | .rb e c, b, v, h, hu, hv => one_leG hR (.rb e c) b v h hu rfl hv
  | .rw k, b, v, h, hu, hv => one_leG hR (.rw k) b v h hu rfl hv
  | .nl, b, v, h, hu, hv => one_leG hR .nl b v h hu rfl hv
  | .pn, b, v, h, hu, hv => one_leG hR .pn b v h hu rfl hv
  | .cl k, b, v, h, hu, hv => one_leG hR (.cl k) b v h hu rfl hv
  | .z, b, v, h, hu, hv => one_leG hR .z b v h hu rfl hv
  | .mh k, b, v, h, hu, hv => one_leG hR (.mh k) b v h hu rfl hv
  | .mn, b, v, h, hu, hv => one_leG hR .mn b v h hu rfl hv
  | .fv f l, b, v, h, hu, hv => one_leG hR (.fv f l) b v h hu rfl hv
  | .pf k g o e i j c, b, v, h, hu, hv => one_leG hR (.pf k g o e i j c) b v h hu rfl hv
theorem RVs_leG (hR : RenOK m w r m') : ∀ (l l' : List AV) (vs : List Value), alLe r l l' → RVs m w l vs → RVs m' w l' vs
  | [], l', vs, h, hv => by
    cases l' with
    | nil => simpa only [RVs] using hv
    | cons _ _ => exact (show False from h).elim
  | a :: l, l', vs, h, hv => by
    cases l' with
    | nil => exact (show False from h).elim
    | cons b l' =>
      simp only [alLe] at h; simp only [RVs] at hv ⊢
      obtain ⟨v, q, h1, h2, h3⟩ := hv
      refine ⟨v, q, h1, ?_, RVs_leG hR l l' q h.2 h3⟩
      by_cases hb : b = .u
      · subst hb; simp [RV]
      · exact RV_leG hR a b v h.1 hb h2
end

theorem RV_le (a b : AV) (v : Value) (h : avLe r a b) (hu : b ≠ .u) (hv : RV m w a v) : RV (hren m r) w b v := RV_leG .hren a b v h hu hv
theorem RVs_le (l l' : List AV) (vs : List Value) (h : alLe r l l') (hv : RVs m w l vs) : RVs (hren m r) w l' vs := RVs_leG .hren l l' vs h hv
theorem sameK_look {r : Ren} {k j : Nat} (h : rlook r j = some (some k)) : sameK r k j := by
  unfold sameK; rw [h]; simp
theorem SegsR_leG (hR : RenOK m w r m') : ∀ (s s' : List Seg) (cs : List Value), segsLe r s s' → SegsR m w s cs → SegsR m' w s' cs
  | [], s', cs, h, hc => by
    cases s' with
    | nil => simpa only [SegsR] using hc
    | cons _ _ => exact (show False from h).elim
  | (n, c) :: l, s', cs, h, hc => by
    cases s' with
    | nil => exact (show False from h).elim
    | cons q l' =>
      obtain ⟨k, d⟩ := q
      simp only [segsLe] at h; simp only [SegsR] at hc ⊢
      obtain ⟨c1, c2, h1, h2, h3, h4⟩ := hc
      have := beq_nat h.1; subst this
      exact ⟨c1, c2, h1, h2, RC_leG hR c d c1 h.2.1 h3, SegsR_leG hR l l' c2 h.2.2 h4⟩
theorem acNil_RC {c : AC} (h : acNil c) : RC m w c [] := by
  cases c <;> simp only [acNil] at h <;> subst h <;> simp [RC, LR]
theorem ABR_leG (hR : RenOK m w r m') {k o : Nat} {ab0 ab : AB} (hr : rlook r k = some (some o)) (h : abLe r ab0 ab) (ha : ABR m w o ab0) : ABR m' w k ab := by
  have hm : m' k = m o := hR.same (sameK_look hr)
  cases ab with
  | dead => trivial
  | bk T s =>
    cases ab0 <;> first | exact (show False from h).elim | skip
    simp only [abLe] at h
    obtain ⟨g, cs, fz, h1, h2, h3, h4⟩ := ha
    have := beq_nat h.1; subst this
    exact ⟨g, cs, fz, hm.trans h1, h2, h3, SegsR_leG hR _ _ _ h.2 h4⟩
  | row T e c =>
    cases ab0 <;> first | exact (show False from h).elim | skip
    simp only [abLe] at h
    obtain ⟨v, n, cs, h1, h2, h3⟩ := ha
    have e1 := beq_nat h.1; have e2 := beq_nat h.2.1; subst e1; subst e2
    exact ⟨v, n, cs, hm.trans h1, h2, RC_leG hR _ _ _ h.2.2 h3⟩
  | mp T kk vs M =>
    cases ab0 <;> first | exact (show False from h).elim | skip
    simp only [abLe] at h
    obtain ⟨q, es, h1, h2, h3, h4⟩ := ha
    obtain ⟨e1, e2, e3, e4⟩ := h
    have e2 := KK.beq_eq e2
    have e3 := Sh.beq_eq _ _ e3
    subst e2; subst e3; subst e4
    exact ⟨q, es, hm.trans h1, h2, ER_renG hR _ _ h3, h4⟩
  | it k0 a b c =>
    cases ab0 <;> first | exact (show False from h).elim | skip
    simp only [abLe] at h
    obtain ⟨q, rm, h1, h2, h3⟩ := ha
    obtain ⟨e1, e2, e3, e4⟩ := h
    subst e2; subst e3; subst e4
    exact ⟨q, rm, hm.trans h1, (hR.same e1).trans h2, h3⟩
theorem ABR_le {k o : Nat} {ab0 ab : AB} (hr : rlook r k = some (some o)) (h : abLe r ab0 ab) (ha : ABR m w o ab0) : ABR (hren m r) w k ab := ABR_leG .hren hr h ha
theorem abLe_live {ab0 ab : AB} (h : abLe r ab0 ab) (hl : ab.live = true) : ab0.live = true := by
  cases ab <;> cases ab0 <;> first | rfl | (simp [AB.live] at hl; done) | exact (show False from h).elim

theorem fresh2_spec : ∀ {r : Ren} {a k : Nat}, fresh2 (some a) r = true → rlook r k ≠ some (some a)
  | [], a, k, h => by simp [rlook]
  | (k', o') :: r, a, k, h => by
    simp only [fresh2] at h
    simp only [rlook]
    cases o' with
    | none =>
      have := fresh2_spec (k := k) (show fresh2 (some a) r = true from h)
      split
      · simp
      · exact this
    | some b =>
      simp only at h
      split at h
      · cases h
      · rename_i hb
        have := fresh2_spec (k := k) h
        split
        · intro e; cases e; simp at hb
        · exact this
theorem renOk_inj : ∀ {r : Ren} {k k' o : Nat}, renOk r = true → rlook r k = some (some o) → rlook r k' = some (some o) → k = k'
  | [], k, k', o, h, h1, h2 => by simp [rlook] at h1
  | (k0, o0) :: r, k, k', o, h, h1, h2 => by
    simp only [renOk] at h
    split at h
    · rename_i g1 g2 g3
      simp only [rlook] at h1 h2
      split at h1
      · rename_i e1
        have e1 := beq_nat e1; subst e1
        cases h1
        split at h2
        · rename_i e2; exact beq_nat e2
        · exact absurd h2 (fresh2_spec g3)
      · split at h2
        · cases h2
          exact absurd h1 (fresh2_spec g3)
        · exact renOk_inj h h1 h2
    · cases h
theorem lt64_lt : ∀ {r : Ren} {k : Nat} {o : Option Nat}, lt64 r = true → rlook r k = some o → k < 64
  | [], k, o, h, h1 => by simp [rlook] at h1
  | (k0, o0) :: r, k, o, h, h1 => by
    simp only [lt64] at h
    split at h
    · rename_i g1
      simp only [rlook] at h1
      split at h1
      · rename_i e1
        have e1 := beq_nat e1; subst e1
        simp [Nat.blt] at g1; omega
      · exact lt64_lt h h1
    · cases h
theorem keepR_look {l : List (Nat × Nat × AB)} {k : Nat} (hk : inMe k l = true) : ∀ (r : Ren), rlook (keepR l r) k = rlook r k
  | [] => rfl
  | (j, o) :: r => by
    simp only [keepR]
    split
    · simp only [rlook, keepR_look hk r]
    · rename_i hj
      rw [keepR_look hk r]
      simp only [rlook]
      split
      · rename_i e
        have e := beq_nat e; subst e
        rw [hk] at hj; cases hj
      · rfl
theorem inMe_of {k : Nat} {ab : AB} : ∀ {l : List (Nat × Nat × AB)}, mlook (tgMem l) k = some ab → inMe k l = true
  | [], h => by simp [tgMem, mlook] at h
  | (t, j, a) :: l, h => by
    simp only [tgMem, mlook] at h
    simp only [inMe]
    split at h
    · rename_i e; rw [e]
    · rename_i e
      split
      · rfl
      · exact inMe_of h
theorem me_entry {me : Mem} {r' : Ren} : ∀ {l : List (Nat × Nat × AB)} {k : Nat} {ab : AB}, meLe r r' me l → mlook (tgMem l) k = some ab →
    (∃ o ab0, rlook r k = some (some o) ∧ mlook me o = some ab0 ∧ abLe r' ab0 ab) ∨ (rlook r k = some none ∧ ∃ T e c, ab = .row T e c ∧ acNil c)
  | [], k, ab, h, h1 => by simp [tgMem, mlook] at h1
  | (t, k0, ab0) :: l, k, ab, h, h1 => by
    simp only [meLe] at h
    simp only [tgMem, mlook] at h1
    split at h1
    · rename_i e1
      have e1 := beq_nat e1; subst e1
      cases h1
      have h0 := h.1
      split at h0
      · rename_i o ho
        split at h0
        · rename_i ab1 hab
          exact .inl ⟨o, ab1, ho, hab, h0⟩
        · exact h0.elim
      · rename_i ho
        split at h0
        · rename_i T e c
          exact .inr ⟨ho, T, e, c, rfl, h0⟩
        · exact h0.elim
      · exact h0.elim
    · exact me_entry h.2 h1

/-! ## Bindings stay -/
theorem badd_keep {k j : Nat} {o v : Option Nat} {r : Ren} (h : rlook r j = some v) : rlook (badd k o r) j = some v := by
  unfold badd
  split
  · exact h
  · rename_i hk
    simp only [rlook]
    split
    · rename_i e; have := beq_nat e; subst this; rw [hk] at h; cases h
    · exact h
mutual
theorem bindV_keep {j : Nat} {v : Option Nat} : ∀ (a b : AV) (r : Ren), rlook r j = some v → rlook (bindV a b r) j = some v
  | .ag n c, b, r, h => by
    cases b <;> simp only [bindV] <;> first | exact h | exact bindC_keep c _ r h
  | .tup l, b, r, h => by
    cases b <;> simp only [bindV] <;> first | exact h | exact bindL_keep l _ r h
  | .fv f l, b, r, h => by
    cases b <;> simp only [bindV] <;> first | exact h | exact bindL_keep l _ r h
  | .rw k, b, r, h => by cases b <;> simp only [bindV] <;> first | exact h | exact badd_keep h
  | .nl, b, r, h => by cases b <;> simp only [bindV] <;> first | exact h | exact badd_keep h
  | .sl _ _ _ _ _ _, b, r, h => by cases b <;> simp only [bindV] <;> first | exact h | exact badd_keep h
  | .p _ _ _, b, r, h => by cases b <;> simp only [bindV] <;> first | exact h | exact badd_keep h
  | .cl _, b, r, h => by cases b <;> simp only [bindV] <;> first | exact h | exact badd_keep h
  | .mh _, b, r, h => by cases b <;> simp only [bindV] <;> first | exact h | exact badd_keep h
  | .u, b, r, h => by cases b <;> simp only [bindV] <;> exact h
  | .i _, b, r, h => by cases b <;> simp only [bindV] <;> exact h
  | .w8 _, b, r, h => by cases b <;> simp only [bindV] <;> exact h
  | .w16 _, b, r, h => by cases b <;> simp only [bindV] <;> exact h
  | .w32 _, b, r, h => by cases b <;> simp only [bindV] <;> exact h
  | .w64 _, b, r, h => by cases b <;> simp only [bindV] <;> exact h
  | .b _, b, r, h => by cases b <;> simp only [bindV] <;> exact h
  | .kb _, b, r, h => by cases b <;> simp only [bindV] <;> exact h
  | .s _, b, r, h => by cases b <;> simp only [bindV] <;> exact h
  | .pe _ _ _ _ _, b, r, h => by cases b <;> simp only [bindV] <;> exact h
  | .pr _, b, r, h => by cases b <;> simp only [bindV] <;> exact h
  | .rb _ _, b, r, h => by cases b <;> simp only [bindV] <;> exact h
  | .pn, b, r, h => by cases b <;> simp only [bindV] <;> exact h
  | .z, b, r, h => by cases b <;> simp only [bindV] <;> exact h
  | .mn, b, r, h => by cases b <;> simp only [bindV] <;> exact h
  | .pf _ _ _ _ _ _ _, b, r, h => by cases b <;> simp only [bindV] <;> exact h
theorem bindC_keep {j : Nat} {v : Option Nat} : ∀ (a b : AC) (r : Ren), rlook r j = some v → rlook (bindC a b r) j = some v
  | .vs l, b, r, h => by
    cases b <;> simp only [bindC] <;> first | exact h | exact bindL_keep l _ r h
  | .bt _, b, r, h => by cases b <;> simp only [bindC] <;> exact h
  | .wh _, b, r, h => by cases b <;> simp only [bindC] <;> exact h
  | .wd _, b, r, h => by cases b <;> simp only [bindC] <;> exact h
  | .ww _, b, r, h => by cases b <;> simp only [bindC] <;> exact h
  | .is _, b, r, h => by cases b <;> simp only [bindC] <;> exact h
  | .ss _, b, r, h => by cases b <;> simp only [bindC] <;> exact h
  | .fn _ _ _, b, r, h => by cases b <;> simp only [bindC] <;> exact h
  | .ds _ _, b, r, h => by cases b <;> simp only [bindC] <;> exact h
theorem bindL_keep {j : Nat} {v : Option Nat} : ∀ (a b : List AV) (r : Ren), rlook r j = some v → rlook (bindL a b r) j = some v
  | [], b, r, h => by cases b <;> simp only [bindL] <;> exact h
  | a :: l, b, r, h => by
    cases b with
    | nil => simp only [bindL]; exact h
    | cons b l' => simp only [bindL]; exact bindL_keep l l' _ (bindV_keep a b r h)
end
theorem bindS_keep {sl : List (Nat × AV)} {j : Nat} {v : Option Nat} : ∀ (l : List (Nat × AV)) (r : Ren), rlook r j = some v → rlook (bindS sl l r) j = some v
  | [], r, h => h
  | (t, a) :: l, r, h => bindS_keep l _ (bindV_keep _ _ r h)
theorem bindG_keep {j : Nat} {v : Option Nat} : ∀ (a b : List Seg) (r : Ren), rlook r j = some v → rlook (bindG a b r) j = some v
  | [], b, r, h => by cases b <;> simp only [bindG] <;> exact h
  | (n, c) :: l, b, r, h => by
    cases b with
    | nil => simp only [bindG]; exact h
    | cons b l' => obtain ⟨n', d⟩ := b; simp only [bindG]; exact bindG_keep l l' _ (bindC_keep c d r h)
theorem bindB_keep {j : Nat} {v : Option Nat} (a b : AB) (r : Ren) (h : rlook r j = some v) : rlook (bindB a b r) j = some v := by
  cases a <;> cases b <;> simp only [bindB] <;> first | exact h | exact bindG_keep _ _ r h | exact bindC_keep _ _ r h | exact badd_keep h
theorem bindM_keep {me : Mem} {j : Nat} {v : Option Nat} : ∀ (l : List (Nat × Nat × AB)) (r : Ren), rlook r j = some v → rlook (bindM me l r) j = some v
  | [], r, h => h
  | (t, k, ab) :: l, r, h => by
    simp only [bindM]
    split
    · split
      · exact bindM_keep l _ (bindB_keep _ _ r h)
      · exact bindM_keep l r h
    · exact bindM_keep l r h
theorem bindT_keep {sl : List (Nat × AV)} {j : Nat} {v : Option Nat} : ∀ (l : List (Nat × Nat × AB)) (r : Ren), rlook r j = some v → rlook (bindT sl l r) j = some v
  | [], r, h => h
  | (t, k, ab) :: l, r, h => by
    simp only [bindT]
    split
    · exact bindT_keep l _ (badd_keep h)
    · exact bindT_keep l r h
theorem pinI_look : ∀ (l : List Nat) (j : Nat), j ∈ l → rlook (pinI l) j = some (some j)
  | [], j, h => by simp at h
  | i :: q, j, h => by
    simp only [pinI, rlook]
    split
    · rename_i e; rw [beq_nat e]
    · rename_i e
      rcases List.mem_cons.1 h with rfl | h
      · simp at e
      · exact pinI_look q j h
theorem avLeM_soundG (hR : RenOK m w r m') {me : Mem} (hm : MemR m w me) {a b : AV} {v : Value} (h : avLeM r me a b) (hu : b ≠ .u) (hv : RV m w a v) : RV m' w b v := by
  unfold avLeM at h
  split at h
  · rename_i k j g o e x n
    split at h
    · rename_i T xs hg ho he hk
      have hg := beq_nat hg; have ho := beq_nat ho; have he := beq_nat he
      subst hg; subst ho; subst he
      obtain ⟨hs, rfl, rfl⟩ := h
      obtain ⟨v', n', cs, h1, ⟨h2, h3⟩, h4⟩ := hm.at_ k _ hk
      simp only [RV, CR] at hv ⊢
      obtain ⟨u, hu1, hu2, _⟩ := hv
      rw [h1] at hu1; cases hu1
      simp only [List.cons.injEq, and_true] at hu2
      subst hu2
      simp only [RC] at h4
      have hn : n' = xs.length := by rw [h4] at h2; simpa using h2.symm
      subst hn
      rw [hR.same hs]
      rcases h3 with ⟨ad, rfl, h5⟩ | ⟨g, o, cap, cur, fz, rfl, h6, h7, h8, h9, _⟩
      · exact ⟨_, ad, 0, h1, by rw [h5], by omega, by omega, fun c hc => by simp only [capOf, Option.some.injEq] at hc; omega⟩
      · exact ⟨_, some ⟨g, o, none⟩, cap, h1, rfl, h8, fun _ => ⟨g, blk_slice h9, by simp [bof]⟩, fun c hc => by simp only [capOf, Option.some.injEq] at hc; omega⟩
    · exact h.elim
  · exact RV_leG hR a b v h hu hv
theorem avLeM_sound {me : Mem} (hm : MemR m w me) {a b : AV} {v : Value} (h : avLeM r me a b) (hu : b ≠ .u) (hv : RV m w a v) : RV (hren m r) w b v := avLeM_soundG .hren hm h hu hv
/-- memory under other names -/
theorem MemR_le {me : Mem} {l : List (Nat × Nat × AB)} (hm : MemR m w me) (hok : renOk (keepR l r) = true) (h : meLe r r me l) : MemR (hren m r) w (tgMem l) := by
  refine ⟨fun k ab hab => ?_, fun k k' ab ab' v v' b hab hab' hl hl' hne hv hv' hb => ?_, hm.pubs, fun k ab v b hab hl hv hb => ?_, fun k ab v b hab hl hv hb => ?_, hm.okn⟩
  · rcases me_entry h hab with ⟨o, ab0, h1, h2, h3⟩ | ⟨h1, T, e, c, rfl, h2⟩
    · exact ABR_le h1 h3 (hm.at_ o ab0 h2)
    · exact ⟨.slice none 0 0, 0, [], by rw [hren_apply, h1], ⟨by simp, .inl ⟨none, rfl, rfl⟩⟩, acNil_RC h2⟩
  · rcases me_entry h hab with ⟨o, ab0, h1, h2, h3⟩ | ⟨h1, T, e, c, rfl, h2⟩
    · rcases me_entry h hab' with ⟨o', ab0', h1', h2', h3'⟩ | ⟨h1', _⟩
      · rw [hren_apply, h1] at hv
        rw [hren_apply, h1'] at hv'
        refine hm.apart o o' ab0 ab0' v v' b h2 h2' (abLe_live h3 hl) (abLe_live h3' hl') (fun e => ?_) hv hv' hb
        subst e
        exact hne (renOk_inj hok ((keepR_look (inMe_of hab) r).trans h1) ((keepR_look (inMe_of hab') r).trans h1'))
      · rw [hren_apply, h1'] at hv'
        cases hv'; simp [blk]
    · rw [hren_apply, h1] at hv
      cases hv; simp [blk] at hb
  · rcases me_entry h hab with ⟨o, ab0, h1, h2, h3⟩ | ⟨h1, T, e, c, rfl, h2⟩
    · rw [hren_apply, h1] at hv
      exact hm.live o ab0 v b h2 (abLe_live h3 hl) hv hb
    · rw [hren_apply, h1] at hv
      cases hv; simp [blk] at hb
  · rcases me_entry h hab with ⟨o, ab0, h1, h2, h3⟩ | ⟨h1, T, e, c, rfl, h2⟩
    · rw [hren_apply, h1] at hv
      exact hm.okl o ab0 v b h2 (abLe_live h3 hl) hv hb
    · rw [hren_apply, h1] at hv
      cases hv; simp [blk] at hb
theorem slLe_sound {me : Mem} {sl : List (Nat × AV)} {a : Act} (hm : MemR m w me) (hs : SlR m w sl a) : ∀ (l : List (Nat × AV)), slLe r me sl l → SlR (hren m r) w l a
  | [], _ => fun t => by simp [sget, RV]
  | (d, av) :: q, hl => fun t => by
    simp only [slLe] at hl
    simp only [sget]
    split
    · rename_i e
      have := beq_nat e; subst this
      by_cases hu : av = .u
      · subst hu; simp [RV]
      · have h1 : avLeM r me (sget sl d) av := by
          have := hl.1
          split at this
          · exact absurd rfl hu
          · exact this
        exact avLeM_sound hm h1 hu (hs d)
    · exact slLe_sound hm hs q hl.2 t
theorem Le_sound {E : Env} {nt : Nat} {s : AS} {t : Tg} {a : Act} {pin : List Nat} (hpn : ∀ j v, (j, v) ∈ E.pin → j ∈ pin) (hkp : E.keep = none) (h : Le pin s t) (hr : StR E nt s m a w) : ∃ m', StR E nt t.as m' a w := by
  unfold Le at h
  generalize hrr : bindM s.me t.me (bindS s.sl t.sl (bindT s.sl t.me (pinI pin))) = r at h
  unfold LeR at h
  split at h
  · rename_i hok hlt
    have hpin : ∀ j, j ∈ pin → rlook r j = some (some j) := fun j hj => by
      rw [← hrr]; exact bindM_keep _ _ (bindS_keep _ _ (bindT_keep _ _ (pinI_look pin j hj)))
    refine ⟨hren m r, slLe_sound hr.mem hr.sl t.sl h.1, MemR_le hr.mem hok h.2, fun k v b hk hv => ?_, fun k hk => ?_, hr.tm, hr.df, ⟨hr.fr.os, hr.fr.tape, hr.fr.output, hr.fr.size, hr.fr.ok, hr.fr.block, fun k v b hk hv => ?_, fun m0 w1 he => (by rw [hkp] at he; cases he), fun j v hj => ?_, hr.fr.pub, hr.fr.pubm⟩⟩
    · rcases hren_from hk with ⟨o, ho⟩ | rfl
      · exact hr.bd o v b ho hv
      · simp [blk] at hv
    · rw [hren_apply]
      cases hq : rlook r k with
      | none => rfl
      | some o =>
        have := lt64_lt hlt hq
        simp only [Tg.as] at hk
        omega
    · rcases hren_from hk with ⟨o, ho⟩ | rfl
      · exact hr.fr.own o v b ho hv
      · simp [blk] at hv
    · rw [hren_apply, hpin j (hpn j v hj)]
      exact hr.fr.pin j v hj
  · exact h.elim
end

/-! ## The conditions of a piece of code -/
def VX.ex : VX → Exit
  | .normal => .normal
  | .exit i => .exit i
  | .ret => .ret
theorem code_mono {P : Program} {c : Code} {Q Q' : Exit → Act → World → Prop} {a : Act} {w : World} (h : c.wp P Q a w) (hq : ∀ e a w, Q e a w → Q' e a w) : c.wp P Q' a w :=
  Code.wp_mono hq h
/-- a loop whose measure goes by what is known, not by the state itself -/
theorem wp_loop_ghost {P : Program} {c : Code} {Q : Exit → Act → World → Prop} {S : Type} (I : S → Act → World → Prop) (mu : S → Nat) (t0 : S) {a : Act} {w : World} (h0 : I t0 a w)
    (round : ∀ t a w, I t a w → c.wp P (Exit.then (fun a' w' => ∃ t', I t' a' w' ∧ mu t' < mu t) Q) a w) : (Code.loop c).wp P Q a w := by
  intro b k cs
  have key : ∀ n t a w, mu t = n → I t a w → ∃ e a' w', Q e a' w' ∧ Arrives P (lone (b.at a (.code c :: .inLoop c :: k)) cs w) b k cs e a' w' := by
    intro n
    induction n using Nat.strongRecOn with
    | _ n ih =>
      intro t a w hn hI
      obtain ⟨e, a1, w1, hq, harr⟩ := round t a w hI b (.inLoop c :: k) cs
      cases e with
      | normal =>
        obtain ⟨t', hI1, hlt⟩ := hq
        obtain ⟨e2, a2, w2, hq2, harr2⟩ := ih (mu t') (hn ▸ hlt) t' a1 w1 rfl hI1
        exact ⟨e2, a2, w2, hq2, .of_steps (Steps.trans harr (.one step_inLoop)) harr2⟩
      | exit id => exact ⟨_, a1, w1, hq, .pass (x := .inLoop c) rfl (fun _ _ => .inl (by simp)) harr⟩
      | goto l => exact ⟨_, a1, w1, hq, .pass (x := .inLoop c) rfl (fun _ _ => .inl (by simp)) harr⟩
      | ret => exact ⟨_, a1, w1, hq, .pass (x := .inLoop c) rfl (fun _ _ => .inl (by simp)) harr⟩
      | panic ch => exact ⟨_, a1, w1, hq, .pass (x := .inLoop c) rfl (fun _ _ => .inl (by simp)) harr⟩
      | outgrown => exact ⟨_, a1, w1, hq, .pass (x := .inLoop c) rfl (fun _ _ => .inl (by simp)) harr⟩
  obtain ⟨e, a', w', hq, harr⟩ := key _ t0 a w rfl h0
  exact ⟨e, a', w', hq, .of_steps (.one step_loop) harr⟩

/-- what is known behind: some state that the condition is true of -/
def Post (E : Env) (nt : Nat) (K : VX → AS → Prop) (e : Exit) (a : Act) (w : World) : Prop :=
  ∃ x s m, e = VX.ex x ∧ K x s ∧ StR E nt s m a w

section
variable {P : Program} {E : Env} {x : Cx} {cu : Anns}
theorem region_seq {id : Nat} {ops : Array Oper} {Q : Exit → Act → World → Prop} {a : Act} {w : World} (h : wpList P ops Q ops.toList a w) : (Code.region id ops false).wp P Q a w := wp_region_list h

theorem vc_sound {an : Anns} (hx : XOK P x) (hE : GE P E) (hpn : ∀ j v, (j, v) ∈ E.pin → j ∈ x.pin) (hkp : E.keep = none ∨ (an = [] ∧ cu = [])) (hmx : P.follows .mixedOrders = true) : ∀ (c : Code) (s : AS) (K : VX → AS → Prop), drawsOk x.tt x.dr c = true → vc real x an cu c s K → ∀ (m : Hd) (a : Act) (w : World), StR E x.nt s m a w → c.wp P (Post E x.nt K) a w
  | .skip, s, K, hdr, h, m, a, w, hr => wp_skip ⟨.normal, s, m, rfl, h, hr⟩
  | .region id ops draw, s, K, hdr, h, m, a, w, hr => by
    simp only [vc] at h
    cases draw with
    | false =>
      refine region_seq ?_
      have := opsVc_sound (Q := Post E x.nt K) hx hE _ ops.toList ops.toList s m a w _ h hr (fun s' m' a' w' hr' hk => ⟨.normal, s', m', rfl, hk, hr'⟩)
      simpa using this
    | true =>
      simp only at h
      split at h
      · rename_i hlow
        exact drawVc_sound hx hE hmx hdr hlow h hr fun s' m' a' w' hr' hk => ⟨.normal, s', m', rfl, hk, hr'⟩
      · exact h.elim
  | .seq c d, s, K, hdr, h, m, a, w, hr => by
    simp only [vc] at h
    simp only [drawsOk, Bool.and_eq_true] at hdr
    refine wp_seq ?_
    split at h
    · refine code_mono (vc_sound hx hE hpn hkp hmx c s _ hdr.1 h m a w hr) ?_
      rintro e a' w' ⟨y, s', m', rfl, hk, hr'⟩
      cases y with
      | normal => exact vc_sound hx hE hpn hkp hmx d s' K hdr.2 hk m' a' w' hr'
      | exit i => exact ⟨.exit i, s', m', rfl, hk, hr'⟩
      | ret => exact ⟨.ret, s', m', rfl, hk, hr'⟩
    · rename_i A hA
      have hkp' : E.keep = none := hkp.resolve_right (fun e => by rw [e.2] at hA; simp [alook] at hA)
      refine code_mono (vc_sound hx hE hpn hkp hmx c s _ hdr.1 h.1 m a w hr) ?_
      rintro e a' w' ⟨y, s', m', rfl, hk, hr'⟩
      cases y with
      | normal =>
        obtain ⟨t, ht1, ht2⟩ := hk
        obtain ⟨m2, hr2⟩ := Le_sound hpn hkp' ht2 hr'
        exact vc_sound hx hE hpn hkp hmx d _ K hdr.2 (h.2 t ht1) m2 a' w' hr2
      | exit i => exact ⟨.exit i, s', m', rfl, hk, hr'⟩
      | ret => exact ⟨.ret, s', m', rfl, hk, hr'⟩
  | .cond c t f, s, K, hdr, h, m, a, w, hr => by
    simp only [vc] at h
    simp only [drawsOk, Bool.and_eq_true] at hdr
    have hv := oget_sound hr.sl c
    split at h
    · rename_i hq
      rw [hq] at hv
      simp only [RV, CR, List.cons.injEq, and_true] at hv
      exact wp_cond_true hv (vc_sound hx hE hpn hkp hmx t s K hdr.1 h m a w hr)
    · rename_i hq
      rw [hq] at hv
      simp only [RV, CR, List.cons.injEq, and_true] at hv
      exact wp_cond_false hv (vc_sound hx hE hpn hkp hmx f s K hdr.2 h m a w hr)
    · rename_i y hq
      rw [hq] at hv
      simp only [RV, CR, List.cons.injEq, and_true] at hv
      cases y with
      | true => exact wp_cond_true hv (vc_sound hx hE hpn hkp hmx t s K hdr.1 (h.1.resolve_left (fun e => by simp [real] at e)) m a w hr)
      | false => exact wp_cond_false hv (vc_sound hx hE hpn hkp hmx f s K hdr.2 (h.2.resolve_left (fun e => by simp [real] at e)) m a w hr)
    · exact h.elim
  | .block id b, s, K, hdr, h, m, a, w, hr => by
    simp only [vc] at h
    refine wp_block ?_
    refine code_mono (vc_sound hx hE hpn hkp hmx b s _ hdr h m a w hr) ?_
    rintro e a' w' ⟨y, s', m', rfl, hk, hr'⟩
    cases y with
    | normal => exact ⟨.normal, s', m', rfl, hk, hr'⟩
    | exit i =>
      simp only [VX.ex, Exit.inBlock]
      simp only at hk
      split at hk
      · rename_i hb
        rw [if_pos (beq_nat hb)]
        exact ⟨.normal, s', m', rfl, hk, hr'⟩
      · rename_i hb
        rw [if_neg (fun e => by subst e; simp at hb)]
        exact ⟨.exit i, s', m', rfl, hk, hr'⟩
    | ret => exact ⟨.ret, s', m', rfl, hk, hr'⟩
  | .exit id, s, K, hdr, h, m, a, w, hr => wp_exit ⟨.exit id, s, m, rfl, h, hr⟩
  | .ret, s, K, hdr, h, m, a, w, hr => wp_ret ⟨.ret, s, m, rfl, h, hr⟩
  | .loop b, s, K, hdr, h, m, a, w, hr => by
    simp only [vc] at h
    split at h
    · rename_i A hA
      have hkp' : E.keep = none := hkp.resolve_right (fun e => by rw [e.1] at hA; simp [alook] at hA)
      obtain ⟨⟨t0, hp0, hl0⟩, hround⟩ := h
      obtain ⟨m0, hr0⟩ := Le_sound hpn hkp' hl0 hr
      refine wp_loop_ghost (S := A.S) (fun t a w => A.pre t ∧ ∃ m, StR E x.nt (A.tg t).as m a w) A.mu t0 ⟨hp0, m0, hr0⟩ ?_
      rintro t a' w' ⟨hp, m', hr'⟩
      refine code_mono (vc_sound hx hE hpn (.inl hkp') hmx b _ _ hdr (hround t hp) m' a' w' hr') ?_
      rintro e a2 w2 ⟨y, s2, m2, rfl, hk, hr2⟩
      cases y with
      | normal =>
        obtain ⟨t', hp', hmu, hle⟩ := hk
        obtain ⟨m3, hr3⟩ := Le_sound hpn hkp' hle hr2
        exact ⟨t', ⟨hp', m3, hr3⟩, hmu⟩
      | exit i => exact ⟨.exit i, s2, m2, rfl, hk, hr2⟩
      | ret => exact ⟨.ret, s2, m2, rfl, hk, hr2⟩
    · exact h.elim
  | .rangeFunc _ _ _ _, s, K, hdr, h, m, a, w, hr => by simp [vc] at h
  | .scope _, s, K, hdr, h, m, a, w, hr => by simp [vc] at h
  | .label _, s, K, hdr, h, m, a, w, hr => by simp [vc] at h
  | .goto _, s, K, hdr, h, m, a, w, hr => by simp [vc] at h
  | .refuse _, s, K, hdr, h, m, a, w, hr => by simp [vc] at h
end
end Go.Vc
set_option linter.unusedVariables false
set_option linter.unusedSimpArgs false
namespace Go.Vc
open Go Go.RowKit

/-! ## Results -/
def resK (F : Fs) (tt : TT) (s : AS) : List ResultVar → (List AV → Prop) → Prop
  | [], K => K []
  | .tmp t :: r, K => resK F tt s r fun l => K (sget s.sl t :: l)
  | .cell a T :: r, K => match (loadEv F tt T (sget s.sl a)).run s.me with
    | some e => e.c ∧ resK F tt s r fun l => K (e.v :: l)
    | none => False
def tupAV : List AV → AV
  | [a] => a
  | l => .tup l
def endK (F : Fs) (tt : TT) (fr : List ResultVar) (K : List AV → AS → Prop) : VX → AS → Prop
  | .normal, s => resK F tt s fr fun l => K l s
  | .ret, s => resK F tt s fr fun l => K l s
  | .exit _, _ => False
def zipSl : Nat → List AV → List (Nat × AV)
  | _, [] => []
  | i, a :: r => (i, a) :: zipSl (Nat.succ i) r
/-- a call whose callee's code is gone through in place -/
def inl (F : Fs) (x : Cx) (body : Code) (fr : List ResultVar) : KSpec := fun args s K =>
  match Nat.ble (llen args) x.nt with
  | true => vc F x [] [] body ⟨zipSl 0 args, s.me, s.nk⟩ (endK F x.tt fr fun l s' => K (tupAV l) s')
  | false => False

def resOne (a : Act) : ResultVar → Sem Value
  | .tmp t => pure (a.tmps.getD t undef)
  | .cell b t => do loadVar t (← asAddr (a.tmps.getD b undef))
section
variable {P : Program} {E : Env} {x : Cx} {m : Hd} {w : World}
theorem resK_sound (ht : TTok P x.tt) {s : AS} {a : Act} (hr : StR E x.nt s m a w) : ∀ (l : List ResultVar) (K : List AV → Prop), resK real x.tt s l K →
    ∃ vs avs, (l.mapM (resOne a)).run P w = .ok vs w ∧ RVs m w avs vs ∧ K avs
  | [], K, h => ⟨[], [], rfl, by simp [RVs], h⟩
  | .tmp t :: r, K, h => by
    obtain ⟨vs, avs, h1, h2, h3⟩ := resK_sound ht hr r _ h
    refine ⟨a.tmps.getD t undef :: vs, sget s.sl t :: avs, ?_, ?_, h3⟩
    · rw [List.mapM_cons]
      simp only [resOne, Sem.run_bind, Sem.run_pure, Result.andThen_ok]
      rw [h1]; rfl
    · simp only [RVs]; exact ⟨_, _, rfl, hr.sl t, h2⟩
  | .cell b T :: r, K, h => by
    simp only [resK] at h
    split at h
    · rename_i e he
      obtain ⟨hc, h⟩ := h
      obtain ⟨vs, avs, h1, h2, h3⟩ := resK_sound ht hr r _ h
      obtain ⟨v, g1, g2⟩ := load_sound (P := P) ht hr.base (hr.sl b) he hc
      refine ⟨v :: vs, e.v :: avs, ?_, ?_, h3⟩
      · have g3 : (do loadVar T (← asAddr (a.tmps.getD b undef)) : Sem Value).run P w = .ok v w := by
          unfold Instr.loadAt Instr.sureAddr at g1
          revert g1
          cases a.tmps.getD b undef with
          | pointer p => cases p <;> simp [asAddr, Sem.run_bind]
          | _ => simp [asAddr, Sem.run_bind]
        rw [List.mapM_cons]
        simp only [resOne, Sem.run_bind] at g3 ⊢
        rw [g3]
        simp only [Result.andThen_ok]
        rw [h1]; rfl
      · simp only [RVs]; exact ⟨_, _, rfl, g2.rv, h2⟩
    · exact h.elim
theorem tupAV_sound {avs : List AV} {vs : List Value} (h : RVs m w avs vs) : RV m w (tupAV avs) (if h : vs.toArray.size = 1 then vs.toArray[0] else .tuple vs.toArray) := by
  cases avs with
  | nil =>
    simp only [RVs] at h; subst h
    simp [tupAV, RV, RVs]
  | cons b r =>
    have h0 := h
    simp only [RVs] at h
    obtain ⟨v, q, rfl, h1, h2⟩ := h
    cases r with
    | nil =>
      simp only [RVs] at h2; subst h2
      simpa [tupAV] using h1
    | cons c r2 =>
      simp only [RVs] at h2
      obtain ⟨v2, q2, rfl, h3, h4⟩ := h2
      simp only [tupAV, RV]
      exact ⟨_, by simp, h0⟩
theorem ends_sound (ht : TTok P x.tt) {fn : Func} {K : List AV → AS → Prop} {R : Ending → World → Prop} (hR : ∀ l vs s m w, RVs m w l vs → K l s → StM E s.me s.nk m w → R (.returned (if h : vs.toArray.size = 1 then vs.toArray[0] else .tuple vs.toArray)) w)
    {e : Exit} {a : Act} (h : Post E x.nt (endK real x.tt fn.results.toList K) e a w) : bodyPost P fn R e a w := by
  obtain ⟨y, s, m', rfl, hk, hr⟩ := h
  have key : resK real x.tt s fn.results.toList (fun l => K l s) → a.defers = [] ∧ ∃ v, (results fn a.tmps).run P w = .ok v w ∧ R (.returned v) w := by
    intro hk
    obtain ⟨vs, avs, h1, h2, h3⟩ := resK_sound ht hr _ _ hk
    refine ⟨hr.df, _, ?_, hR avs vs s m' w h2 h3 ⟨hr.mem, hr.bd, hr.nk, hr.fr⟩⟩
    have e1 : results fn a.tmps = (do let vs ← fn.results.mapM (resOne a); pure (if h : vs.size = 1 then vs[0] else .tuple vs)) := by
      unfold results
      have : (fun r : ResultVar => match r with
        | .tmp t => (pure (a.tmps.getD t undef) : Sem Value)
        | .cell b t => do loadVar t (← asAddr (a.tmps.getD b undef))) = resOne a := by funext r; cases r <;> rfl
      rw [← this]
      rfl
    rw [e1]
    rw [Array.mapM_eq_mapM_toList]
    simp only [Sem.run_bind, map_eq_pure_bind]
    rw [h1]
    rfl
  cases y with
  | normal => exact key hk
  | ret => exact key hk
  | exit i => exact hk.elim
theorem llen_eq (l : List AV) : llen l = l.length := by induction l <;> simp_all [llen]
theorem RVs_length : ∀ {l : List AV} {vs : List Value}, RVs m w l vs → vs.length = l.length
  | [], vs, h => by simp only [RVs] at h; subst h; rfl
  | a :: l, vs, h => by
    simp only [RVs] at h
    obtain ⟨v, r, rfl, _, h2⟩ := h
    simp [RVs_length h2]
theorem zipSl_sound {n : Nat} : ∀ (l : List AV) (i : Nat) (pre vs : List Value), RVs m w l vs → pre.length = i → SlR m w (zipSl i l) { tmps := (pre ++ vs).toArray ++ Array.replicate n undef, defers := [] }
  | [], i, pre, vs, h, hi => fun t => by simp [zipSl, sget, RV]
  | b :: l, i, pre, vs, h, hi => fun t => by
    simp only [RVs] at h
    obtain ⟨v, r, rfl, h1, h2⟩ := h
    have ih := zipSl_sound (n := n) l (i + 1) (pre ++ [v]) r h2 (by simp [hi]) t
    simp only [zipSl, sget]
    split
    · rename_i e
      have := beq_nat e; subst this
      have e1 : (((pre ++ v :: r).toArray ++ Array.replicate n undef).getD i undef) = v := by
        rw [Array.getD_eq_getD_getElem?, Array.getElem?_append_left (by simp; omega)]
        simp [← hi]
      rw [e1]; exact h1
    · simpa using ih
theorem entry_sl {args : List AV} {vals : List Value} (h : RVs m w args vals) (n : Nat) : SlR m w (zipSl 0 args) { tmps := vals.toArray ++ Array.replicate n undef, defers := [] } := by
  simpa using zipSl_sound args 0 [] vals h rfl

end
end Go.Vc
set_option linter.unusedVariables false
set_option linter.unusedSimpArgs false
namespace Go.Vc
open Go Go.RowKit

/-! ## Contracts of functions that change nothing that was there -/
mutual
/-- leads to no memory -/
def Sh.plain : Sh → Bool
  | .ss => false
  | .bs => false
  | .sl _ => false
  | .t l => Sh.plains l
  | _ => true
def Sh.plains : List Sh → Bool
  | [] => true
  | a :: l => match a.plain with
    | true => Sh.plains l
    | false => false
end
mutual
/-- no name of memory inside; with 'sh': what lies elsewhere and stays may be led to -/
def AV.nk (sh : Bool) : AV → Bool
  | .i _ => true
  | .w8 _ => true
  | .w16 _ => true
  | .w32 _ => true
  | .w64 _ => true
  | .b _ => true
  | .kb _ => true
  | .s _ => true
  | .ag _ c => AC.nk sh c
  | .nl => true
  | .pn => true
  | .rb _ c => match sh with
    | true => AC.nk sh c
    | false => false
  | .pr a => match sh with
    | true => AV.nk sh a
    | false => false
  | .z => true
  | .mn => true
  | .fv _ l => AL.nk sh l
  | _ => false
def AC.nk (sh : Bool) : AC → Bool
  | .bt _ => true
  | .wh _ => true
  | .wd _ => true
  | .ww _ => true
  | .is _ => true
  | .ss _ => true
  | .vs l => AL.nk sh l
  | .fn _ _ _ => false
  | .ds s _ => match sh with
    | true => true
    | false => s.plain
def AL.nk (sh : Bool) : List AV → Bool
  | [] => true
  | a :: l => match AV.nk sh a with
    | true => AL.nk sh l
    | false => false
end
section
variable {sh : Bool} {m m' : Hd} {w w' : World}
theorem StableAt.move (h : ∀ b, Stable m w b → w'.heap[b]? = w.heap[b]? ∧ Stable m' w' b) {ad : Addr} {ds : List Value} (hs : StableAt m w ad ds) : StableAt m' w' ad ds := by
  obtain ⟨h1, h2⟩ := hs
  obtain ⟨h3, h4⟩ := h _ h1
  refine ⟨h4, fun j x hx => ?_⟩
  rw [← h2 j x hx]
  exact World.cell?_of_block (by rw [add_block]; exact h3)
mutual
theorem DR_move (h : sh = true → ∀ b, Stable m w b → w'.heap[b]? = w.heap[b]? ∧ Stable m' w' b) : ∀ (s : Sh) (d : D) (cs : List Value), (sh = true ∨ s.plain = true) → DR m w s d cs → DR m' w' s d cs
  | .i, d, cs, hn, hc => by simpa only [DR] using hc
  | .w8, d, cs, hn, hc => by simpa only [DR] using hc
  | .w32, d, cs, hn, hc => by simpa only [DR] using hc
  | .w64, d, cs, hn, hc => by simpa only [DR] using hc
  | .b, d, cs, hn, hc => by simpa only [DR] using hc
  | .s, d, cs, hn, hc => by simpa only [DR] using hc
  | .l8 n, d, cs, hn, hc => by simpa only [DR] using hc
  | .ss, d, cs, hn, hc => by
    have hsh : sh = true := by simpa [Sh.plain] using hn
    simp only [DR] at hc ⊢
    obtain ⟨ad, n, cap, ds, h1, h2, h3, h4, h5⟩ := hc
    exact ⟨ad, n, cap, ds, h1, h2, h3, h4, fun hn => let ⟨a, ha, hs⟩ := h5 hn; ⟨a, ha, hs.move (h hsh)⟩⟩
  | .bs, d, cs, hn, hc => by
    have hsh : sh = true := by simpa [Sh.plain] using hn
    simp only [DR] at hc ⊢
    obtain ⟨ad, n, cap, ds, h1, h2, h3, h4, h5⟩ := hc
    exact ⟨ad, n, cap, ds, h1, h2, h3, h4, fun hn => let ⟨a, ha, hs⟩ := h5 hn; ⟨a, ha, hs.move (h hsh)⟩⟩
  | .t l, d, cs, hn, hc => by
    simp only [DR] at hc ⊢
    exact DRs_move h l d 0 cs (hn.imp id (fun h => by simpa only [Sh.plain] using h)) hc
  | .sl s, d, cs, hn, hc => by
    have hsh : sh = true := by simpa [Sh.plain] using hn
    simp only [DR] at hc ⊢
    obtain ⟨ad, n, cap, ds, h1, ⟨css, g1, g2, g3⟩, h3, h4, h5⟩ := hc
    exact ⟨ad, n, cap, ds, h1, ⟨css, g1, g2, fun j x y hx hy => ⟨(g3 j x y hx hy).1, DR_move h s y x (.inl hsh) (g3 j x y hx hy).2⟩⟩, h3, h4, fun hn => let ⟨a, ha, hs⟩ := h5 hn; ⟨a, ha, hs.move (h hsh)⟩⟩
theorem DRs_move (h : sh = true → ∀ b, Stable m w b → w'.heap[b]? = w.heap[b]? ∧ Stable m' w' b) : ∀ (l : List Sh) (d : D) (j : Nat) (cs : List Value), (sh = true ∨ Sh.plains l = true) → DRs m w l d j cs → DRs m' w' l d j cs
  | [], d, j, cs, hn, hc => by simpa only [DRs] using hc
  | a :: l, d, j, cs, hn, hc => by
    simp only [DRs] at hc ⊢
    obtain ⟨c1, c2, h1, h2, h3⟩ := hc
    have hn' : (sh = true ∨ a.plain = true) ∧ (sh = true ∨ Sh.plains l = true) := by
      rcases hn with hn | hn
      · exact ⟨.inl hn, .inl hn⟩
      · simp only [Sh.plains] at hn
        split at hn
        · exact ⟨.inr (by assumption), .inr hn⟩
        · cases hn
    exact ⟨c1, c2, h1, DR_move h a _ c1 hn'.1 h2, DRs_move h l d (j + 1) c2 hn'.2 h3⟩
end
mutual
theorem CR_move (h : sh = true → ∀ b, Stable m w b → w'.heap[b]? = w.heap[b]? ∧ Stable m' w' b) : ∀ (a : AV) (cs : List Value), a.nk sh = true → CR m w a cs → CR m' w' a cs
  | .u, cs, hn, hc => by simp [AV.nk] at hn
  | .i n, cs, hn, hc => by simpa [CR] using hc
  | .w8 x, cs, hn, hc => by simpa [CR] using hc
  | .w16 x, cs, hn, hc => by simpa [CR] using hc
  | .w32 x, cs, hn, hc => by simpa [CR] using hc
  | .w64 x, cs, hn, hc => by simpa [CR] using hc
  | .b x, cs, hn, hc => by simpa [CR] using hc
  | .kb x, cs, hn, hc => by simpa [CR] using hc
  | .s x, cs, hn, hc => by simpa [CR] using hc
  | .ag n c, cs, hn, hc => by simp only [AV.nk] at hn; simp only [CR] at hc ⊢; exact ⟨hc.1, RC_move h c cs hn hc.2⟩
  | .tup l, cs, hn, hc => by simp [AV.nk] at hn
  | .p k g o, cs, hn, hc => by simp [AV.nk] at hn
  | .pe k g o e i, cs, hn, hc => by simp [AV.nk] at hn
  | .pr a, cs, hn, hc => by
    have hsh : sh = true := by cases hq : sh <;> simp [AV.nk, hq] at hn ⊢
    have hn' : a.nk sh = true := by simpa only [AV.nk, hsh] using hn
    simp only [CR] at hc ⊢
    obtain ⟨ad, ds, h1, h2, h3⟩ := hc
    exact ⟨ad, ds, h1, CR_move h a ds hn' h2, h3.move (h hsh)⟩
  | .sl k g o e a n, cs, hn, hc => by simp [AV.nk] at hn
  | .rb e c, cs, hn, hc => by
    have hsh : sh = true := by cases hq : sh <;> simp [AV.nk, hq] at hn ⊢
    have hn' : c.nk sh = true := by simpa only [AV.nk, hsh] using hn
    simp only [CR] at hc ⊢
    obtain ⟨ad, n, cap, ds, h1, h2, h3, h4, h5⟩ := hc
    exact ⟨ad, n, cap, ds, h1, RC_move h c ds hn' h2, h3, h4, fun hn => let ⟨a, ha, hs⟩ := h5 hn; ⟨a, ha, hs.move (h hsh)⟩⟩
  | .rw k, cs, hn, hc => by simp [AV.nk] at hn
  | .nl, cs, hn, hc => by simpa [CR] using hc
  | .pn, cs, hn, hc => by simpa [CR] using hc
  | .z, cs, hn, hc => by simpa [CR] using hc
  | .mn, cs, hn, hc => by simpa [CR] using hc
  | .fv f l, cs, hn, hc => by
    simp only [AV.nk] at hn
    simp only [CR] at hc ⊢
    obtain ⟨vs, h1, h2⟩ := hc
    exact ⟨vs, h1, LR_move h l vs hn h2⟩
  | .cl k, cs, hn, hc => by simp [AV.nk] at hn
  | .mh k, cs, hn, hc => by simp [AV.nk] at hn
  | .pf _ _ _ _ _ _ _, cs, hn, hc => by simp [AV.nk] at hn
theorem RC_move (h : sh = true → ∀ b, Stable m w b → w'.heap[b]? = w.heap[b]? ∧ Stable m' w' b) : ∀ (c : AC) (cs : List Value), c.nk sh = true → RC m w c cs → RC m' w' c cs
  | .bt xs, cs, hn, hc => by simpa [RC] using hc
  | .wh xs, cs, hn, hc => by simpa [RC] using hc
  | .wd xs, cs, hn, hc => by simpa [RC] using hc
  | .ww xs, cs, hn, hc => by simpa [RC] using hc
  | .is xs, cs, hn, hc => by simpa [RC] using hc
  | .ss xs, cs, hn, hc => by simpa [RC] using hc
  | .vs l, cs, hn, hc => by simp only [AC.nk] at hn; simp only [RC] at hc ⊢; exact LR_move h l cs hn hc
  | .fn e n f, cs, hn, hc => by simp [AC.nk] at hn
  | .ds s xs, cs, hn, hc => by
    have hn' : sh = true ∨ s.plain = true := by
      simp only [AC.nk] at hn
      split at hn
      · exact .inl rfl
      · exact .inr hn
    simp only [RC] at hc ⊢
    obtain ⟨css, h1, h2, h3⟩ := hc
    exact ⟨css, h1, h2, fun j x y hx hy => ⟨(h3 j x y hx hy).1, DR_move h s y x hn' (h3 j x y hx hy).2⟩⟩
theorem LR_move (h : sh = true → ∀ b, Stable m w b → w'.heap[b]? = w.heap[b]? ∧ Stable m' w' b) : ∀ (l : List AV) (cs : List Value), AL.nk sh l = true → LR m w l cs → LR m' w' l cs
  | [], cs, hn, hc => by simpa [LR] using hc
  | a :: l, cs, hn, hc => by
    simp only [AL.nk] at hn
    split at hn
    · rename_i ha
      simp only [LR] at hc ⊢
      obtain ⟨c1, c2, h1, h2, h3⟩ := hc
      exact ⟨c1, c2, h1, CR_move h a c1 ha h2, LR_move h l c2 hn h3⟩
    · cases hn
end
theorem RV_move (h : sh = true → ∀ b, Stable m w b → w'.heap[b]? = w.heap[b]? ∧ Stable m' w' b) (a : AV) (v : Value) (hn : a.nk sh = true) (hv : RV m w a v) : RV m' w' a v := by
  cases a with
  | ag n c =>
    simp only [AV.nk] at hn
    simp only [RV] at hv ⊢
    obtain ⟨cs, h1, h2, h3⟩ := hv
    exact ⟨cs, h1, h2, RC_move h c cs hn h3⟩
  | tup l => simp [AV.nk] at hn
  | u => simp [RV]
  | _ => simp only [RV] at hv ⊢; exact CR_move h _ _ hn hv
end

/-- a parameter: as it is; a slice, told by what lies in it -/
inductive PT where
  | keep
  | row (k : EK)
/-- a result: as it is; a new array of the call's own -/
inductive PR where
  | val (a : AV)
  | row (T e : Nat) (c : AC)
def EK.fits : EK → AC → Bool
  | .kB, .bt _ => true
  | .kH, .wh _ => true
  | .kW, .wd _ => true
  | .kQ, .ww _ => true
  | .kI, .is _ => true
  | .kS, .ss _ => true
  | .kD s, .ds s' _ => Sh.beq s s'
  | _, _ => false
def resolve (F : Fs) (sh : Bool) : List PT → List AV → (List AV → Look) → Look
  | [], [], K => K []
  | .keep :: ts, a :: r, K => match a.nk sh with
    | true => resolve F sh ts r fun l => K (a :: l)
    | false => .no
  | .row k :: ts, a :: r, K => match a with
    | .nl => resolve F sh ts r fun l => K (.rb k.esz k.nil :: l)
    | .z => resolve F sh ts r fun l => K (.rb k.esz k.nil :: l)
    | .rb e c => match Nat.beq e k.esz, k.fits c, AC.nk sh c with
      | true, true, true => resolve F sh ts r fun l => K (.rb k.esz c :: l)
      | _, _, _ => .no
    | a => match sh with
      | true => .no
      | false => withContent F a k.esz fun c => match k.fits c, AC.nk sh c with
        | true, true => resolve F sh ts r fun l => K (.rb k.esz c :: l)
        | _, _ => .no
  | _, _, _ => .no
def outs : Nat → List PR → List AV
  | _, [] => []
  | kb, .val a :: r => a :: outs kb r
  | kb, .row _ _ _ :: r => .rw kb :: outs (Nat.succ kb) r
def newRows : Nat → List PR → Mem
  | _, [] => []
  | kb, .val _ :: r => newRows kb r
  | kb, .row T e c :: r => (kb, .row T e c) :: newRows (Nat.succ kb) r
def nRows : List PR → Nat
  | [] => 0
  | .val _ :: r => nRows r
  | .row _ _ _ :: r => Nat.succ (nRows r)
abbrev Law := List AV → Option (Prop × List PR)
def pureSpec (F : Fs) (sh : Bool) (pts : List PT) (g : Law) : Spec := fun args kb =>
  resolve F sh pts args fun l => match g l with
    | some (c, rs) => match Nat.ble (nRows rs) 8 with
      | true => .ret ⟨c, tupAV (outs kb rs), newRows kb rs⟩
      | false => .no
    | none => .no
def lmem (k : Nat) : List Nat → Bool
  | [] => false
  | j :: r => match Nat.beq k j with
    | true => true
    | false => lmem k r
def retM (sh : Bool) (s : AS) : List AV → List PR → List Nat → Prop
  | [], [], _ => True
  | a :: r, .val b :: ps, us => match b.nk sh with
    | true => avLe [] a b ∧ retM sh s r ps us
    | false => False
  | a :: r, .row T e c :: ps, us => match c.nk sh with
    | true => match a with
      | .rw k => match lmem k us with
        | true => False
        | false => match mlook s.me k with
          | some (.row T' e' c') => (Nat.beq T' T = true ∧ Nat.beq e' e = true ∧ acLe [] c' c) ∧ retM sh s r ps (k :: us)
          | _ => False
      | .nl => acNil c ∧ retM sh s r ps us
      | .z => acNil c ∧ retM sh s r ps us
      | _ => False
    | false => False
  | _, _, _ => False
def retOk (F : Fs) (tt : TT) (sh : Bool) (fr : List ResultVar) (rs : List PR) : VX → AS → Prop :=
  endK F tt fr fun l s => retM sh s l rs []

section
variable {P : Program} {sh : Bool} {m : Hd} {w : World} {me : Mem} {kb : Nat}
/-- the callee's start: no name leads anywhere -/
def m0 (sh : Bool) (m : Hd) (w : World) : Hd := ⟨fun _ => none, match sh with
  | true => fun b => Stable m w b ∨ w.heap.size ≤ b
  | false => fun _ => True, fun _ => False⟩
theorem m0_stab (h : sh = true) : ∀ b, Stable m w b → w.heap[b]? = w.heap[b]? ∧ Stable (m0 sh m w) w b := by
  subst h
  exact fun b hb => ⟨rfl, hb.1, .inl hb, .inr fun k v hk => by cases hk⟩
theorem cell_lt {w : World} {a : Addr} {x : Value} (h : w.cell? a = some x) : a.block < w.heap.size := by
  unfold World.cell? at h
  cases hb : w.heap[a.block]? with
  | none => simp [hb] at h
  | some b => exact (Array.getElem?_eq_some_iff.1 hb).1
theorem resolve_sound (hb : Base m w me kb) : ∀ (pts : List PT) (args : List AV) (vals : List Value) (K : List AV → Look) (e : Eff), RVs m w args vals → (resolve real sh pts args K).run me = some e → e.c →
    ∃ l e0, (K l).run me = some e0 ∧ e0.c ∧ e0.v = e.v ∧ e0.puts = e.puts ∧ RVs (m0 sh m w) w l vals
  | [], [], vals, K, e, hv, h, hc => ⟨[], e, h, hc, rfl, rfl, by simpa only [RVs] using hv⟩
  | .keep :: ts, a :: r, vals, K, e, hv, h, hc => by
    simp only [resolve] at h
    split at h
    · rename_i hn
      simp only [RVs] at hv
      obtain ⟨v, q, rfl, h1, h2⟩ := hv
      obtain ⟨l, e0, g1, g2, g3, g4, g5⟩ := resolve_sound hb ts r q _ e h2 h hc
      exact ⟨a :: l, e0, g1, g2, g3, g4, by simp only [RVs]; exact ⟨v, q, rfl, RV_move m0_stab a v hn h1, g5⟩⟩
    · exact (Look.run_no h).elim
  | .row k :: ts, a :: r, vals, K, e, hv, h, hc => by
    simp only [RVs] at hv
    obtain ⟨v, q, rfl, h1, h2⟩ := hv
    have empty : ∀ ad, v = .slice ad 0 0 → RV (m0 sh m w) w (.rb k.esz k.nil) v := by
      rintro ad rfl
      simp only [RV, CR]
      exact ⟨ad, 0, 0, [], rfl, by cases k <;> simp [EK.nil, RC], by simp, by omega, fun h => by omega⟩
    simp only [resolve] at h
    split at h
    · obtain ⟨l, e0, g1, g2, g3, g4, g5⟩ := resolve_sound hb ts r q _ e h2 h hc
      refine ⟨_ :: l, e0, g1, g2, g3, g4, ?_⟩
      simp only [RVs]
      refine ⟨v, q, rfl, ?_, g5⟩
      simp only [RV, CR, List.cons.injEq, and_true] at h1
      exact empty none h1
    · obtain ⟨l, e0, g1, g2, g3, g4, g5⟩ := resolve_sound hb ts r q _ e h2 h hc
      refine ⟨_ :: l, e0, g1, g2, g3, g4, ?_⟩
      simp only [RVs]
      refine ⟨v, q, rfl, ?_, g5⟩
      simp only [RV, CR, List.cons.injEq, and_true] at h1
      obtain ⟨ad, h1⟩ := h1
      exact empty ad h1
    · rename_i e' c
      split at h
      · rename_i he' hf hnk
        have he' := beq_nat he'
        subst he'
        obtain ⟨l, e0, g1, g2, g3, g4, g5⟩ := resolve_sound hb ts r q _ e h2 h hc
        refine ⟨_ :: l, e0, g1, g2, g3, g4, ?_⟩
        simp only [RVs]
        refine ⟨v, q, rfl, ?_, g5⟩
        simp only [RV, CR] at h1 ⊢
        obtain ⟨ad, n, cap, ds, k1, k2, k3, k4, k5⟩ := h1
        refine ⟨ad, n, cap, ds, k1, RC_move m0_stab c ds hnk k2, k3, k4, fun hn => ?_⟩
        obtain ⟨b, hb1, hb2⟩ := k5 hn
        refine ⟨b, hb1, ?_, hb2.2⟩
        by_cases hsh : sh = true
        · exact (m0_stab hsh _ hb2.1).2
        · exact ⟨hb2.1.1, by simp [m0, hsh], .inr fun k v hk => by cases hk⟩
      · exact (Look.run_no h).elim
    · by_cases hsh : sh = true
      · rw [hsh] at h; exact (Look.run_no h).elim
      · have hsh : sh = false := by simpa using hsh
        rw [hsh] at h
        simp only at h
        obtain ⟨c, cs, e1, k1, k2, k3, k4, k5, k6, k6b, k7⟩ := content_sound hb h1 h hc
        split at k1
        · rename_i hf hnk
          have k1 : (resolve real sh ts r fun l => K (.rb k.esz c :: l)).run me = some e1 := by rw [hsh]; exact k1
          obtain ⟨l, e0, g1, g2, g3, g4, g5⟩ := resolve_sound hb ts r q _ e1 h2 k1 k2
          refine ⟨_ :: l, e0, g1, g2, g3.trans k3, g4.trans k4, ?_⟩
          simp only [RVs]
          refine ⟨v, q, rfl, ?_, g5⟩
          obtain ⟨ad, cap, rfl, q1, q2, q3⟩ := k7
          simp only [RV, CR]
          refine ⟨ad, _, cap, cs, rfl, RC_move m0_stab c cs (by rw [hsh]; exact hnk) k5, q1, q2, fun hn => ?_⟩
          obtain ⟨b, rfl, hb2⟩ := q3 hn
          refine ⟨b, rfl, ⟨?_, by simp [m0, hsh], .inr fun k v hk => by cases hk⟩, hb2⟩
          cases cs with
          | nil =>
            have := Nat.mul_pos hn k6b
            simp at q1; omega
          | cons x _ => have := cell_lt (hb2 0 x rfl); rwa [add_block] at this
        · exact (Look.run_no k1).elim
  | [], _ :: _, vals, K, e, hv, h, hc => by simp only [resolve] at h; exact (Look.run_no h).elim
  | .keep :: _, [], vals, K, e, hv, h, hc => by simp only [resolve] at h; exact (Look.run_no h).elim
  | .row _ :: _, [], vals, K, e, hv, h, hc => by simp only [resolve] at h; exact (Look.run_no h).elim
end
end Go.Vc
set_option linter.unusedVariables false
set_option linter.unusedSimpArgs false
namespace Go.Vc
open Go Go.RowKit
section
variable {P : Program} {sh : Bool} {m : Hd} {w : World} {me : Mem} {kb : Nat}
/-- the new arrays: the callee's name, the value, what lies there -/
abbrev NewRow := Option Nat × Value × AB
structure NewOk (m1 mc : Hd) (w1 : World) (sh : Bool) (s : AS) (us : List Nat) (r : NewRow) : Prop where
  row : ∃ T e c n cs, r.2.2 = .row T e c ∧ c.nk sh = true ∧ OwnRow w1 T e r.2.1 n cs ∧ RC mc w1 c cs
  key : (r.1 = none ∧ ∃ ad, r.2.1 = .slice ad 0 0) ∨ ∃ u ab, r.1 = some u ∧ u ∉ us ∧ m1 u = some r.2.1 ∧ mlook s.me u = some ab ∧ ab.live = true
/-- results against what the contract says -/
inductive RetR (m1 mc : Hd) (w1 : World) (sh : Bool) (N : AV → Bool) (s : AS) : List PR → List Value → List NewRow → List Nat → Prop
  | nil (us : List Nat) : RetR m1 mc w1 sh N s [] [] [] us
  | val (b : AV) (v : Value) (ps : List PR) (vs : List Value) (rs : List NewRow) (us : List Nat) : N b = true → RV mc w1 b v → RetR m1 mc w1 sh N s ps vs rs us → RetR m1 mc w1 sh N s (.val b :: ps) (v :: vs) rs us
  | row (T e : Nat) (c : AC) (r : NewRow) (ps : List PR) (vs : List Value) (rs : List NewRow) (us us' : List Nat) : r.2.2 = .row T e c → NewOk m1 mc w1 sh s us r →
      (∀ u, r.1 = some u → u ∈ us') → (∀ u, u ∈ us → u ∈ us') → RetR m1 mc w1 sh N s ps vs rs us' → RetR m1 mc w1 sh N s (.row T e c :: ps) (r.2.1 :: vs) (r :: rs) us
theorem lmem_spec {k : Nat} : ∀ {l : List Nat}, lmem k l = false → k ∉ l
  | [], h => by simp
  | j :: r, h => by
    simp only [lmem] at h
    split at h
    · cases h
    · rename_i hb
      intro hm
      rcases List.mem_cons.1 hm with e | e
      · subst e; simp at hb
      · exact lmem_spec h e
theorem retM_sound {m1 : Hd} {w1 : World} {s : AS} (hm : MemR m1 w1 s.me) : ∀ (l : List AV) (ps : List PR) (us : List Nat) (vs : List Value), retM sh s l ps us → RVs m1 w1 l vs → ∃ rs, RetR m1 m1 w1 sh (AV.nk sh) s ps vs rs us
  | [], [], us, vs, h, hv => by simp only [RVs] at hv; subst hv; exact ⟨[], .nil us⟩
  | a :: r, .val b :: ps, us, vs, h, hv => by
    simp only [RVs] at hv
    obtain ⟨v, q, rfl, h1, h2⟩ := hv
    simp only [retM] at h
    split at h
    · rename_i hn
      obtain ⟨rs, hr⟩ := retM_sound hm r ps us q h.2 h2
      exact ⟨rs, .val b v ps q rs us hn (RV_leG .none a b v h.1 (fun e => by subst e; simp [AV.nk] at hn) h1) hr⟩
    · exact h.elim
  | a :: r, .row T e c :: ps, us, vs, h, hv => by
    simp only [RVs] at hv
    obtain ⟨v, q, rfl, h1, h2⟩ := hv
    simp only [retM] at h
    split at h
    · rename_i hn
      split at h
      · rename_i k
        split at h
        · exact h.elim
        · rename_i hus
          split at h
          · rename_i T' e' c' hl
            obtain ⟨⟨e1, e2, h3⟩, h4⟩ := h
            have e1 := beq_nat e1; have e2 := beq_nat e2; subst e1; subst e2
            obtain ⟨rs, hr⟩ := retM_sound hm r ps (k :: us) q h4 h2
            obtain ⟨v', n, cs, g1, g2, g3⟩ := hm.at_ k _ hl
            simp only [RV, CR] at h1
            obtain ⟨v'', g4, g5, _⟩ := h1
            simp only [List.cons.injEq, and_true] at g5
            subst g5
            rw [g1] at g4; cases g4
            exact ⟨_, .row _ _ c (some k, v, .row T' e' c) ps q rs us (k :: us) rfl ⟨⟨T', e', c, n, cs, rfl, hn, g2, RC_leG .none c' c cs h3 g3⟩, .inr ⟨k, _, rfl, lmem_spec hus, g1, hl, rfl⟩⟩
              (fun u hu => by cases hu; simp) (fun u hu => by simp [hu]) hr⟩
          · exact h.elim
      · obtain ⟨h3, h4⟩ := h
        obtain ⟨rs, hr⟩ := retM_sound hm r ps us q h4 h2
        simp only [RV, CR, List.cons.injEq, and_true] at h1
        subst h1
        exact ⟨_, .row T e c (none, .slice none 0 0, .row T e c) ps q rs us us rfl ⟨⟨T, e, c, 0, [], rfl, hn, ⟨by simp, .inl ⟨none, rfl, rfl⟩⟩, acNil_RC h3⟩, .inl ⟨rfl, none, rfl⟩⟩
          (fun u hu => by cases hu) (fun u hu => hu) hr⟩
      · obtain ⟨h3, h4⟩ := h
        obtain ⟨rs, hr⟩ := retM_sound hm r ps us q h4 h2
        simp only [RV, CR, List.cons.injEq, and_true] at h1
        obtain ⟨ad, h1⟩ := h1
        subst h1
        exact ⟨_, .row T e c (none, .slice ad 0 0, .row T e c) ps q rs us us rfl ⟨⟨T, e, c, 0, [], rfl, hn, ⟨by simp, .inl ⟨ad, rfl, rfl⟩⟩, acNil_RC h3⟩, .inl ⟨rfl, ad, rfl⟩⟩
          (fun u hu => by cases hu) (fun u hu => hu) hr⟩
      · exact h.elim
    · exact h.elim
  | [], _ :: _, us, vs, h, hv => by simp [retM] at h
  | _ :: _, [], us, vs, h, hv => by simp [retM] at h

theorem RetR.len {m1 mc : Hd} {N : AV → Bool} {w1 : World} {s : AS} {ps : List PR} {vs : List Value} {rs : List NewRow} {us : List Nat} (h : RetR m1 mc w1 sh N s ps vs rs us) : rs.length = nRows ps := by
  induction h with
  | nil => rfl
  | val _ _ _ _ _ _ _ _ _ ih => simpa [nRows] using ih
  | row _ _ _ _ _ _ _ _ _ _ _ _ _ _ ih => simp [nRows, ih]
theorem RetR.all {m1 mc : Hd} {N : AV → Bool} {w1 : World} {s : AS} {ps : List PR} {vs : List Value} {rs : List NewRow} {us : List Nat} (h : RetR m1 mc w1 sh N s ps vs rs us) :
    (∀ r ∈ rs, NewOk m1 mc w1 sh s us r) ∧ rs.Pairwise fun a b => ∀ u, a.1 = some u → b.1 ≠ some u := by
  induction h with
  | nil => simp
  | val _ _ _ _ _ _ _ _ _ ih => exact ih
  | row T e c r ps vs rs us us' h1 h2 h3 h4 _ ih =>
    refine ⟨fun q hq => ?_, List.pairwise_cons.2 ⟨fun q hq u hu hu' => ?_, ih.2⟩⟩
    · rcases List.mem_cons.1 hq with rfl | hq
      · exact h2
      · obtain ⟨g1, g2⟩ := ih.1 q hq
        exact ⟨g1, g2.imp id fun ⟨u, ab, k1, k2, k3⟩ => ⟨u, ab, k1, fun hm => k2 (h4 u hm), k3⟩⟩
    · rcases (ih.1 q hq).key with ⟨g1, _⟩ | ⟨u', ab, k1, k2, k3⟩
      · rw [g1] at hu'; cases hu'
      · rw [k1] at hu'; cases hu'
        exact k2 (h3 u hu)

/-- the caller's names behind the call -/
def mNew (m : Hd) (kb : Nat) (pb : Nat → Prop) (rs : List NewRow) : Hd := ⟨fun t => if kb ≤ t ∧ t < kb + rs.length then (rs[t - kb]?).map (·.2.1) else m t, m.ok, pb⟩
theorem mNew_in {pb : Nat → Prop} {rs : List NewRow} {i : Nat} {r : NewRow} (h : rs[i]? = some r) : (mNew m kb pb rs) (kb + i) = some r.2.1 := by
  have hi := (List.getElem?_eq_some_iff.1 h).1
  show (if kb ≤ kb + i ∧ kb + i < kb + rs.length then _ else _) = _
  rw [if_pos ⟨by omega, by omega⟩]
  simp [h]
theorem mNew_cases {pb : Nat → Prop} {rs : List NewRow} {t : Nat} {v : Value} (h : (mNew m kb pb rs) t = some v) : (∃ i r, t = kb + i ∧ rs[i]? = some r ∧ v = r.2.1) ∨ (¬ (kb ≤ t ∧ t < kb + rs.length) ∧ m t = some v) := by
  have h' : (if kb ≤ t ∧ t < kb + rs.length then (rs[t - kb]?).map (·.2.1) else m t) = some v := h
  split at h'
  · rename_i hi
    cases hr : rs[t - kb]? with
    | none => rw [hr] at h'; cases h'
    | some r => rw [hr] at h'; cases h'; exact .inl ⟨t - kb, r, by omega, hr, rfl⟩
  · rename_i hi
    exact .inr ⟨hi, h'⟩
theorem mlook_new : ∀ (ps : List PR) (vs : List Value) (rs : List NewRow) (us : List Nat) (m1 mc : Hd) (N : AV → Bool) (w1 : World) (s : AS) (kb t : Nat), RetR m1 mc w1 sh N s ps vs rs us →
    mlook (mputs (newRows kb ps) me) t = if kb ≤ t ∧ t < kb + rs.length then (rs[t - kb]?).map (·.2.2) else mlook me t := by
  intro ps vs rs us m1 mc N w1 s kb t h
  induction h generalizing kb with
  | nil => simp [newRows, mputs]; omega
  | val _ _ _ _ _ _ _ _ _ ih => exact ih kb
  | row T e c r ps vs rs us us' h1 h2 h3 h4 _ ih =>
    simp only [newRows, mputs]
    rw [mlook_cons]
    by_cases e1 : kb = t
    · subst e1
      simp [h1]
    · rw [if_neg e1, ih (kb + 1)]
      by_cases e2 : kb + 1 ≤ t ∧ t < kb + 1 + rs.length
      · rw [if_pos e2, if_pos (by simp; omega)]
        have e3 : t - kb = (t - (kb + 1)) + 1 := by omega
        rw [e3]; simp
      · rw [if_neg e2, if_neg (by simp; omega)]
theorem outs_sound {m1 mc : Hd} {N : AV → Bool} {w1 : World} {s : AS} {m' : Hd} (hmv : ∀ b v, N b = true → RV mc w1 b v → RV m' w1 b v) :
    ∀ (ps : List PR) (vs : List Value) (rs : List NewRow) (us : List Nat) (kb : Nat), RetR m1 mc w1 sh N s ps vs rs us → (∀ i r, rs[i]? = some r → m' (kb + i) = some r.2.1) → RVs m' w1 (outs kb ps) vs := by
  intro ps vs rs us kb h
  induction h generalizing kb with
  | nil => intro _; simp [outs, RVs]
  | val b v ps vs rs us h1 h2 _ ih =>
    intro hm
    simp only [outs, RVs]
    exact ⟨v, vs, rfl, hmv b v h1 h2, ih kb hm⟩
  | row T e c r ps vs rs us us' h1 h2 h3 h4 _ ih =>
    intro hm
    simp only [outs, RVs]
    refine ⟨r.2.1, vs, rfl, ?_, ih (kb + 1) fun i q hq => ?_⟩
    · simp only [RV, CR]
      refine ⟨_, by simpa using hm 0 r (by simp), rfl, ?_⟩
      obtain ⟨_, _, _, _, _, _, _, ho, _⟩ := h2.row
      rcases ho.2 with ⟨_, e, _⟩ | ⟨_, _, _, _, _, e, _⟩ <;> rw [e] <;> rfl
    · have := hm (i + 1) q (by simpa using hq)
      rw [← this]; congr 1; omega
end
end Go.Vc
set_option linter.unusedVariables false
set_option linter.unusedSimpArgs false
namespace Go.Vc
open Go Go.RowKit
section
variable {P : Program} {sh : Bool} {m : Hd} {w : World} {me : Mem} {kb : Nat}
theorem ret_ok {m1 : Hd} {w1 : World} {s : AS} {ps : List PR} {vs : List Value} {rs : List NewRow} {nk : Nat} (hb : Base m w me kb) (h3 : StM ⟨w, [], (m0 sh m w).ok, none, [], fun _ => False⟩ s.me nk m1 w1)
    (hr : RetR m1 m1 w1 sh (AV.nk sh) s ps vs rs []) (hn : nRows ps ≤ 8) :
    ∃ m', OkE m w me kb (tupAV (outs kb ps)) (newRows kb ps) (if h : vs.toArray.size = 1 then vs.toArray[0] else .tuple vs.toArray) m' w1 := by
  have hlen := hr.len
  obtain ⟨hall, hpw⟩ := hr.all
  have hnew : ∀ r ∈ rs, ∀ b, blk r.2.1 = some b → w.heap.size ≤ b ∧ ∃ u ab, r.1 = some u ∧ m1 u = some r.2.1 ∧ mlook s.me u = some ab ∧ ab.live = true := by
    intro r hr b hbk
    rcases (hall r hr).key with ⟨_, ad, h2⟩ | ⟨u, ab, h1, _, h2, h4, h5⟩
    · rw [h2, blk_slice0] at hbk; cases hbk
    · rcases h3.fr.own u _ b h2 hbk with h6 | h6
      · exact ⟨h6, u, ab, h1, h2, h4, h5⟩
      · simp at h6
  have hpbn : ∀ b, m1.pub b → w.heap.size ≤ b := fun b hp => by
    rcases Nat.lt_or_ge b w.heap.size with h | h
    · exact (h3.fr.pub b hp h (by simp)).elim
    · exact h
  let pb : Nat → Prop := fun b => m.pub b ∨ m1.pub b
  have tr : Tr m w (mNew m kb pb rs) w1 := by
    refine ⟨fun k v hk => ?_, rfl, fun b h => .inl h, fun b h => h.imp id (fun h => .inr (hpbn b h)), h3.fr.size, fun b hb' _ => h3.fr.block b hb' (by simp), fun k v b hk hv => ?_, h3.fr.os, h3.fr.tape, h3.fr.output⟩
    · show (if kb ≤ k ∧ k < kb + rs.length then _ else _) = _
      rw [if_neg]
      · exact hk
      · rintro ⟨h1, h2⟩
        rw [hb.fresh k h1 (by omega)] at hk; cases hk
    · rcases mNew_cases hk with ⟨i, r, rfl, hi, rfl⟩ | ⟨_, hk⟩
      · exact .inr (hnew r (List.mem_of_getElem? hi) b hv).1
      · exact .inl ⟨k, v, hk, hv⟩
  have hmv : sh = true → ∀ b, Stable m1 w1 b → w1.heap[b]? = w1.heap[b]? ∧ Stable (mNew m kb pb rs) w1 b := by
    intro hsh b hs
    have h1 : Stable m w b ∨ w.heap.size ≤ b := by
      have := hs.2.1
      have h2 : m1.ok = (m0 sh m w).ok := h3.fr.ok
      rw [h2] at this
      simpa [m0, hsh] using this
    rcases h1 with h1 | h1
    · exact ⟨rfl, (tr.pres.stab b h1).2⟩
    · refine ⟨rfl, hs.1, hb.mem.okn b h1, ?_⟩
      rcases hs.2.2 with hp | hn
      · exact .inl (.inr hp)
      · refine .inr fun k v hk hv => ?_
        rcases mNew_cases hk with ⟨i, r, rfl, hi, rfl⟩ | ⟨_, hk0⟩
        · obtain ⟨_, u, _, _, k2, _⟩ := hnew r (List.mem_of_getElem? hi) b hv
          exact hn u _ k2 hv
        · have := hb.bd k v b hk0 hv; omega
  have hml := fun t => mlook_new (me := me) ps vs rs [] m1 _ _ w1 s kb t hr
  refine ⟨mNew m kb pb rs, tr, tupAV_sound (outs_sound (fun b v h1 h2 => RV_move hmv b v h1 h2) ps vs rs [] kb hr fun i r hi => mNew_in hi), ⟨fun t ab hab => ?_, fun t t' ab ab' v v' b hab hab' hl hl' hne hv hv' hbk => ?_, fun b hp => hp.elim (fun h => Nat.lt_of_lt_of_le (hb.mem.pubs b h) h3.fr.size) (h3.mem.pubs b), fun t ab v b hab hl hv hbk hp => ?_, fun t ab v b hab hl hv hbk => ?_, fun b h => hb.mem.okn b (Nat.le_trans h3.fr.size h)⟩, fun k hk => ?_, fun k v b hk hv => ?_⟩
  · rw [hml] at hab
    split at hab
    · rename_i hin
      cases hq : rs[t - kb]? with
      | none => rw [hq] at hab; cases hab
      | some r =>
        rw [hq] at hab; cases hab
        obtain ⟨T, e, c, n, cs, h1, h2, h4, h5⟩ := (hall r (List.mem_of_getElem? hq)).row
        show ABR _ _ _ r.2.2
        rw [h1]
        have := mNew_in (m := m) (kb := kb) (pb := pb) hq
        rw [show kb + (t - kb) = t by omega] at this
        exact ⟨r.2.1, n, cs, this, h4, RC_move hmv c cs h2 h5⟩
    · exact ABR_keep (hb.mem.at_ t ab hab) (tr.mu t) (fun v b hv hbk => h3.fr.block b (hb.bd t v b hv hbk) (by simp)) tr.pres
  · rw [hml] at hab hab'
    rcases mNew_cases hv with ⟨i, r, rfl, hi, rfl⟩ | ⟨ho, hv0⟩ <;> rcases mNew_cases hv' with ⟨j, q, rfl, hj, rfl⟩ | ⟨ho', hv0'⟩
    · obtain ⟨_, u, au, k1, k2, k3, k4⟩ := hnew r (List.mem_of_getElem? hi) b hbk
      intro hbq
      obtain ⟨_, u', au', k1', k2', k3', k4'⟩ := hnew q (List.mem_of_getElem? hj) b hbq
      have hij : i ≠ j := fun e => hne (by rw [e])
      have hu : u ≠ u' := by
        rcases Nat.lt_or_gt_of_ne hij with h | h
        · have := List.pairwise_iff_getElem.1 hpw i j (List.getElem?_eq_some_iff.1 hi).1 (List.getElem?_eq_some_iff.1 hj).1 h
          rw [(List.getElem?_eq_some_iff.1 hi).2, (List.getElem?_eq_some_iff.1 hj).2] at this
          intro e; exact this u k1 (by rw [k1', e])
        · have := List.pairwise_iff_getElem.1 hpw j i (List.getElem?_eq_some_iff.1 hj).1 (List.getElem?_eq_some_iff.1 hi).1 h
          rw [(List.getElem?_eq_some_iff.1 hi).2, (List.getElem?_eq_some_iff.1 hj).2] at this
          intro e; exact this u' k1' (by rw [k1, e])
      exact h3.mem.apart u u' au au' _ _ b k3 k3' k4 k4' hu k2 k2' hbk hbq
    · have h1 := (hnew r (List.mem_of_getElem? hi) b hbk).1
      intro hbq
      have h2 := hb.bd t' v' b hv0' hbq
      omega
    · intro hbq
      have h1 := (hnew q (List.mem_of_getElem? hj) b hbq).1
      have h2 := hb.bd t v b hv0 hbk
      omega
    · rw [if_neg ho] at hab
      rw [if_neg ho'] at hab'
      exact hb.mem.apart t t' ab ab' v v' b hab hab' hl hl' hne hv0 hv0' hbk
  · rw [hml] at hab
    rcases mNew_cases hv with ⟨i, r, rfl, hi, rfl⟩ | ⟨ho, hv0⟩
    · obtain ⟨hge, u, au, k1, k2, k3, k4⟩ := hnew r (List.mem_of_getElem? hi) b hbk
      rcases hp with hp | hp
      · have := hb.mem.pubs b hp; omega
      · exact h3.mem.live u au _ b k3 k4 k2 hbk hp
    · rw [if_neg ho] at hab
      rcases hp with hp | hp
      · exact hb.mem.live t ab v b hab hl hv0 hbk hp
      · have := hpbn b hp
        have := hb.bd t v b hv0 hbk
        omega
  · rw [hml] at hab
    rcases mNew_cases hv with ⟨i, r, rfl, hi, rfl⟩ | ⟨ho, hv0⟩
    · exact hb.mem.okn b (hnew r (List.mem_of_getElem? hi) b hbk).1
    · rw [if_neg ho] at hab
      exact hb.mem.okl t ab v b hab hl hv0 hbk
  · cases hq : (mNew m kb pb rs) k with
    | none => exact absurd hq hk
    | some v =>
      rcases mNew_cases hq with ⟨i, r, rfl, hi, rfl⟩ | ⟨_, hv⟩
      · have := (List.getElem?_eq_some_iff.1 hi).1
        exact .inr ⟨by omega, by omega⟩
      · exact .inl (by rw [hv]; simp)
  · rcases mNew_cases hk with ⟨i, r, rfl, hi, rfl⟩ | ⟨_, hk⟩
    · obtain ⟨_, u, _, _, k2, _⟩ := hnew r (List.mem_of_getElem? hi) b hv
      exact h3.bd u _ b k2 hv
    · exact Nat.lt_of_lt_of_le (hb.bd k v b hk hv) h3.fr.size

/-- a function that changes nothing that was there: from the conditions of its code, its contract -/
theorem pure_sound {x : Cx} (hx : XOK P x) (hmx : P.follows .mixedOrders = true) {f : Nat} {fn : Func} {body : Code} (hf : P.funcs[f]? = some fn) (hbd : fn.body = some body) (hn : fn.ntmps = x.nt) (hdr : drawsOk x.tt x.dr body = true) {pts : List PT} {g : Law}
    (h : ∀ l c rs, g l = some (c, rs) → c → llen l ≤ x.nt ∧ ∃ an cu, vc real x an cu body ⟨zipSl 0 l, [], 64⟩ (retOk real x.tt sh fn.results.toList rs)) : SpecOK P f (pureSpec real sh pts g) := by
  intro m w me kb args vals e hgi hb hv he hc
  obtain ⟨l, e0, h1, h2, h3, h4, h5⟩ := resolve_sound hb pts args vals _ e hv he hc
  split at h1
  · rename_i c rs hg
    split at h1
    · rename_i hle
      simp only [Look.run, Option.some.injEq] at h1
      subst h1
      obtain ⟨hl, an, cu, hvc⟩ := h l c rs hg h2
      have hlen := RVs_length h5
      rw [llen_eq] at hl
      let E : Env := ⟨w, [], (m0 sh m w).ok, none, [], fun _ => False⟩
      have hokn : ∀ b, w.heap.size ≤ b → (m0 sh m w).ok b := fun b h => by
        cases hs : sh
        · simp [m0]
        · simp only [m0]; exact .inr h
      have hE : GE P E := hgi.ge rfl (fun b h => by
        show (m0 sh m w).ok b
        cases hs : sh
        · simp [m0]
        · simp only [m0]; exact .inl h) (fun b _ h => by cases h)
      have hr : StR E x.nt ⟨zipSl 0 l, [], 64⟩ (m0 sh m w) { tmps := vals.toArray ++ Array.replicate (fn.ntmps - vals.toArray.size) undef, defers := [] } w :=
        ⟨entry_sl h5 _, ⟨fun k ab h => (by simp [mlook] at h), fun k k' ab ab' v v' b h => (by simp [mlook] at h), fun b h => h.elim, fun k ab v b h => (by simp [mlook] at h), fun k ab v b h => (by simp [mlook] at h), hokn⟩, fun k v b hk => (by cases hk), fun k _ => rfl, (by simp; omega), rfl,
          ⟨rfl, rfl, rfl, Nat.le_refl _, rfl, fun _ _ _ => rfl, fun k v b hk => (by cases hk), fun m0 w1 he => (by cases he), fun j v hj => (by cases hj), fun b h => h.elim, fun b h => h.elim⟩⟩
      refine calls_of_wp hf hbd (code_mono (vc_sound hx hE (fun j v hj => (by cases hj)) (.inl rfl) hmx body _ _ hdr hvc _ _ w hr) ?_)
      intro en a w' hp
      refine ends_sound hx.tt (fun l vs s' m1 w1 k1 k2 k3 => ?_) hp
      obtain ⟨rws, hrr⟩ := retM_sound k3.mem l rs [] vs k2 k1
      refine ⟨_, rfl, ?_⟩
      rw [← h3, ← h4]
      exact ret_ok hb k3 hrr (Nat.le_of_ble_eq_true hle)
    · exact (Look.run_no h1).elim
  · exact (Look.run_no h1).elim
end
end Go.Vc
set_option linter.unusedVariables false
set_option linter.unusedSimpArgs false
namespace Go.Vc
open Go Go.RowKit
section
variable {P : Program} {T : Nat}
/-- what the program's table has of a type: size, bytes, zero value -/
def facts (P : Program) (T : Nat) : Option (Nat × Nat × Option Value) := (P.info? T).map fun i => (i.size, i.bytes, i.zero)
theorem facts_info {s b : Nat} {z : Value} (h : facts P T = some (s, b, some z)) : ∃ i, P.info? T = some i ∧ i.size = s ∧ i.bytes = b ∧ i.zero = some z := by
  unfold facts at h
  cases hi : P.info? T with
  | none => rw [hi] at h; cases h
  | some i => rw [hi] at h; simp only [Option.map_some, Option.some.injEq, Prod.mk.injEq] at h; exact ⟨i, rfl, h⟩
theorem TIok.one {d : TypeDesc} {k : TK} {b : Nat} {z : Value} {a : AV} {ek : Option EK} (hu : P.underlying T = some d) (hd : aggD d = false) (hk : TKok P T k) (hf : facts P T = some (1, b, some z)) (hz : z.cells = #[z]) (ho : z.oneCell' = true)
    (ha : ∀ m w, CR m w a [z]) (he : ∀ q, ek = some q → q.esz = 1 ∧ ∀ m w n, RC m w (q.rep real n) (List.replicate n z)) : TIok P T ⟨k, 1, b, .one a, ek⟩ := by
  obtain ⟨i, h1, h2, h3, h4⟩ := facts_info hf
  have hflat : ∀ n, (List.replicate n [z]).flatten = List.replicate n z := fun n => by
    induction n with
    | zero => rfl
    | succ n ih => rw [List.replicate_succ, List.flatten_cons, ih, List.replicate_succ]; rfl
  refine ⟨fun fs h => (by obtain ⟨gs, h1, _⟩ : TKok P T (.st fs) := h ▸ hk; rw [hu] at h1; cases h1; cases hd), fun fs lays h1 h2 => (by cases h2), hk, by rw [hu]; simp [hd, Lay.isAgg], rfl, i, z, h1, h2, h3, h4, by rw [hz]; rfl, fun m w => ?_, fun q hq => ⟨(he q hq).1, by rw [hz]; simpa using ho, fun m w n => by rw [hz]; show RC m w _ (List.replicate n [z]).flatten; rw [hflat]; exact (he q hq).2 m w n⟩⟩
  rw [hz]
  simp only [Lay.segs, SegsR]
  refine ⟨[z], [], rfl, rfl, ?_, rfl⟩
  simp only [RC, LR]
  exact ⟨[z], [], rfl, ha m w, rfl⟩
theorem ti_i64 (hu : P.underlying T = some (.int .i64)) (hf : facts P T = some (1, 8, some (.int .i64 0))) : TIok P T ⟨.int .i64, 1, 8, .one (.i 0), some .kI⟩ :=
  .one hu rfl hu hf rfl rfl (fun m w => by simp [CR]) (fun q hq => by cases hq; exact ⟨rfl, fun m w n => by simp [EK.rep, RC, real, List.map_replicate]⟩)
theorem ti_u8 (hu : P.underlying T = some (.int .u8)) (hf : facts P T = some (1, 1, some (.int .u8 0))) : TIok P T ⟨.int .u8, 1, 1, .one (.w8 (real.ofI8 0)), some .kB⟩ :=
  .one hu rfl hu hf rfl rfl (fun m w => by simp [CR, real]) (fun q hq => by cases hq; exact ⟨rfl, fun m w n => by simp [EK.rep, RC, real, List.map_replicate]⟩)
theorem ti_u16 (hu : P.underlying T = some (.int .u16)) (hf : facts P T = some (1, 2, some (.int .u16 0))) : TIok P T ⟨.int .u16, 1, 2, .one (.w16 (real.ofI16 0)), some .kH⟩ :=
  .one hu rfl hu hf rfl rfl (fun m w => by simp [CR, real]) (fun q hq => by cases hq; exact ⟨rfl, fun m w n => by simp [EK.rep, RC, real, List.map_replicate]⟩)
theorem ti_u32 (hu : P.underlying T = some (.int .u32)) (hf : facts P T = some (1, 4, some (.int .u32 0))) : TIok P T ⟨.int .u32, 1, 4, .one (.w32 (real.ofI32 0)), some .kW⟩ :=
  .one hu rfl hu hf rfl rfl (fun m w => by simp [CR, real]) (fun q hq => by cases hq; exact ⟨rfl, fun m w n => by simp [EK.rep, RC, real, List.map_replicate]⟩)
theorem ti_u64 (hu : P.underlying T = some (.int .u64)) (hf : facts P T = some (1, 8, some (.int .u64 0))) : TIok P T ⟨.int .u64, 1, 8, .one (.w64 (real.ofI64 0)), some .kQ⟩ :=
  .one hu rfl hu hf rfl rfl (fun m w => by simp [CR, real]) (fun q hq => by cases hq; exact ⟨rfl, fun m w n => by simp [EK.rep, RC, real, List.map_replicate]⟩)
theorem ti_bool (hu : P.underlying T = some .bool) (hf : facts P T = some (1, 1, some (.bool false))) : TIok P T ⟨.bool, 1, 1, .one (.b false), none⟩ :=
  .one hu rfl hu hf rfl rfl (fun m w => by simp [CR]) (fun q hq => by cases hq)
theorem ti_str (hu : P.underlying T = some .string) (hf : facts P T = some (1, 16, some (.string ⟨#[]⟩))) : TIok P T ⟨.str, 1, 16, .one (.s []), some .kS⟩ :=
  .one hu rfl hu hf rfl rfl (fun m w => by simp [CR]) (fun q hq => by cases hq; exact ⟨rfl, fun m w n => by simp [EK.rep, RC, real, List.map_replicate]⟩)
theorem ti_slice {e : Nat} (hu : P.underlying T = some (.slice e)) (hf : facts P T = some (1, 24, some (.slice none 0 0))) : TIok P T ⟨.slice e, 1, 24, .one .nl, none⟩ :=
  .one hu rfl hu hf rfl rfl (fun m w => by simp [CR]) (fun q hq => by cases hq)
theorem ti_ptr {e : Nat} (hu : P.underlying T = some (.pointer e)) (hf : facts P T = some (1, 8, some (.pointer none))) : TIok P T ⟨.ptr e, 1, 8, .one .pn, none⟩ :=
  .one hu rfl hu hf rfl rfl (fun m w => by simp [CR]) (fun q hq => by cases hq)
/-- arrays of numbers, of texts -/
def EK.zero : EK → Value
  | .kB => .int .u8 0
  | .kH => .int .u16 0
  | .kW => .int .u32 0
  | .kQ => .int .u64 0
  | .kI => .int .i64 0
  | .kS => .string ⟨#[]⟩
  | .kD _ => .nilFunc
theorem rep_RC (q : EK) (hq : ∀ sh, q ≠ .kD sh) (m : Hd) (w : World) (n : Nat) : RC m w (q.rep real n) (List.replicate n q.zero) := by
  cases q <;> first | exact absurd rfl (hq _) | simp [EK.rep, EK.zero, RC, real, List.map_replicate]
/-- what lies in cells of nought -/
def zc1 : AV → Option Value
  | .i n => some (.int .i64 n)
  | .w8 x => some (E8 x)
  | .w16 x => some (E16 x)
  | .w32 x => some (E32 x)
  | .w64 x => some (E64 x)
  | .b x => some (.bool x)
  | .s x => some (ES x)
  | .nl => some (.slice none 0 0)
  | .pn => some (.pointer none)
  | .mn => some (.map none)
  | _ => none
theorem zc1_CR {m : Hd} {w : World} {a : AV} {v : Value} (h : zc1 a = some v) : CR m w a [v] := by
  cases a <;> simp only [zc1, Option.some.injEq, reduceCtorEq] at h <;> subst h <;> simp [CR]
def zcA : AC → Option (List Value)
  | .bt xs => some (xs.map E8)
  | .wh xs => some (xs.map E16)
  | .wd xs => some (xs.map E32)
  | .ww xs => some (xs.map E64)
  | .is xs => some (xs.map EI)
  | .ss xs => some (xs.map ES)
  | _ => none
theorem zcA_RC {m : Hd} {w : World} {a : AC} {v : List Value} (h : zcA a = some v) : RC m w a v := by
  cases a <;> simp only [zcA, Option.some.injEq, reduceCtorEq] at h <;> subst h <;> simp [RC]
mutual
def Lay.zc : Lay → Option (List Value)
  | .one a => (zc1 a).map fun v => [v]
  | .arr n c => match zcA c with
    | some l => if l.length = n then some l else none
    | none => none
  | .st l => lzc l
def lzc : List Lay → Option (List Value)
  | [] => some []
  | a :: r => match a.zc, lzc r with
    | some x, some y => some (x ++ y)
    | _, _ => none
end
theorem SegsR_append {m : Hd} {w : World} : ∀ {s t : List Seg} {x y : List Value}, SegsR m w s x → SegsR m w t y → SegsR m w (s ++ t) (x ++ y)
  | [], t, x, y, hs, ht => by
    simp only [SegsR] at hs
    subst hs
    exact ht
  | (n, c) :: s, t, x, y, hs, ht => by
    simp only [SegsR, List.cons_append] at hs ⊢
    obtain ⟨d, r, rfl, h1, h2, h3⟩ := hs
    exact ⟨d, r ++ y, by simp, h1, h2, SegsR_append h3 ht⟩
mutual
theorem zc_SegsR {m : Hd} {w : World} : ∀ (l : Lay) {x : List Value}, l.zc = some x → SegsR m w l.segs x
  | .one a, x, h => by
    simp only [Lay.zc, Option.map_eq_some_iff] at h
    obtain ⟨v, h1, rfl⟩ := h
    simp only [Lay.segs, SegsR]
    refine ⟨[v], [], rfl, rfl, ?_, rfl⟩
    simp only [RC, LR]
    exact ⟨[v], [], rfl, zc1_CR h1, rfl⟩
  | .arr n c, x, h => by
    simp only [Lay.zc] at h
    split at h
    · rename_i l hl
      split at h
      · rename_i hn
        cases h
        simp only [Lay.segs, SegsR]
        exact ⟨_, [], (List.append_nil _).symm, hn, zcA_RC hl, rfl⟩
      · cases h
    · cases h
  | .st l, x, h => by
    simp only [Lay.zc, Lay.segs] at h ⊢
    exact lzc_SegsR l h
theorem lzc_SegsR {m : Hd} {w : World} : ∀ (l : List Lay) {x : List Value}, lzc l = some x → SegsR m w (lsegs l) x
  | [], x, h => by
    simp only [lzc, Option.some.injEq] at h
    subst h
    simp only [lsegs, SegsR]
  | a :: r, x, h => by
    simp only [lzc] at h
    split at h
    · rename_i u v h1 h2
      cases h
      simp only [lsegs]
      exact SegsR_append (zc_SegsR a h1) (lzc_SegsR r h2)
    · cases h
end
mutual
def Sh.zc : Sh → List Value
  | .i => [.int .i64 0]
  | .w8 => [.int .u8 0]
  | .w32 => [.int .u32 0]
  | .w64 => [.int .u64 0]
  | .b => [.bool false]
  | .s => [.string ⟨#[]⟩]
  | .l8 n => List.replicate n (.int .u8 0)
  | .ss => [.slice none 0 0]
  | .bs => [.slice none 0 0]
  | .t l => Sh.lzc l
  | .sl _ => [.slice none 0 0]
def Sh.lzc : List Sh → List Value
  | [] => []
  | a :: l => a.zc ++ Sh.lzc l
end
theorem zeros_get : ∀ (l : List Sh) (j : Nat), (Sh.zeros l)[j]? = l[j]?.map Sh.zero
  | [], j => by simp [Sh.zeros]
  | a :: l, 0 => by simp [Sh.zeros]
  | a :: l, j + 1 => by simp [Sh.zeros, zeros_get l j]
mutual
theorem DR_zero {m : Hd} {w : World} : ∀ (sh : Sh), DR m w sh sh.zero sh.zc
  | .i => by simp [DR, Sh.zero, Sh.zc, D.gi]
  | .w8 => by simp [DR, Sh.zero, Sh.zc, D.g8]
  | .w32 => by simp [DR, Sh.zero, Sh.zc, D.g32]
  | .w64 => by simp [DR, Sh.zero, Sh.zc, D.g64]
  | .b => by simp [DR, Sh.zero, Sh.zc, D.gb]
  | .s => by simp [DR, Sh.zero, Sh.zc, D.gs]
  | .l8 n => by simp [DR, Sh.zero, Sh.zc, D.gl8, E8]
  | .ss => by
    simp only [DR, Sh.zero, Sh.zc]
    exact ⟨none, 0, 0, [], rfl, by simp [D.gss], rfl, Nat.le_refl _, fun h => by omega⟩
  | .bs => by
    simp only [DR, Sh.zero, Sh.zc]
    exact ⟨none, 0, 0, [], rfl, by simp [D.gl8], rfl, Nat.le_refl _, fun h => by omega⟩
  | .sl sh => by
    simp only [DR, Sh.zero, Sh.zc]
    exact ⟨none, 0, 0, [], rfl, ⟨[], by simp [D.gt], rfl, fun j x y h => by simp at h⟩, by simp, Nat.le_refl _, fun h => by omega⟩
  | .t l => by
    simp only [DR, Sh.zero, Sh.zc]
    exact DRs_zero l _ 0 (fun j sh hj => by simp [D.fld, D.gt, List.getD_eq_getElem?_getD, zeros_get, hj])
theorem DRs_zero {m : Hd} {w : World} : ∀ (l : List Sh) (d : D) (j : Nat), (∀ i sh, l[i]? = some sh → d.fld (j + i) = sh.zero) → DRs m w l d j (Sh.lzc l)
  | [], d, j, h => by simp [DRs, Sh.lzc]
  | a :: l, d, j, h => by
    simp only [DRs, Sh.lzc]
    refine ⟨a.zc, Sh.lzc l, rfl, ?_, DRs_zero l d (j + 1) (fun i sh hi => ?_)⟩
    · have := h 0 a (by simp)
      rw [Nat.add_zero] at this
      rw [this]
      exact DR_zero a
    · have := h (i + 1) sh (by simpa using hi)
      rw [← this]
      congr 1
      omega
end
mutual
theorem zc_len : ∀ (sh : Sh), sh.zc.length = sh.cells
  | .i => rfl
  | .w8 => rfl
  | .w32 => rfl
  | .w64 => rfl
  | .b => rfl
  | .s => rfl
  | .l8 n => by simp [Sh.zc, Sh.cells]
  | .ss => rfl
  | .bs => rfl
  | .sl sh => rfl
  | .t l => by simp only [Sh.zc, Sh.cells]; exact lzc_len l
theorem lzc_len : ∀ (l : List Sh), (Sh.lzc l).length = Sh.lcells l
  | [] => rfl
  | a :: l => by simp [Sh.lzc, Sh.lcells, zc_len a, lzc_len l]
end
theorem kD_RC {m : Hd} {w : World} (sh : Sh) (n : Nat) : RC m w ((EK.kD sh).rep real n) (List.replicate n sh.zc).flatten := by
  show RC m w (.ds sh (List.replicate n sh.zero)) _
  simp only [RC]
  refine ⟨List.replicate n sh.zc, by simp, rfl, fun j x y hx hy => ?_⟩
  obtain ⟨_, rfl⟩ := List.getElem?_eq_some_iff.1 hx
  obtain ⟨_, rfl⟩ := List.getElem?_eq_some_iff.1 hy
  simp only [List.getElem_replicate]
  exact ⟨zc_len sh, DR_zero sh⟩
theorem ek_kD {z : Value} {sz : Nat} (o : Option Sh) (hz : ∀ sh, o = some sh → sh.cells = sz ∧ z.cells.toList = sh.zc ∧ (sh.zc.all fun v => v.oneCell') = true) : ∀ ek, o.map EK.kD = some ek → ek.esz = sz ∧ (∀ v ∈ z.cells.toList, v.oneCell' = true) ∧ ∀ m w n, RC m w (ek.rep real n) (List.replicate n z.cells.toList).flatten := by
  intro ek hek
  cases o with
  | none => cases hek
  | some sh =>
    cases hek
    obtain ⟨h1, h2, h3⟩ := hz sh rfl
    rw [h2]
    exact ⟨h1, fun v hv => List.all_eq_true.1 h3 v hv, fun m w n => kD_RC sh n⟩
/-- what a kind of elements of many cells asks -/
def shOK (sz : Nat) (zs : List Value) : Option Sh → Prop
  | none => True
  | some sh => sh.cells = sz ∧ zs = sh.zc ∧ (sh.zc.all fun v => v.oneCell') = true
theorem shOK_ek {z : Value} {sz : Nat} {o : Option Sh} {zs : List Value} (h : shOK sz zs o) (hz : z.cells.toList = zs) : ∀ ek, o.map EK.kD = some ek → ek.esz = sz ∧ (∀ v ∈ z.cells.toList, v.oneCell' = true) ∧ ∀ m w n, RC m w (ek.rep real n) (List.replicate n z.cells.toList).flatten :=
  ek_kD o (fun sh hsh => by subst hsh; exact ⟨h.1, hz.trans h.2.1, h.2.2⟩)
theorem ti_arr {n e b k : Nat} (q : EK) (o : Option Sh) (hq : ∀ sh, q ≠ .kD sh) (hu : P.underlying T = some (.array n e)) (hf : facts P T = some (k, b, some (.agg (List.replicate k q.zero).toArray))) (ho : shOK k (List.replicate k q.zero) o) : TIok P T ⟨.arr n e, k, b, .arr k (q.rep real k), o.map .kD⟩ := by
  obtain ⟨i, h1, h2, h3, h4⟩ := facts_info hf
  have hz : (Value.agg (List.replicate k q.zero).toArray).cells.toList = List.replicate k q.zero := by simp [Value.cells]
  refine ⟨fun fs h => (by cases h), fun fs lays h1 h2 => (by cases h2), hu, by rw [hu]; rfl, rfl, i, _, h1, h2, h3, h4, by rw [← Array.length_toList, hz]; simp, fun m w => ?_, shOK_ek ho hz⟩
  rw [hz]
  simp only [Lay.segs, SegsR]
  exact ⟨_, [], (List.append_nil _).symm, by simp, rep_RC q hq m w k, rfl⟩
/-- structs -/
theorem ti_st {b k : Nat} {fs : List (Nat × Nat × Nat)} {lays : List Lay} (o : Option Sh) (hpl : stPlain P T = true) (gs : List Field) (zs : List Value) (hu : P.underlying T = some (.struct gs.toArray)) (hfs : gs.map (fun f => (f.type, f.offset)) = fs.map (fun x => (x.1, x.2.2)))
    (hl : gs.map (fun f => (f.offset, P.cellsOf f.type)) = layOffs 0 lays) (hc : lcells lays = k) (hn : (gs.all fun f => P.cellsOf f.type != 0) = true) (hz : lzc lays = some zs) (hlen : zs.length = k) (hf : facts P T = some (k, b, some (.agg zs.toArray))) (ho : shOK k zs o) : TIok P T ⟨.st fs, k, b, .st lays, o.map .kD⟩ := by
  obtain ⟨i, h1, h2, h3, h4⟩ := facts_info hf
  have hzz : (Value.agg zs.toArray).cells.toList = zs := by simp [Value.cells]
  refine ⟨fun _ _ => hpl, fun fs' lays' e1 e2 => ?_, ⟨_, hu, by simpa using hfs, fun f hf => ?_⟩, by rw [hu]; rfl, hc, i, _, h1, h2, h3, h4, by rw [← Array.length_toList, hzz]; exact hlen, fun m w => ?_, shOK_ek ho hzz⟩
  · cases e2
    exact ⟨_, hu, by simpa using hl⟩
  · simpa using List.all_eq_true.1 hn f (by simpa using hf)
  · rw [hzz]
    simp only [Lay.segs]
    exact lzc_SegsR lays hz
def fieldsOf (P : Program) (T : Nat) : Option (List Field) := match P.underlying T with
  | some (.struct gs) => some gs.toList
  | _ => none
/-- the same, the fields read off the table -/
theorem ti_stK {b k : Nat} {fs : List (Nat × Nat × Nat)} {lays : List Lay} (o : Option Sh) (hpl : stPlain P T = true) (hu : (fieldsOf P T).isSome = true) (hfs : ((fieldsOf P T).getD []).map (fun f => (f.type, f.offset)) = fs.map (fun x => (x.1, x.2.2)))
    (hl : ((fieldsOf P T).getD []).map (fun f => (f.offset, P.cellsOf f.type)) = layOffs 0 lays) (hc : lcells lays = k) (hn : (((fieldsOf P T).getD []).all fun f => P.cellsOf f.type != 0) = true) (hz : (lzc lays).isSome = true) (hlen : ((lzc lays).getD []).length = k)
    (hf : facts P T = some (k, b, some (.agg ((lzc lays).getD []).toArray))) (ho : shOK k ((lzc lays).getD []) o) : TIok P T ⟨.st fs, k, b, .st lays, o.map .kD⟩ := by
  refine ti_st o hpl ((fieldsOf P T).getD []) ((lzc lays).getD []) ?_ hfs hl hc hn ?_ hlen hf ho
  · unfold fieldsOf at hu ⊢
    split at hu
    · rename_i gs h
      rw [h]
      simp
    · cases hu
  · cases h : lzc lays with
    | none => rw [h] at hz; cases hz
    | some x => rfl
theorem ttok_nil : TTok P [] := fun p hp => by simp at hp
theorem ttok_cons {ti : TI} {r : TT} (h : TIok P T ti) (hr : TTok P r) : TTok P ((T, ti) :: r) := fun p hp => by
  rcases List.mem_cons.1 hp with rfl | hp
  · exact h
  · exact hr p hp
theorem sp_nil : SpecsOK P [] := fun p hp => by simp at hp
theorem sp_cons {f : Nat} {s : Spec} {r : Specs} (hr : Ready P f) (h : SpecOK P f s) (hs : SpecsOK P r) : SpecsOK P ((f, s) :: r) := fun p hp => by
  rcases List.mem_cons.1 hp with rfl | hp
  · exact ⟨hr, h⟩
  · exact hs p hp
theorem ks_nil : KSpecsOK P [] := fun p hp => by simp at hp
end
end Go.Vc
set_option linter.unusedVariables false
set_option linter.unusedSimpArgs false
namespace Go.Vc
open Go Go.RowKit Go.ChangeShapes
/-- nothing that was there has turned -/
def Held (W w' : World) : Prop := w'.os = W.os ∧ w'.output = W.output ∧ W.heap.size ≤ w'.heap.size ∧ ∀ b, b < W.heap.size → w'.heap[b]? = W.heap[b]?
section
variable {H : Type} {enc : TypeId × Value → H} {P : Program}
end

section
variable {P : Program} {x : Cx} {an cu : Anns}
/-- nothing leads anywhere -/
def mTop : Hd := ⟨fun _ => none, fun _ => True, fun _ => False⟩
end
/-! ## Arguments -/
theorem u32_arg {a : Int} (h : (Lit.int .u32 a).wf = true) : ∃ x : UInt32, a = (x.toNat : Int) := by
  simp only [Lit.wf, Bool.and_eq_true, decide_eq_true_eq, IntKind.min, IntKind.max] at h
  refine ⟨UInt32.ofNat a.toNat, ?_⟩
  simp [IntKind.signed, IntKind.bits] at h
  rw [UInt32.toNat_ofNat_of_lt' (by simp [UInt32.size]; omega)]
  omega
theorem u8_arg {a : Int} (h : (Lit.int .u8 a).wf = true) : ∃ x : UInt8, a = (x.toNat : Int) := by
  simp only [Lit.wf, Bool.and_eq_true, decide_eq_true_eq, IntKind.min, IntKind.max] at h
  refine ⟨UInt8.ofNat a.toNat, ?_⟩
  simp [IntKind.signed, IntKind.bits] at h
  rw [UInt8.toNat_ofNat_of_lt' (by simp [UInt8.size]; omega)]
  omega
theorem u64_arg {a : Int} (h : (Lit.int .u64 a).wf = true) : ∃ x : UInt64, a = (x.toNat : Int) := by
  simp only [Lit.wf, Bool.and_eq_true, decide_eq_true_eq, IntKind.min, IntKind.max] at h
  refine ⟨UInt64.ofNat a.toNat, ?_⟩
  simp [IntKind.signed, IntKind.bits] at h
  rw [UInt64.toNat_ofNat_of_lt' (by simp [UInt64.size]; omega)]
  omega
theorem i64_arg {a : Int} (h : (Lit.int .i64 a).wf = true) : -9223372036854775808 ≤ a ∧ a ≤ 9223372036854775807 := by
  simp only [Lit.wf, Bool.and_eq_true, decide_eq_true_eq, IntKind.min, IntKind.max] at h
  simp [IntKind.signed, IntKind.bits] at h
  omega
end Go.Vc
