/- A part of the proof of given statements: a verified condition generator for the model, and contracts of the program's functions. No condition. -/
import Derived.Test.YtegnmmfjbncgnaaVcCode2
set_option linter.unusedVariables false
set_option linter.unusedSimpArgs false
namespace Go.Vc
open Go Go.RowKit

/-! ## Results -/
def resK (F : Fs) (tt : TT) (s : AS) : List ResultVar → (List AV → Prop) → Prop
  | [], K => K []
  | .tmp t :: r, K => resK F tt s r fun l => K (sget s.sl t :: l)
  | .cell a T :: r, K => match (loadEv F tt T (sget s.sl a)).run s.me with
    | some e => e.c ∧ resK F tt s r fun l => K (e.v :: l)
    | none => False
def tupAV : List AV → AV
  | [a] => a
  | l => .tup l
def endK (F : Fs) (tt : TT) (fr : List ResultVar) (K : List AV → AS → Prop) : VX → AS → Prop
  | .normal, s => resK F tt s fr fun l => K l s
  | .ret, s => resK F tt s fr fun l => K l s
  | .exit _, _ => False
def zipSl : Nat → List AV → List (Nat × AV)
  | _, [] => []
  | i, a :: r => (i, a) :: zipSl (Nat.succ i) r
/-- a call whose callee's code is gone through in place -/
def inl (F : Fs) (x : Cx) (body : Code) (fr : List ResultVar) : KSpec := fun args s K =>
  match Nat.ble (llen args) x.nt with
  | true => vc F x [] [] body ⟨zipSl 0 args, s.me, s.nk⟩ (endK F x.tt fr fun l s' => K (tupAV l) s')
  | false => False

def resOne (a : Act) : ResultVar → Sem Value
  | .tmp t => pure (a.tmps.getD t undef)
  | .cell b t => do loadVar t (← asAddr (a.tmps.getD b undef))
section
variable {P : Program} {E : Env} {x : Cx} {m : Hd} {w : World}
theorem resK_sound (ht : TTok P x.tt) {s : AS} {a : Act} (hr : StR E x.nt s m a w) : ∀ (l : List ResultVar) (K : List AV → Prop), resK real x.tt s l K →
    ∃ vs avs, (l.mapM (resOne a)).run P w = .ok vs w ∧ RVs m w avs vs ∧ K avs
  | [], K, h => ⟨[], [], rfl, by simp [RVs], h⟩
  | .tmp t :: r, K, h => by
    obtain ⟨vs, avs, h1, h2, h3⟩ := resK_sound ht hr r _ h
    refine ⟨a.tmps.getD t undef :: vs, sget s.sl t :: avs, ?_, ?_, h3⟩
    · rw [List.mapM_cons]
      simp only [resOne, Sem.run_bind, Sem.run_pure, Result.andThen_ok]
      rw [h1]; rfl
    · simp only [RVs]; exact ⟨_, _, rfl, hr.sl t, h2⟩
  | .cell b T :: r, K, h => by
    simp only [resK] at h
    split at h
    · rename_i e he
      obtain ⟨hc, h⟩ := h
      obtain ⟨vs, avs, h1, h2, h3⟩ := resK_sound ht hr r _ h
      obtain ⟨v, g1, g2⟩ := load_sound (P := P) ht hr.base (hr.sl b) he hc
      refine ⟨v :: vs, e.v :: avs, ?_, ?_, h3⟩
      · have g3 : (do loadVar T (← asAddr (a.tmps.getD b undef)) : Sem Value).run P w = .ok v w := by
          unfold Instr.loadAt Instr.sureAddr at g1
          revert g1
          cases a.tmps.getD b undef with
          | pointer p => cases p <;> simp [asAddr, Sem.run_bind]
          | _ => simp [asAddr, Sem.run_bind]
        rw [List.mapM_cons]
        simp only [resOne, Sem.run_bind] at g3 ⊢
        rw [g3]
        simp only [Result.andThen_ok]
        rw [h1]; rfl
      · simp only [RVs]; exact ⟨_, _, rfl, g2.rv, h2⟩
    · exact h.elim
theorem tupAV_sound {avs : List AV} {vs : List Value} (h : RVs m w avs vs) : RV m w (tupAV avs) (if h : vs.toArray.size = 1 then vs.toArray[0] else .tuple vs.toArray) := by
  cases avs with
  | nil =>
    simp only [RVs] at h; subst h
    simp [tupAV, RV, RVs]
  | cons b r =>
    have h0 := h
    simp only [RVs] at h
    obtain ⟨v, q, rfl, h1, h2⟩ := h
    cases r with
    | nil =>
      simp only [RVs] at h2; subst h2
      simpa [tupAV] using h1
    | cons c r2 =>
      simp only [RVs] at h2
      obtain ⟨v2, q2, rfl, h3, h4⟩ := h2
      simp only [tupAV, RV]
      exact ⟨_, by simp, h0⟩
theorem ends_sound (ht : TTok P x.tt) {fn : Func} {K : List AV → AS → Prop} {R : Ending → World → Prop} (hR : ∀ l vs s m w, RVs m w l vs → K l s → StM E s.me s.nk m w → R (.returned (if h : vs.toArray.size = 1 then vs.toArray[0] else .tuple vs.toArray)) w)
    {e : Exit} {a : Act} (h : Post E x.nt (endK real x.tt fn.results.toList K) e a w) : bodyPost P fn R e a w := by
  obtain ⟨y, s, m', rfl, hk, hr⟩ := h
  have key : resK real x.tt s fn.results.toList (fun l => K l s) → a.defers = [] ∧ ∃ v, (results fn a.tmps).run P w = .ok v w ∧ R (.returned v) w := by
    intro hk
    obtain ⟨vs, avs, h1, h2, h3⟩ := resK_sound ht hr _ _ hk
    refine ⟨hr.df, _, ?_, hR avs vs s m' w h2 h3 ⟨hr.mem, hr.bd, hr.nk, hr.fr⟩⟩
    have e1 : results fn a.tmps = (do let vs ← fn.results.mapM (resOne a); pure (if h : vs.size = 1 then vs[0] else .tuple vs)) := by
      unfold results
      have : (fun r : ResultVar => match r with
        | .tmp t => (pure (a.tmps.getD t undef) : Sem Value)
        | .cell b t => do loadVar t (← asAddr (a.tmps.getD b undef))) = resOne a := by funext r; cases r <;> rfl
      rw [← this]
      rfl
    rw [e1]
    rw [Array.mapM_eq_mapM_toList]
    simp only [Sem.run_bind, map_eq_pure_bind]
    rw [h1]
    rfl
  cases y with
  | normal => exact key hk
  | ret => exact key hk
  | exit i => exact hk.elim
theorem llen_eq (l : List AV) : llen l = l.length := by induction l <;> simp_all [llen]
theorem RVs_length : ∀ {l : List AV} {vs : List Value}, RVs m w l vs → vs.length = l.length
  | [], vs, h => by simp only [RVs] at h; subst h; rfl
  | a :: l, vs, h => by
    simp only [RVs] at h
    obtain ⟨v, r, rfl, _, h2⟩ := h
    simp [RVs_length h2]
theorem zipSl_sound {n : Nat} : ∀ (l : List AV) (i : Nat) (pre vs : List Value), RVs m w l vs → pre.length = i → SlR m w (zipSl i l) { tmps := (pre ++ vs).toArray ++ Array.replicate n undef, defers := [] }
  | [], i, pre, vs, h, hi => fun t => by simp [zipSl, sget, RV]
  | b :: l, i, pre, vs, h, hi => fun t => by
    simp only [RVs] at h
    obtain ⟨v, r, rfl, h1, h2⟩ := h
    have ih := zipSl_sound (n := n) l (i + 1) (pre ++ [v]) r h2 (by simp [hi]) t
    simp only [zipSl, sget]
    split
    · rename_i e
      have := beq_nat e; subst this
      have e1 : (((pre ++ v :: r).toArray ++ Array.replicate n undef).getD i undef) = v := by
        rw [Array.getD_eq_getD_getElem?, Array.getElem?_append_left (by simp; omega)]
        simp [← hi]
      rw [e1]; exact h1
    · simpa using ih
theorem entry_sl {args : List AV} {vals : List Value} (h : RVs m w args vals) (n : Nat) : SlR m w (zipSl 0 args) { tmps := vals.toArray ++ Array.replicate n undef, defers := [] } := by
  simpa using zipSl_sound args 0 [] vals h rfl

theorem inl_sound (hx : XOK P x) (hmx : P.follows .mixedOrders = true) {f : Nat} {fn : Func} {body : Code} (hf : P.funcs[f]? = some fn) (hb : fn.body = some body) (hn : fn.ntmps = x.nt) (hdr : drawsOk x.tt x.dr body = true) : KSpecOK P f (inl real x body fn.results.toList) := by
  intro E s m w args vals K hm hv h
  unfold inl at h
  split at h
  · rename_i hle
    have hle : args.length ≤ x.nt := by rw [← llen_eq]; exact Nat.le_of_ble_eq_true hle
    have hl := RVs_length hv
    let E' : Env := ⟨E.w0, E.W, E.ok, some (m, w), []⟩
    have hr : StR E' x.nt ⟨zipSl 0 args, s.me, s.nk⟩ m { tmps := vals.toArray ++ Array.replicate (fn.ntmps - vals.toArray.size) undef, defers := [] } w :=
      ⟨entry_sl hv _, hm.mem, hm.bd, hm.nk, by simp; omega, rfl, ⟨hm.fr.os, hm.fr.tape, hm.fr.output, hm.fr.size, hm.fr.ok, hm.fr.block, hm.fr.own, fun m0 w1 he => (by cases he; exact Pres.refl _ _), fun j v hj => (by cases hj)⟩⟩
    refine calls_of_wp hf hb (code_mono (vc_sound hx (fun j v hj => (by cases hj)) (.inr ⟨rfl, rfl⟩) hmx body _ _ hdr h m _ w hr) ?_)
    intro e a w' hp
    refine ends_sound hx.tt (fun l vs s' m' w' h1 h2 h3 => ?_) hp
    refine ⟨_, rfl, tupAV l, s', m', h2, tupAV_sound h1, ⟨h3.mem, h3.bd, h3.nk, ⟨h3.fr.os, h3.fr.tape, h3.fr.output, h3.fr.size, h3.fr.ok, h3.fr.block, h3.fr.own, fun m0 w1 he => ?_, fun j v hj => ?_⟩⟩, h3.fr.keep m w rfl⟩
    · exact (hm.fr.keep m0 w1 he).trans (h3.fr.keep m w rfl)
    · exact (h3.fr.keep m w rfl).mu j v (hm.fr.pin j v hj)
  · exact h.elim
end
end Go.Vc
