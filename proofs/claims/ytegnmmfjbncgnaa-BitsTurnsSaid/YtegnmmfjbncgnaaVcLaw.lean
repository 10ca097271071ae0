/- A part of the proof of given statements: a verified condition generator for the model, and contracts of the program's functions. No condition. -/
import Derived.Test.YtegnmmfjbncgnaaVcTy
import Derived.ProofKit
set_option linter.unusedVariables false
set_option linter.unusedSimpArgs false
namespace Go.Vc
open Go Go.RowKit Go.ChangeShapes
/-- nothing that was there has turned -/
def Held (W w' : World) : Prop := w'.os = W.os ∧ w'.output = W.output ∧ W.heap.size ≤ w'.heap.size ∧ ∀ b, b < W.heap.size → w'.heap[b]? = W.heap[b]?
theorem Held.kept {W w' : World} (h : Held W w') (may : MemPlace → Prop) : W.keptBut w' may := by
  refine ⟨h.1, h.2.1, fun i hi => ?_⟩
  rw [h.2.2.2 i hi]
  cases hq : W.heap[i]? with
  | none => rfl
  | some b => cases b with
    | cells c t fr => exact ⟨rfl, rfl, rfl, fun _ _ => rfl⟩
    | map es k => exact .inr ⟨rfl, rfl⟩
    | _ => rfl
theorem Held.frozen {W w' : World} (h : Held W w') {a : Addr} (ha : a.block < W.heap.size) : w'.frozen? a = W.frozen? a := by
  unfold World.frozen?
  rw [h.2.2.2 _ ha]
section
variable {H : Type} {enc : TypeId × Value → H} {P : Program}
theorem post_of_held {f : Func} {s : ChangeSpec} {apart fresh handsOn again : Bool} {W W' : World} {args : Array Value} {v : Value} {ds gs : List (DataW H)} {before pa pv : List MemPlace}
    (hW : DataW.Whole enc P f.params.toList s.vars apart W args.toList ds gs before)
    (hres : ∀ (b : Nat) (sp : Nat → Bool) (hd : Bool), DataW.TrodAll enc P W' b sp hd f.resultTypes.toList (v.resultList f.resultTypes.size) (s.fn H (ds ++ gs)).results [])
    (hargs : ∀ sp : Nat → Bool, (∀ p ∈ before, sp p.block = true) → DataW.TrodAll enc P W' 0 sp true f.params.toList args.toList (s.fn H (ds ++ gs)).args pa)
    (hvars : ∀ sp : Nat → Bool, (∀ p ∈ before, sp p.block = true) → DataW.TrodVars enc P W' sp s.vars (s.fn H (ds ++ gs)).vars pv)
    (hps : before = pa ++ pv) (hk : Held W W')
    (hok : ∀ (j : Nat) (t : TypeId) (r : Value), f.resultTypes[j]? = some t → (v.resultList f.resultTypes.size)[j]? = some r → Value.okWide P W' .any 0 t r) :
    s.post enc P f apart fresh handsOn again W args v W' := by
  have hold : ∀ p ∈ before, (fun b => decide (b < W.heap.size)) p.block = true := fun p hp => by simpa using hW.lt p hp
  have hlt := hW.lt
  refine ⟨ds, gs, before, [], pa, pv, hW, hres _ _ _, hargs _ hold, hvars _ hold, World.keptBut_mono (fun p hp => ⟨hp, ?_⟩) (hk.kept (· ∈ before)), fun _ => ?_⟩
  · rw [hps, List.mem_append] at hp
    exact Or.inr hp
  · obtain ⟨_, _, _, _, _, hz, hn⟩ := hW
    refine ⟨hok, _, _, ([] ++ pa) ++ pv, ⟨[] ++ pa, pv, trodAll_append (hargs _ (fun _ _ => rfl)) (hres _ _ _), hvars _ (fun _ _ => rfl), rfl, ?_, ?_⟩, ?_⟩
    · intro b off hp
      have hp' : MemPlace.cell b off ∈ before := by rw [hps]; simpa using hp
      rw [hk.frozen (hlt _ hp')]
      exact hz b off hp'
    · intro ha
      have := hn ha
      rw [hps] at this
      simpa using this
    · intro p hp _
      rw [hps]
      simpa using hp
end

section
variable {P : Program} {x : Cx} {an cu : Anns}
/-- nothing leads anywhere -/
def mTop : Hd := ⟨fun _ => none, fun _ => True⟩
theorem stableTop {w : World} {b : Nat} (h : b < w.heap.size) : Stable mTop w b := ⟨h, trivial, fun k v hk => by cases hk⟩
/-- a law's walk, from the conditions of its code -/
theorem law_walk (hx : XOK P x) (hmx : P.follows .mixedOrders = true) {f : Nat} {fn : Func} {body : Code} (hf : P.funcs[f]? = some fn) (hbd : fn.body = some body) (hn : fn.ntmps = x.nt) (hdr : drawsOk x.tt x.dr body = true)
    {l : List AV} {vals : List Value} {w : World} (hl : llen l ≤ x.nt) (hv : RVs mTop w l vals) (hvc : vc real x an cu body ⟨zipSl 0 l, [], 64⟩ (retOk real x.tt false fn.results.toList [.val (.b true)])) :
    Calls P f vals.toArray w fun e w' => e = .returned (.bool true) ∧ Held w w' := by
  have hlen := RVs_length hv
  rw [llen_eq] at hl
  let E : Env := ⟨w, [], fun _ => True, none, []⟩
  have hr : StR E x.nt ⟨zipSl 0 l, [], 64⟩ mTop { tmps := vals.toArray ++ Array.replicate (fn.ntmps - vals.toArray.size) undef, defers := [] } w :=
    ⟨entry_sl hv _, ⟨fun k ab h => (by cases h), fun k k' ab ab' v v' b h => (by cases h)⟩, fun k v b hk => (by cases hk), fun k _ => rfl, (by simp; omega), rfl,
      ⟨rfl, rfl, rfl, Nat.le_refl _, rfl, fun _ _ _ => rfl, fun k v b hk => (by cases hk), fun m0 w1 he => (by cases he), fun j v hj => (by cases hj)⟩⟩
  refine calls_of_wp hf hbd (code_mono (vc_sound hx (fun j v hj => (by cases hj)) (.inl rfl) hmx body _ _ hdr hvc _ _ w hr) ?_)
  intro en a w' hp
  refine ends_sound hx.tt (fun l vs s' m1 w1 k1 k2 k3 => ?_) hp
  cases l with
  | nil => simp [retM] at k2
  | cons b r =>
    cases r with
    | cons c r => simp [retM, AV.nk] at k2
    | nil =>
      simp only [retM, AV.nk, and_true] at k2
      simp only [RVs] at k1
      obtain ⟨v, q, rfl, h1, rfl⟩ := k1
      have := RV_le b (.b true) v k2 (fun h => by cases h) h1
      simp only [RV, CR, List.cons.injEq, and_true] at this
      subst this
      exact ⟨rfl, k3.fr.os, k3.fr.output, k3.fr.size, fun b hb => k3.fr.block b hb (fun h => by cases h)⟩
end
/-! ## Arguments -/
theorem u32_arg {a : Int} (h : (Lit.int .u32 a).wf = true) : ∃ x : UInt32, a = (x.toNat : Int) := by
  simp only [Lit.wf, Bool.and_eq_true, decide_eq_true_eq, IntKind.min, IntKind.max] at h
  refine ⟨UInt32.ofNat a.toNat, ?_⟩
  simp [IntKind.signed, IntKind.bits] at h
  rw [UInt32.toNat_ofNat_of_lt' (by simp [UInt32.size]; omega)]
  omega
theorem u8_arg {a : Int} (h : (Lit.int .u8 a).wf = true) : ∃ x : UInt8, a = (x.toNat : Int) := by
  simp only [Lit.wf, Bool.and_eq_true, decide_eq_true_eq, IntKind.min, IntKind.max] at h
  refine ⟨UInt8.ofNat a.toNat, ?_⟩
  simp [IntKind.signed, IntKind.bits] at h
  rw [UInt8.toNat_ofNat_of_lt' (by simp [UInt8.size]; omega)]
  omega
theorem u64_arg {a : Int} (h : (Lit.int .u64 a).wf = true) : ∃ x : UInt64, a = (x.toNat : Int) := by
  simp only [Lit.wf, Bool.and_eq_true, decide_eq_true_eq, IntKind.min, IntKind.max] at h
  refine ⟨UInt64.ofNat a.toNat, ?_⟩
  simp [IntKind.signed, IntKind.bits] at h
  rw [UInt64.toNat_ofNat_of_lt' (by simp [UInt64.size]; omega)]
  omega
theorem i64_arg {a : Int} (h : (Lit.int .i64 a).wf = true) : -9223372036854775808 ≤ a ∧ a ≤ 9223372036854775807 := by
  simp only [Lit.wf, Bool.and_eq_true, decide_eq_true_eq, IntKind.min, IntKind.max] at h
  simp [IntKind.signed, IntKind.bits] at h
  omega
end Go.Vc
