/- A part of the proof of given statements: a verified condition generator for the model, and contracts of the program's functions. No condition. -/
import Derived.Test.YtegnmmfjbncgnaaVcFn
set_option linter.unusedVariables false
set_option linter.unusedSimpArgs false
namespace Go.Vc
open Go Go.RowKit

/-! ## Contracts of functions that change nothing that was there -/
mutual
/-- no name of memory inside; with 'sh': what lies elsewhere and stays may be led to -/
def AV.nk (sh : Bool) : AV → Bool
  | .i _ => true
  | .w8 _ => true
  | .w16 _ => true
  | .w32 _ => true
  | .w64 _ => true
  | .b _ => true
  | .kb _ => true
  | .s _ => true
  | .ag _ c => AC.nk sh c
  | .nl => true
  | .pn => true
  | .rb _ c => match sh with
    | true => AC.nk sh c
    | false => false
  | .pr a => match sh with
    | true => AV.nk sh a
    | false => false
  | _ => false
def AC.nk (sh : Bool) : AC → Bool
  | .bt _ => true
  | .wh _ => true
  | .wd _ => true
  | .ww _ => true
  | .is _ => true
  | .ss _ => true
  | .vs l => AL.nk sh l
  | .fn _ _ _ => false
def AL.nk (sh : Bool) : List AV → Bool
  | [] => true
  | a :: l => match AV.nk sh a with
    | true => AL.nk sh l
    | false => false
end
section
variable {sh : Bool} {m m' : Hd} {w w' : World}
theorem StableAt.move (h : ∀ b, Stable m w b → w'.heap[b]? = w.heap[b]? ∧ Stable m' w' b) {ad : Addr} {ds : List Value} (hs : StableAt m w ad ds) : StableAt m' w' ad ds := by
  obtain ⟨h1, h2⟩ := hs
  obtain ⟨h3, h4⟩ := h _ h1
  refine ⟨h4, fun j x hx => ?_⟩
  rw [← h2 j x hx]
  exact World.cell?_of_block (by rw [add_block]; exact h3)
mutual
theorem CR_move (h : sh = true → ∀ b, Stable m w b → w'.heap[b]? = w.heap[b]? ∧ Stable m' w' b) : ∀ (a : AV) (cs : List Value), a.nk sh = true → CR m w a cs → CR m' w' a cs
  | .u, cs, hn, hc => by simp [AV.nk] at hn
  | .i n, cs, hn, hc => by simpa [CR] using hc
  | .w8 x, cs, hn, hc => by simpa [CR] using hc
  | .w16 x, cs, hn, hc => by simpa [CR] using hc
  | .w32 x, cs, hn, hc => by simpa [CR] using hc
  | .w64 x, cs, hn, hc => by simpa [CR] using hc
  | .b x, cs, hn, hc => by simpa [CR] using hc
  | .kb x, cs, hn, hc => by simpa [CR] using hc
  | .s x, cs, hn, hc => by simpa [CR] using hc
  | .ag n c, cs, hn, hc => by simp only [AV.nk] at hn; simp only [CR] at hc ⊢; exact ⟨hc.1, RC_move h c cs hn hc.2⟩
  | .tup l, cs, hn, hc => by simp [AV.nk] at hn
  | .p k g o, cs, hn, hc => by simp [AV.nk] at hn
  | .pe k g o e i, cs, hn, hc => by simp [AV.nk] at hn
  | .pr a, cs, hn, hc => by
    have hsh : sh = true := by cases hq : sh <;> simp [AV.nk, hq] at hn ⊢
    have hn' : a.nk sh = true := by simpa only [AV.nk, hsh] using hn
    simp only [CR] at hc ⊢
    obtain ⟨ad, ds, h1, h2, h3⟩ := hc
    exact ⟨ad, ds, h1, CR_move h a ds hn' h2, h3.move (h hsh)⟩
  | .sl k g o e a n, cs, hn, hc => by simp [AV.nk] at hn
  | .rb e c, cs, hn, hc => by
    have hsh : sh = true := by cases hq : sh <;> simp [AV.nk, hq] at hn ⊢
    have hn' : c.nk sh = true := by simpa only [AV.nk, hsh] using hn
    simp only [CR] at hc ⊢
    obtain ⟨ad, n, cap, ds, h1, h2, h3, h4, h5⟩ := hc
    exact ⟨ad, n, cap, ds, h1, RC_move h c ds hn' h2, h3, h4, fun hn => let ⟨a, ha, hs⟩ := h5 hn; ⟨a, ha, hs.move (h hsh)⟩⟩
  | .rw k, cs, hn, hc => by simp [AV.nk] at hn
  | .nl, cs, hn, hc => by simpa [CR] using hc
  | .pn, cs, hn, hc => by simpa [CR] using hc
theorem RC_move (h : sh = true → ∀ b, Stable m w b → w'.heap[b]? = w.heap[b]? ∧ Stable m' w' b) : ∀ (c : AC) (cs : List Value), c.nk sh = true → RC m w c cs → RC m' w' c cs
  | .bt xs, cs, hn, hc => by simpa [RC] using hc
  | .wh xs, cs, hn, hc => by simpa [RC] using hc
  | .wd xs, cs, hn, hc => by simpa [RC] using hc
  | .ww xs, cs, hn, hc => by simpa [RC] using hc
  | .is xs, cs, hn, hc => by simpa [RC] using hc
  | .ss xs, cs, hn, hc => by simpa [RC] using hc
  | .vs l, cs, hn, hc => by simp only [AC.nk] at hn; simp only [RC] at hc ⊢; exact LR_move h l cs hn hc
  | .fn e n f, cs, hn, hc => by simp [AC.nk] at hn
theorem LR_move (h : sh = true → ∀ b, Stable m w b → w'.heap[b]? = w.heap[b]? ∧ Stable m' w' b) : ∀ (l : List AV) (cs : List Value), AL.nk sh l = true → LR m w l cs → LR m' w' l cs
  | [], cs, hn, hc => by simpa [LR] using hc
  | a :: l, cs, hn, hc => by
    simp only [AL.nk] at hn
    split at hn
    · rename_i ha
      simp only [LR] at hc ⊢
      obtain ⟨c1, c2, h1, h2, h3⟩ := hc
      exact ⟨c1, c2, h1, CR_move h a c1 ha h2, LR_move h l c2 hn h3⟩
    · cases hn
end
theorem RV_move (h : sh = true → ∀ b, Stable m w b → w'.heap[b]? = w.heap[b]? ∧ Stable m' w' b) (a : AV) (v : Value) (hn : a.nk sh = true) (hv : RV m w a v) : RV m' w' a v := by
  cases a with
  | ag n c =>
    simp only [AV.nk] at hn
    simp only [RV] at hv ⊢
    obtain ⟨cs, h1, h2, h3⟩ := hv
    exact ⟨cs, h1, h2, RC_move h c cs hn h3⟩
  | tup l => simp [AV.nk] at hn
  | u => simp [RV]
  | _ => simp only [RV] at hv ⊢; exact CR_move h _ _ hn hv
end

/-- a parameter: as it is; a slice, told by what lies in it -/
inductive PT where
  | keep
  | row (k : EK)
/-- a result: as it is; a new array of the call's own -/
inductive PR where
  | val (a : AV)
  | row (T e : Nat) (c : AC)
def EK.fits : EK → AC → Bool
  | .kB, .bt _ => true
  | .kH, .wh _ => true
  | .kW, .wd _ => true
  | .kQ, .ww _ => true
  | .kI, .is _ => true
  | .kS, .ss _ => true
  | _, _ => false
def resolve (F : Fs) (sh : Bool) : List PT → List AV → (List AV → Look) → Look
  | [], [], K => K []
  | .keep :: ts, a :: r, K => match a.nk sh with
    | true => resolve F sh ts r fun l => K (a :: l)
    | false => .no
  | .row k :: ts, a :: r, K => match a with
    | .nl => resolve F sh ts r fun l => K (.rb 1 k.nil :: l)
    | .rb 1 c => match k.fits c with
      | true => resolve F sh ts r fun l => K (.rb 1 c :: l)
      | false => .no
    | a => match sh with
      | true => .no
      | false => withContent F a fun c => match k.fits c with
        | true => resolve F sh ts r fun l => K (.rb 1 c :: l)
        | false => .no
  | _, _, _ => .no
def outs : Nat → List PR → List AV
  | _, [] => []
  | kb, .val a :: r => a :: outs kb r
  | kb, .row _ _ _ :: r => .rw kb :: outs (Nat.succ kb) r
def newRows : Nat → List PR → Mem
  | _, [] => []
  | kb, .val _ :: r => newRows kb r
  | kb, .row T e c :: r => (kb, .row T e c) :: newRows (Nat.succ kb) r
def nRows : List PR → Nat
  | [] => 0
  | .val _ :: r => nRows r
  | .row _ _ _ :: r => Nat.succ (nRows r)
abbrev Law := List AV → Option (Prop × List PR)
def pureSpec (F : Fs) (sh : Bool) (pts : List PT) (g : Law) : Spec := fun args kb =>
  resolve F sh pts args fun l => match g l with
    | some (c, rs) => match Nat.ble (nRows rs) 8 with
      | true => .ret ⟨c, tupAV (outs kb rs), newRows kb rs⟩
      | false => .no
    | none => .no
def lmem (k : Nat) : List Nat → Bool
  | [] => false
  | j :: r => match Nat.beq k j with
    | true => true
    | false => lmem k r
def retM (sh : Bool) (s : AS) : List AV → List PR → List Nat → Prop
  | [], [], _ => True
  | a :: r, .val b :: ps, us => match b.nk sh with
    | true => avLe [] a b ∧ retM sh s r ps us
    | false => False
  | a :: r, .row T e c :: ps, us => match c.nk sh with
    | true => match a with
      | .rw k => match lmem k us with
        | true => False
        | false => match mlook s.me k with
          | some (.row T' e' c') => (Nat.beq T' T = true ∧ Nat.beq e' e = true ∧ acLe [] c' c) ∧ retM sh s r ps (k :: us)
          | _ => False
      | .nl => acNil c ∧ retM sh s r ps us
      | _ => False
    | false => False
  | _, _, _ => False
def retOk (F : Fs) (tt : TT) (sh : Bool) (fr : List ResultVar) (rs : List PR) : VX → AS → Prop :=
  endK F tt fr fun l s => retM sh s l rs []

section
variable {P : Program} {sh : Bool} {m : Hd} {w : World} {me : Mem} {kb : Nat}
/-- the callee's start: no name leads anywhere -/
def m0 (sh : Bool) (m : Hd) (w : World) : Hd := ⟨fun _ => none, match sh with
  | true => Stable m w
  | false => fun _ => True⟩
theorem m0_stab (h : sh = true) : ∀ b, Stable m w b → w.heap[b]? = w.heap[b]? ∧ Stable (m0 sh m w) w b := by
  subst h
  exact fun b hb => ⟨rfl, hb.1, hb, fun k v hk => by cases hk⟩
theorem fits_esz {k : EK} {c : AC} (h : k.fits c = true) : c.esz = some 1 ∧ ∀ (m m' : Hd) (w w' : World) cs, RC m w c cs → RC m' w' c cs := by
  cases k <;> cases c <;> simp only [EK.fits, Bool.false_eq_true] at h <;> exact ⟨rfl, fun m m' w w' cs h => by simpa only [RC] using h⟩
theorem cell_lt {w : World} {a : Addr} {x : Value} (h : w.cell? a = some x) : a.block < w.heap.size := by
  unfold World.cell? at h
  cases hb : w.heap[a.block]? with
  | none => simp [hb] at h
  | some b => exact (Array.getElem?_eq_some_iff.1 hb).1
theorem resolve_sound (hb : Base m w me kb) : ∀ (pts : List PT) (args : List AV) (vals : List Value) (K : List AV → Look) (e : Eff), RVs m w args vals → (resolve real sh pts args K).run me = some e → e.c →
    ∃ l e0, (K l).run me = some e0 ∧ e0.c ∧ e0.v = e.v ∧ e0.puts = e.puts ∧ RVs (m0 sh m w) w l vals
  | [], [], vals, K, e, hv, h, hc => ⟨[], e, h, hc, rfl, rfl, by simpa only [RVs] using hv⟩
  | .keep :: ts, a :: r, vals, K, e, hv, h, hc => by
    simp only [resolve] at h
    split at h
    · rename_i hn
      simp only [RVs] at hv
      obtain ⟨v, q, rfl, h1, h2⟩ := hv
      obtain ⟨l, e0, g1, g2, g3, g4, g5⟩ := resolve_sound hb ts r q _ e h2 h hc
      exact ⟨a :: l, e0, g1, g2, g3, g4, by simp only [RVs]; exact ⟨v, q, rfl, RV_move m0_stab a v hn h1, g5⟩⟩
    · exact (Look.run_no h).elim
  | .row k :: ts, a :: r, vals, K, e, hv, h, hc => by
    simp only [RVs] at hv
    obtain ⟨v, q, rfl, h1, h2⟩ := hv
    simp only [resolve] at h
    split at h
    · obtain ⟨l, e0, g1, g2, g3, g4, g5⟩ := resolve_sound hb ts r q _ e h2 h hc
      refine ⟨_ :: l, e0, g1, g2, g3, g4, ?_⟩
      simp only [RVs]
      refine ⟨v, q, rfl, ?_, g5⟩
      simp only [RV, CR, List.cons.injEq, and_true] at h1
      subst h1
      simp only [RV, CR]
      exact ⟨none, 0, 0, [], rfl, by cases k <;> simp [EK.nil, RC], by simp, by omega, fun h => by omega⟩
    · rename_i c
      split at h
      · rename_i hf
        obtain ⟨l, e0, g1, g2, g3, g4, g5⟩ := resolve_sound hb ts r q _ e h2 h hc
        refine ⟨_ :: l, e0, g1, g2, g3, g4, ?_⟩
        simp only [RVs]
        refine ⟨v, q, rfl, ?_, g5⟩
        simp only [RV, CR] at h1 ⊢
        obtain ⟨ad, n, cap, ds, k1, k2, k3, k4, k5⟩ := h1
        refine ⟨ad, n, cap, ds, k1, (fits_esz hf).2 _ _ _ _ _ k2, k3, k4, fun hn => ?_⟩
        obtain ⟨b, hb1, hb2⟩ := k5 hn
        refine ⟨b, hb1, ?_, hb2.2⟩
        by_cases hsh : sh = true
        · exact (m0_stab hsh _ hb2.1).2
        · exact ⟨hb2.1.1, by simp [m0, hsh], fun k v hk => by cases hk⟩
      · exact (Look.run_no h).elim
    · by_cases hsh : sh = true
      · rw [hsh] at h; exact (Look.run_no h).elim
      · have hsh : sh = false := by simpa using hsh
        rw [hsh] at h
        simp only at h
        obtain ⟨c, cs, e1, k1, k2, k3, k4, k5, k6, k7⟩ := content_sound hb h1 h hc
        split at k1
        · rename_i hf
          have k1 : (resolve real sh ts r fun l => K (.rb 1 c :: l)).run me = some e1 := by rw [hsh]; exact k1
          obtain ⟨l, e0, g1, g2, g3, g4, g5⟩ := resolve_sound hb ts r q _ e1 h2 k1 k2
          refine ⟨_ :: l, e0, g1, g2, g3.trans k3, g4.trans k4, ?_⟩
          simp only [RVs]
          refine ⟨v, q, rfl, ?_, g5⟩
          obtain ⟨ad, n, cap, rfl, q1, q2, q3⟩ := k7
          simp only [RV, CR]
          refine ⟨ad, n, cap, cs, rfl, (fits_esz hf).2 _ _ _ _ _ k5, by omega, q2, fun hn => ?_⟩
          obtain ⟨b, rfl, hb2⟩ := q3 hn
          refine ⟨b, rfl, ⟨?_, by simp [m0, hsh], fun k v hk => by cases hk⟩, hb2⟩
          cases cs with
          | nil => simp at q1; omega
          | cons x _ => have := cell_lt (hb2 0 x rfl); rwa [add_block] at this
        · exact (Look.run_no k1).elim
  | [], _ :: _, vals, K, e, hv, h, hc => by simp only [resolve] at h; exact (Look.run_no h).elim
  | .keep :: _, [], vals, K, e, hv, h, hc => by simp only [resolve] at h; exact (Look.run_no h).elim
  | .row _ :: _, [], vals, K, e, hv, h, hc => by simp only [resolve] at h; exact (Look.run_no h).elim
end
end Go.Vc
