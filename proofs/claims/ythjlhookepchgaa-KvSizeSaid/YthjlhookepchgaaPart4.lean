/- A part of the proof of given statements: a verified condition generator for the model, and contracts of the program's functions. No condition. -/
import Derived.Test.YthjlhookepchgaaPart3
import Derived.Test.YthjlhookepchgaaProg
import Derived.Test.YthjlhookepchgaaChecked
set_option linter.unusedVariables false
set_option linter.unusedSimpArgs false
set_option linter.constructorNameAsVariable false
set_option linter.unusedVariables false
set_option linter.unusedSimpArgs false
namespace Go.Vc
open Go Go.RowKit

/-! ## Contracts of functions that change nothing that was there -/
mutual
/-- leads to no memory -/
def Sh.plain : Sh → Bool
  | .ss => false
  | .bs => false
  | .sl _ => false
  | .t l => Sh.plains l
  | _ => true
def Sh.plains : List Sh → Bool
  | [] => true
  | a :: l => match a.plain with
    | true => Sh.plains l
    | false => false
end
mutual
/-- no name of memory inside; with 'sh': what lies elsewhere and stays may be led to -/
def AV.nk (sh : Bool) : AV → Bool
  | .i _ => true
  | .w8 _ => true
  | .w16 _ => true
  | .w32 _ => true
  | .w64 _ => true
  | .b _ => true
  | .kb _ => true
  | .s _ => true
  | .ag _ c => AC.nk sh c
  | .nl => true
  | .pn => true
  | .rb _ c => match sh with
    | true => AC.nk sh c
    | false => false
  | .pr a => match sh with
    | true => AV.nk sh a
    | false => false
  | .z => true
  | .mn => true
  | .fv _ l => AL.nk sh l
  | _ => false
def AC.nk (sh : Bool) : AC → Bool
  | .bt _ => true
  | .wh _ => true
  | .wd _ => true
  | .ww _ => true
  | .is _ => true
  | .ss _ => true
  | .vs l => AL.nk sh l
  | .fn _ _ _ => false
  | .ds s _ => match sh with
    | true => true
    | false => s.plain
def AL.nk (sh : Bool) : List AV → Bool
  | [] => true
  | a :: l => match AV.nk sh a with
    | true => AL.nk sh l
    | false => false
end
section
variable {sh : Bool} {m m' : Hd} {w w' : World}
theorem StableAt.move (h : ∀ b, Stable m w b → w'.heap[b]? = w.heap[b]? ∧ Stable m' w' b) {ad : Addr} {ds : List Value} (hs : StableAt m w ad ds) : StableAt m' w' ad ds := by
  obtain ⟨h1, h2⟩ := hs
  obtain ⟨h3, h4⟩ := h _ h1
  refine ⟨h4, fun j x hx => ?_⟩
  rw [← h2 j x hx]
  exact World.cell?_of_block (by rw [add_block]; exact h3)
mutual
theorem DR_move (h : sh = true → ∀ b, Stable m w b → w'.heap[b]? = w.heap[b]? ∧ Stable m' w' b) : ∀ (s : Sh) (d : D) (cs : List Value), (sh = true ∨ s.plain = true) → DR m w s d cs → DR m' w' s d cs
  | .i, d, cs, hn, hc => by simpa only [DR] using hc
  | .w8, d, cs, hn, hc => by simpa only [DR] using hc
  | .w32, d, cs, hn, hc => by simpa only [DR] using hc
  | .w64, d, cs, hn, hc => by simpa only [DR] using hc
  | .b, d, cs, hn, hc => by simpa only [DR] using hc
  | .s, d, cs, hn, hc => by simpa only [DR] using hc
  | .l8 n, d, cs, hn, hc => by simpa only [DR] using hc
  | .ss, d, cs, hn, hc => by
    have hsh : sh = true := by simpa [Sh.plain] using hn
    simp only [DR] at hc ⊢
    obtain ⟨ad, n, cap, ds, h1, h2, h3, h4, h5⟩ := hc
    exact ⟨ad, n, cap, ds, h1, h2, h3, h4, fun hn => let ⟨a, ha, hs⟩ := h5 hn; ⟨a, ha, hs.move (h hsh)⟩⟩
  | .bs, d, cs, hn, hc => by
    have hsh : sh = true := by simpa [Sh.plain] using hn
    simp only [DR] at hc ⊢
    obtain ⟨ad, n, cap, ds, h1, h2, h3, h4, h5⟩ := hc
    exact ⟨ad, n, cap, ds, h1, h2, h3, h4, fun hn => let ⟨a, ha, hs⟩ := h5 hn; ⟨a, ha, hs.move (h hsh)⟩⟩
  | .t l, d, cs, hn, hc => by
    simp only [DR] at hc ⊢
    exact DRs_move h l d 0 cs (hn.imp id (fun h => by simpa only [Sh.plain] using h)) hc
  | .sl s, d, cs, hn, hc => by
    have hsh : sh = true := by simpa [Sh.plain] using hn
    simp only [DR] at hc ⊢
    obtain ⟨ad, n, cap, ds, h1, ⟨css, g1, g2, g3⟩, h3, h4, h5⟩ := hc
    exact ⟨ad, n, cap, ds, h1, ⟨css, g1, g2, fun j x y hx hy => ⟨(g3 j x y hx hy).1, DR_move h s y x (.inl hsh) (g3 j x y hx hy).2⟩⟩, h3, h4, fun hn => let ⟨a, ha, hs⟩ := h5 hn; ⟨a, ha, hs.move (h hsh)⟩⟩
theorem DRs_move (h : sh = true → ∀ b, Stable m w b → w'.heap[b]? = w.heap[b]? ∧ Stable m' w' b) : ∀ (l : List Sh) (d : D) (j : Nat) (cs : List Value), (sh = true ∨ Sh.plains l = true) → DRs m w l d j cs → DRs m' w' l d j cs
  | [], d, j, cs, hn, hc => by simpa only [DRs] using hc
  | a :: l, d, j, cs, hn, hc => by
    simp only [DRs] at hc ⊢
    obtain ⟨c1, c2, h1, h2, h3⟩ := hc
    have hn' : (sh = true ∨ a.plain = true) ∧ (sh = true ∨ Sh.plains l = true) := by
      rcases hn with hn | hn
      · exact ⟨.inl hn, .inl hn⟩
      · simp only [Sh.plains] at hn
        split at hn
        · exact ⟨.inr (by assumption), .inr hn⟩
        · cases hn
    exact ⟨c1, c2, h1, DR_move h a _ c1 hn'.1 h2, DRs_move h l d (j + 1) c2 hn'.2 h3⟩
end
mutual
theorem CR_move (h : sh = true → ∀ b, Stable m w b → w'.heap[b]? = w.heap[b]? ∧ Stable m' w' b) : ∀ (a : AV) (cs : List Value), a.nk sh = true → CR m w a cs → CR m' w' a cs
  | .u, cs, hn, hc => by simp [AV.nk] at hn
  | .i n, cs, hn, hc => by simpa [CR] using hc
  | .w8 x, cs, hn, hc => by simpa [CR] using hc
  | .w16 x, cs, hn, hc => by simpa [CR] using hc
  | .w32 x, cs, hn, hc => by simpa [CR] using hc
  | .w64 x, cs, hn, hc => by simpa [CR] using hc
  | .b x, cs, hn, hc => by simpa [CR] using hc
  | .kb x, cs, hn, hc => by simpa [CR] using hc
  | .s x, cs, hn, hc => by simpa [CR] using hc
  | .ag n c, cs, hn, hc => by simp only [AV.nk] at hn; simp only [CR] at hc ⊢; exact ⟨hc.1, RC_move h c cs hn hc.2⟩
  | .tup l, cs, hn, hc => by simp [AV.nk] at hn
  | .p k g o, cs, hn, hc => by simp [AV.nk] at hn
  | .pe k g o e i, cs, hn, hc => by simp [AV.nk] at hn
  | .pr a, cs, hn, hc => by
    have hsh : sh = true := by cases hq : sh <;> simp [AV.nk, hq] at hn ⊢
    have hn' : a.nk sh = true := by simpa only [AV.nk, hsh] using hn
    simp only [CR] at hc ⊢
    obtain ⟨ad, ds, h1, h2, h3⟩ := hc
    exact ⟨ad, ds, h1, CR_move h a ds hn' h2, h3.move (h hsh)⟩
  | .sl k g o e a n, cs, hn, hc => by simp [AV.nk] at hn
  | .rb e c, cs, hn, hc => by
    have hsh : sh = true := by cases hq : sh <;> simp [AV.nk, hq] at hn ⊢
    have hn' : c.nk sh = true := by simpa only [AV.nk, hsh] using hn
    simp only [CR] at hc ⊢
    obtain ⟨ad, n, cap, ds, h1, h2, h3, h4, h5⟩ := hc
    exact ⟨ad, n, cap, ds, h1, RC_move h c ds hn' h2, h3, h4, fun hn => let ⟨a, ha, hs⟩ := h5 hn; ⟨a, ha, hs.move (h hsh)⟩⟩
  | .rw k, cs, hn, hc => by simp [AV.nk] at hn
  | .nl, cs, hn, hc => by simpa [CR] using hc
  | .pn, cs, hn, hc => by simpa [CR] using hc
  | .z, cs, hn, hc => by simpa [CR] using hc
  | .mn, cs, hn, hc => by simpa [CR] using hc
  | .fv f l, cs, hn, hc => by
    simp only [AV.nk] at hn
    simp only [CR] at hc ⊢
    obtain ⟨vs, h1, h2⟩ := hc
    exact ⟨vs, h1, LR_move h l vs hn h2⟩
  | .cl k, cs, hn, hc => by simp [AV.nk] at hn
  | .mh k, cs, hn, hc => by simp [AV.nk] at hn
  | .pf _ _ _ _ _ _ _, cs, hn, hc => by simp [AV.nk] at hn
theorem RC_move (h : sh = true → ∀ b, Stable m w b → w'.heap[b]? = w.heap[b]? ∧ Stable m' w' b) : ∀ (c : AC) (cs : List Value), c.nk sh = true → RC m w c cs → RC m' w' c cs
  | .bt xs, cs, hn, hc => by simpa [RC] using hc
  | .wh xs, cs, hn, hc => by simpa [RC] using hc
  | .wd xs, cs, hn, hc => by simpa [RC] using hc
  | .ww xs, cs, hn, hc => by simpa [RC] using hc
  | .is xs, cs, hn, hc => by simpa [RC] using hc
  | .ss xs, cs, hn, hc => by simpa [RC] using hc
  | .vs l, cs, hn, hc => by simp only [AC.nk] at hn; simp only [RC] at hc ⊢; exact LR_move h l cs hn hc
  | .fn e n f, cs, hn, hc => by simp [AC.nk] at hn
  | .ds s xs, cs, hn, hc => by
    have hn' : sh = true ∨ s.plain = true := by
      simp only [AC.nk] at hn
      split at hn
      · exact .inl rfl
      · exact .inr hn
    simp only [RC] at hc ⊢
    obtain ⟨css, h1, h2, h3⟩ := hc
    exact ⟨css, h1, h2, fun j x y hx hy => ⟨(h3 j x y hx hy).1, DR_move h s y x hn' (h3 j x y hx hy).2⟩⟩
theorem LR_move (h : sh = true → ∀ b, Stable m w b → w'.heap[b]? = w.heap[b]? ∧ Stable m' w' b) : ∀ (l : List AV) (cs : List Value), AL.nk sh l = true → LR m w l cs → LR m' w' l cs
  | [], cs, hn, hc => by simpa [LR] using hc
  | a :: l, cs, hn, hc => by
    simp only [AL.nk] at hn
    split at hn
    · rename_i ha
      simp only [LR] at hc ⊢
      obtain ⟨c1, c2, h1, h2, h3⟩ := hc
      exact ⟨c1, c2, h1, CR_move h a c1 ha h2, LR_move h l c2 hn h3⟩
    · cases hn
end
theorem RV_move (h : sh = true → ∀ b, Stable m w b → w'.heap[b]? = w.heap[b]? ∧ Stable m' w' b) (a : AV) (v : Value) (hn : a.nk sh = true) (hv : RV m w a v) : RV m' w' a v := by
  cases a with
  | ag n c =>
    simp only [AV.nk] at hn
    simp only [RV] at hv ⊢
    obtain ⟨cs, h1, h2, h3⟩ := hv
    exact ⟨cs, h1, h2, RC_move h c cs hn h3⟩
  | tup l => simp [AV.nk] at hn
  | u => simp [RV]
  | _ => simp only [RV] at hv ⊢; exact CR_move h _ _ hn hv
end

/-- a parameter: as it is; a slice, told by what lies in it -/
inductive PT where
  | keep
  | row (k : EK)
/-- a result: as it is; a new array of the call's own -/
inductive PR where
  | val (a : AV)
  | row (T e : Nat) (c : AC)
def EK.fits : EK → AC → Bool
  | .kB, .bt _ => true
  | .kH, .wh _ => true
  | .kW, .wd _ => true
  | .kQ, .ww _ => true
  | .kI, .is _ => true
  | .kS, .ss _ => true
  | .kD s, .ds s' _ => Sh.beq s s'
  | _, _ => false
def resolve (F : Fs) (sh : Bool) : List PT → List AV → (List AV → Look) → Look
  | [], [], K => K []
  | .keep :: ts, a :: r, K => match a.nk sh with
    | true => resolve F sh ts r fun l => K (a :: l)
    | false => .no
  | .row k :: ts, a :: r, K => match a with
    | .nl => resolve F sh ts r fun l => K (.rb k.esz k.nil :: l)
    | .z => resolve F sh ts r fun l => K (.rb k.esz k.nil :: l)
    | .rb e c => match Nat.beq e k.esz, k.fits c, AC.nk sh c with
      | true, true, true => resolve F sh ts r fun l => K (.rb k.esz c :: l)
      | _, _, _ => .no
    | a => match sh with
      | true => .no
      | false => withContent F a k.esz fun c => match k.fits c, AC.nk sh c with
        | true, true => resolve F sh ts r fun l => K (.rb k.esz c :: l)
        | _, _ => .no
  | _, _, _ => .no
def outs : Nat → List PR → List AV
  | _, [] => []
  | kb, .val a :: r => a :: outs kb r
  | kb, .row _ _ _ :: r => .rw kb :: outs (Nat.succ kb) r
def newRows : Nat → List PR → Mem
  | _, [] => []
  | kb, .val _ :: r => newRows kb r
  | kb, .row T e c :: r => (kb, .row T e c) :: newRows (Nat.succ kb) r
def nRows : List PR → Nat
  | [] => 0
  | .val _ :: r => nRows r
  | .row _ _ _ :: r => Nat.succ (nRows r)
abbrev Law := List AV → Option (Prop × List PR)
def pureSpec (F : Fs) (sh : Bool) (pts : List PT) (g : Law) : Spec := fun args kb =>
  resolve F sh pts args fun l => match g l with
    | some (c, rs) => match Nat.ble (nRows rs) 8 with
      | true => .ret ⟨c, tupAV (outs kb rs), newRows kb rs⟩
      | false => .no
    | none => .no
def lmem (k : Nat) : List Nat → Bool
  | [] => false
  | j :: r => match Nat.beq k j with
    | true => true
    | false => lmem k r
def retM (sh : Bool) (s : AS) : List AV → List PR → List Nat → Prop
  | [], [], _ => True
  | a :: r, .val b :: ps, us => match b.nk sh with
    | true => avLe [] a b ∧ retM sh s r ps us
    | false => False
  | a :: r, .row T e c :: ps, us => match c.nk sh with
    | true => match a with
      | .rw k => match lmem k us with
        | true => False
        | false => match mlook s.me k with
          | some (.row T' e' c') => (Nat.beq T' T = true ∧ Nat.beq e' e = true ∧ acLe [] c' c) ∧ retM sh s r ps (k :: us)
          | _ => False
      | .nl => acNil c ∧ retM sh s r ps us
      | .z => acNil c ∧ retM sh s r ps us
      | _ => False
    | false => False
  | _, _, _ => False
def retOk (F : Fs) (tt : TT) (sh : Bool) (fr : List ResultVar) (rs : List PR) : VX → AS → Prop :=
  endK F tt fr fun l s => retM sh s l rs []

section
variable {P : Program} {sh : Bool} {m : Hd} {w : World} {me : Mem} {kb : Nat}
/-- the callee's start: no name leads anywhere -/
def m0 (sh : Bool) (m : Hd) (w : World) : Hd := ⟨fun _ => none, match sh with
  | true => fun b => Stable m w b ∨ w.heap.size ≤ b
  | false => fun _ => True, fun _ => False⟩
theorem m0_stab (h : sh = true) : ∀ b, Stable m w b → w.heap[b]? = w.heap[b]? ∧ Stable (m0 sh m w) w b := by
  subst h
  exact fun b hb => ⟨rfl, hb.1, .inl hb, .inr fun k v hk => by cases hk⟩
theorem cell_lt {w : World} {a : Addr} {x : Value} (h : w.cell? a = some x) : a.block < w.heap.size := by
  unfold World.cell? at h
  cases hb : w.heap[a.block]? with
  | none => simp [hb] at h
  | some b => exact (Array.getElem?_eq_some_iff.1 hb).1
theorem resolve_sound (hb : Base m w me kb) : ∀ (pts : List PT) (args : List AV) (vals : List Value) (K : List AV → Look) (e : Eff), RVs m w args vals → (resolve real sh pts args K).run me = some e → e.c →
    ∃ l e0, (K l).run me = some e0 ∧ e0.c ∧ e0.v = e.v ∧ e0.puts = e.puts ∧ RVs (m0 sh m w) w l vals
  | [], [], vals, K, e, hv, h, hc => ⟨[], e, h, hc, rfl, rfl, by simpa only [RVs] using hv⟩
  | .keep :: ts, a :: r, vals, K, e, hv, h, hc => by
    simp only [resolve] at h
    split at h
    · rename_i hn
      simp only [RVs] at hv
      obtain ⟨v, q, rfl, h1, h2⟩ := hv
      obtain ⟨l, e0, g1, g2, g3, g4, g5⟩ := resolve_sound hb ts r q _ e h2 h hc
      exact ⟨a :: l, e0, g1, g2, g3, g4, by simp only [RVs]; exact ⟨v, q, rfl, RV_move m0_stab a v hn h1, g5⟩⟩
    · exact (Look.run_no h).elim
  | .row k :: ts, a :: r, vals, K, e, hv, h, hc => by
    simp only [RVs] at hv
    obtain ⟨v, q, rfl, h1, h2⟩ := hv
    have empty : ∀ ad, v = .slice ad 0 0 → RV (m0 sh m w) w (.rb k.esz k.nil) v := by
      rintro ad rfl
      simp only [RV, CR]
      exact ⟨ad, 0, 0, [], rfl, by cases k <;> simp [EK.nil, RC], by simp, by omega, fun h => by omega⟩
    simp only [resolve] at h
    split at h
    · obtain ⟨l, e0, g1, g2, g3, g4, g5⟩ := resolve_sound hb ts r q _ e h2 h hc
      refine ⟨_ :: l, e0, g1, g2, g3, g4, ?_⟩
      simp only [RVs]
      refine ⟨v, q, rfl, ?_, g5⟩
      simp only [RV, CR, List.cons.injEq, and_true] at h1
      exact empty none h1
    · obtain ⟨l, e0, g1, g2, g3, g4, g5⟩ := resolve_sound hb ts r q _ e h2 h hc
      refine ⟨_ :: l, e0, g1, g2, g3, g4, ?_⟩
      simp only [RVs]
      refine ⟨v, q, rfl, ?_, g5⟩
      simp only [RV, CR, List.cons.injEq, and_true] at h1
      obtain ⟨ad, h1⟩ := h1
      exact empty ad h1
    · rename_i e' c
      split at h
      · rename_i he' hf hnk
        have he' := beq_nat he'
        subst he'
        obtain ⟨l, e0, g1, g2, g3, g4, g5⟩ := resolve_sound hb ts r q _ e h2 h hc
        refine ⟨_ :: l, e0, g1, g2, g3, g4, ?_⟩
        simp only [RVs]
        refine ⟨v, q, rfl, ?_, g5⟩
        simp only [RV, CR] at h1 ⊢
        obtain ⟨ad, n, cap, ds, k1, k2, k3, k4, k5⟩ := h1
        refine ⟨ad, n, cap, ds, k1, RC_move m0_stab c ds hnk k2, k3, k4, fun hn => ?_⟩
        obtain ⟨b, hb1, hb2⟩ := k5 hn
        refine ⟨b, hb1, ?_, hb2.2⟩
        by_cases hsh : sh = true
        · exact (m0_stab hsh _ hb2.1).2
        · exact ⟨hb2.1.1, by simp [m0, hsh], .inr fun k v hk => by cases hk⟩
      · exact (Look.run_no h).elim
    · by_cases hsh : sh = true
      · rw [hsh] at h; exact (Look.run_no h).elim
      · have hsh : sh = false := by simpa using hsh
        rw [hsh] at h
        simp only at h
        obtain ⟨c, cs, e1, k1, k2, k3, k4, k5, k6, k6b, k7⟩ := content_sound hb h1 h hc
        split at k1
        · rename_i hf hnk
          have k1 : (resolve real sh ts r fun l => K (.rb k.esz c :: l)).run me = some e1 := by rw [hsh]; exact k1
          obtain ⟨l, e0, g1, g2, g3, g4, g5⟩ := resolve_sound hb ts r q _ e1 h2 k1 k2
          refine ⟨_ :: l, e0, g1, g2, g3.trans k3, g4.trans k4, ?_⟩
          simp only [RVs]
          refine ⟨v, q, rfl, ?_, g5⟩
          obtain ⟨ad, cap, rfl, q1, q2, q3⟩ := k7
          simp only [RV, CR]
          refine ⟨ad, _, cap, cs, rfl, RC_move m0_stab c cs (by rw [hsh]; exact hnk) k5, q1, q2, fun hn => ?_⟩
          obtain ⟨b, rfl, hb2⟩ := q3 hn
          refine ⟨b, rfl, ⟨?_, by simp [m0, hsh], .inr fun k v hk => by cases hk⟩, hb2⟩
          cases cs with
          | nil =>
            have := Nat.mul_pos hn k6b
            simp at q1; omega
          | cons x _ => have := cell_lt (hb2 0 x rfl); rwa [add_block] at this
        · exact (Look.run_no k1).elim
  | [], _ :: _, vals, K, e, hv, h, hc => by simp only [resolve] at h; exact (Look.run_no h).elim
  | .keep :: _, [], vals, K, e, hv, h, hc => by simp only [resolve] at h; exact (Look.run_no h).elim
  | .row _ :: _, [], vals, K, e, hv, h, hc => by simp only [resolve] at h; exact (Look.run_no h).elim
end
end Go.Vc
set_option linter.unusedVariables false
set_option linter.unusedSimpArgs false
namespace Go.Vc
open Go Go.RowKit
section
variable {P : Program} {sh : Bool} {m : Hd} {w : World} {me : Mem} {kb : Nat}
/-- the new arrays: the callee's name, the value, what lies there -/
abbrev NewRow := Option Nat × Value × AB
structure NewOk (m1 mc : Hd) (w1 : World) (sh : Bool) (s : AS) (us : List Nat) (r : NewRow) : Prop where
  row : ∃ T e c n cs, r.2.2 = .row T e c ∧ c.nk sh = true ∧ OwnRow w1 T e r.2.1 n cs ∧ RC mc w1 c cs
  key : (r.1 = none ∧ ∃ ad, r.2.1 = .slice ad 0 0) ∨ ∃ u ab, r.1 = some u ∧ u ∉ us ∧ m1 u = some r.2.1 ∧ mlook s.me u = some ab ∧ ab.live = true
/-- results against what the contract says -/
inductive RetR (m1 mc : Hd) (w1 : World) (sh : Bool) (N : AV → Bool) (s : AS) : List PR → List Value → List NewRow → List Nat → Prop
  | nil (us : List Nat) : RetR m1 mc w1 sh N s [] [] [] us
  | val (b : AV) (v : Value) (ps : List PR) (vs : List Value) (rs : List NewRow) (us : List Nat) : N b = true → RV mc w1 b v → RetR m1 mc w1 sh N s ps vs rs us → RetR m1 mc w1 sh N s (.val b :: ps) (v :: vs) rs us
  | row (T e : Nat) (c : AC) (r : NewRow) (ps : List PR) (vs : List Value) (rs : List NewRow) (us us' : List Nat) : r.2.2 = .row T e c → NewOk m1 mc w1 sh s us r →
      (∀ u, r.1 = some u → u ∈ us') → (∀ u, u ∈ us → u ∈ us') → RetR m1 mc w1 sh N s ps vs rs us' → RetR m1 mc w1 sh N s (.row T e c :: ps) (r.2.1 :: vs) (r :: rs) us
theorem lmem_spec {k : Nat} : ∀ {l : List Nat}, lmem k l = false → k ∉ l
  | [], h => by simp
  | j :: r, h => by
    simp only [lmem] at h
    split at h
    · cases h
    · rename_i hb
      intro hm
      rcases List.mem_cons.1 hm with e | e
      · subst e; simp at hb
      · exact lmem_spec h e
theorem retM_sound {m1 : Hd} {w1 : World} {s : AS} (hm : MemR m1 w1 s.me) : ∀ (l : List AV) (ps : List PR) (us : List Nat) (vs : List Value), retM sh s l ps us → RVs m1 w1 l vs → ∃ rs, RetR m1 m1 w1 sh (AV.nk sh) s ps vs rs us
  | [], [], us, vs, h, hv => by simp only [RVs] at hv; subst hv; exact ⟨[], .nil us⟩
  | a :: r, .val b :: ps, us, vs, h, hv => by
    simp only [RVs] at hv
    obtain ⟨v, q, rfl, h1, h2⟩ := hv
    simp only [retM] at h
    split at h
    · rename_i hn
      obtain ⟨rs, hr⟩ := retM_sound hm r ps us q h.2 h2
      exact ⟨rs, .val b v ps q rs us hn (RV_leG .none a b v h.1 (fun e => by subst e; simp [AV.nk] at hn) h1) hr⟩
    · exact h.elim
  | a :: r, .row T e c :: ps, us, vs, h, hv => by
    simp only [RVs] at hv
    obtain ⟨v, q, rfl, h1, h2⟩ := hv
    simp only [retM] at h
    split at h
    · rename_i hn
      split at h
      · rename_i k
        split at h
        · exact h.elim
        · rename_i hus
          split at h
          · rename_i T' e' c' hl
            obtain ⟨⟨e1, e2, h3⟩, h4⟩ := h
            have e1 := beq_nat e1; have e2 := beq_nat e2; subst e1; subst e2
            obtain ⟨rs, hr⟩ := retM_sound hm r ps (k :: us) q h4 h2
            obtain ⟨v', n, cs, g1, g2, g3⟩ := hm.at_ k _ hl
            simp only [RV, CR] at h1
            obtain ⟨v'', g4, g5, _⟩ := h1
            simp only [List.cons.injEq, and_true] at g5
            subst g5
            rw [g1] at g4; cases g4
            exact ⟨_, .row _ _ c (some k, v, .row T' e' c) ps q rs us (k :: us) rfl ⟨⟨T', e', c, n, cs, rfl, hn, g2, RC_leG .none c' c cs h3 g3⟩, .inr ⟨k, _, rfl, lmem_spec hus, g1, hl, rfl⟩⟩
              (fun u hu => by cases hu; simp) (fun u hu => by simp [hu]) hr⟩
          · exact h.elim
      · obtain ⟨h3, h4⟩ := h
        obtain ⟨rs, hr⟩ := retM_sound hm r ps us q h4 h2
        simp only [RV, CR, List.cons.injEq, and_true] at h1
        subst h1
        exact ⟨_, .row T e c (none, .slice none 0 0, .row T e c) ps q rs us us rfl ⟨⟨T, e, c, 0, [], rfl, hn, ⟨by simp, .inl ⟨none, rfl, rfl⟩⟩, acNil_RC h3⟩, .inl ⟨rfl, none, rfl⟩⟩
          (fun u hu => by cases hu) (fun u hu => hu) hr⟩
      · obtain ⟨h3, h4⟩ := h
        obtain ⟨rs, hr⟩ := retM_sound hm r ps us q h4 h2
        simp only [RV, CR, List.cons.injEq, and_true] at h1
        obtain ⟨ad, h1⟩ := h1
        subst h1
        exact ⟨_, .row T e c (none, .slice ad 0 0, .row T e c) ps q rs us us rfl ⟨⟨T, e, c, 0, [], rfl, hn, ⟨by simp, .inl ⟨ad, rfl, rfl⟩⟩, acNil_RC h3⟩, .inl ⟨rfl, ad, rfl⟩⟩
          (fun u hu => by cases hu) (fun u hu => hu) hr⟩
      · exact h.elim
    · exact h.elim
  | [], _ :: _, us, vs, h, hv => by simp [retM] at h
  | _ :: _, [], us, vs, h, hv => by simp [retM] at h

theorem RetR.len {m1 mc : Hd} {N : AV → Bool} {w1 : World} {s : AS} {ps : List PR} {vs : List Value} {rs : List NewRow} {us : List Nat} (h : RetR m1 mc w1 sh N s ps vs rs us) : rs.length = nRows ps := by
  induction h with
  | nil => rfl
  | val _ _ _ _ _ _ _ _ _ ih => simpa [nRows] using ih
  | row _ _ _ _ _ _ _ _ _ _ _ _ _ _ ih => simp [nRows, ih]
theorem RetR.all {m1 mc : Hd} {N : AV → Bool} {w1 : World} {s : AS} {ps : List PR} {vs : List Value} {rs : List NewRow} {us : List Nat} (h : RetR m1 mc w1 sh N s ps vs rs us) :
    (∀ r ∈ rs, NewOk m1 mc w1 sh s us r) ∧ rs.Pairwise fun a b => ∀ u, a.1 = some u → b.1 ≠ some u := by
  induction h with
  | nil => simp
  | val _ _ _ _ _ _ _ _ _ ih => exact ih
  | row T e c r ps vs rs us us' h1 h2 h3 h4 _ ih =>
    refine ⟨fun q hq => ?_, List.pairwise_cons.2 ⟨fun q hq u hu hu' => ?_, ih.2⟩⟩
    · rcases List.mem_cons.1 hq with rfl | hq
      · exact h2
      · obtain ⟨g1, g2⟩ := ih.1 q hq
        exact ⟨g1, g2.imp id fun ⟨u, ab, k1, k2, k3⟩ => ⟨u, ab, k1, fun hm => k2 (h4 u hm), k3⟩⟩
    · rcases (ih.1 q hq).key with ⟨g1, _⟩ | ⟨u', ab, k1, k2, k3⟩
      · rw [g1] at hu'; cases hu'
      · rw [k1] at hu'; cases hu'
        exact k2 (h3 u hu)

/-- the caller's names behind the call -/
def mNew (m : Hd) (kb : Nat) (pb : Nat → Prop) (rs : List NewRow) : Hd := ⟨fun t => if kb ≤ t ∧ t < kb + rs.length then (rs[t - kb]?).map (·.2.1) else m t, m.ok, pb⟩
theorem mNew_in {pb : Nat → Prop} {rs : List NewRow} {i : Nat} {r : NewRow} (h : rs[i]? = some r) : (mNew m kb pb rs) (kb + i) = some r.2.1 := by
  have hi := (List.getElem?_eq_some_iff.1 h).1
  show (if kb ≤ kb + i ∧ kb + i < kb + rs.length then _ else _) = _
  rw [if_pos ⟨by omega, by omega⟩]
  simp [h]
theorem mNew_cases {pb : Nat → Prop} {rs : List NewRow} {t : Nat} {v : Value} (h : (mNew m kb pb rs) t = some v) : (∃ i r, t = kb + i ∧ rs[i]? = some r ∧ v = r.2.1) ∨ (¬ (kb ≤ t ∧ t < kb + rs.length) ∧ m t = some v) := by
  have h' : (if kb ≤ t ∧ t < kb + rs.length then (rs[t - kb]?).map (·.2.1) else m t) = some v := h
  split at h'
  · rename_i hi
    cases hr : rs[t - kb]? with
    | none => rw [hr] at h'; cases h'
    | some r => rw [hr] at h'; cases h'; exact .inl ⟨t - kb, r, by omega, hr, rfl⟩
  · rename_i hi
    exact .inr ⟨hi, h'⟩
theorem mlook_new : ∀ (ps : List PR) (vs : List Value) (rs : List NewRow) (us : List Nat) (m1 mc : Hd) (N : AV → Bool) (w1 : World) (s : AS) (kb t : Nat), RetR m1 mc w1 sh N s ps vs rs us →
    mlook (mputs (newRows kb ps) me) t = if kb ≤ t ∧ t < kb + rs.length then (rs[t - kb]?).map (·.2.2) else mlook me t := by
  intro ps vs rs us m1 mc N w1 s kb t h
  induction h generalizing kb with
  | nil => simp [newRows, mputs]; omega
  | val _ _ _ _ _ _ _ _ _ ih => exact ih kb
  | row T e c r ps vs rs us us' h1 h2 h3 h4 _ ih =>
    simp only [newRows, mputs]
    rw [mlook_cons]
    by_cases e1 : kb = t
    · subst e1
      simp [h1]
    · rw [if_neg e1, ih (kb + 1)]
      by_cases e2 : kb + 1 ≤ t ∧ t < kb + 1 + rs.length
      · rw [if_pos e2, if_pos (by simp; omega)]
        have e3 : t - kb = (t - (kb + 1)) + 1 := by omega
        rw [e3]; simp
      · rw [if_neg e2, if_neg (by simp; omega)]
theorem outs_sound {m1 mc : Hd} {N : AV → Bool} {w1 : World} {s : AS} {m' : Hd} (hmv : ∀ b v, N b = true → RV mc w1 b v → RV m' w1 b v) :
    ∀ (ps : List PR) (vs : List Value) (rs : List NewRow) (us : List Nat) (kb : Nat), RetR m1 mc w1 sh N s ps vs rs us → (∀ i r, rs[i]? = some r → m' (kb + i) = some r.2.1) → RVs m' w1 (outs kb ps) vs := by
  intro ps vs rs us kb h
  induction h generalizing kb with
  | nil => intro _; simp [outs, RVs]
  | val b v ps vs rs us h1 h2 _ ih =>
    intro hm
    simp only [outs, RVs]
    exact ⟨v, vs, rfl, hmv b v h1 h2, ih kb hm⟩
  | row T e c r ps vs rs us us' h1 h2 h3 h4 _ ih =>
    intro hm
    simp only [outs, RVs]
    refine ⟨r.2.1, vs, rfl, ?_, ih (kb + 1) fun i q hq => ?_⟩
    · simp only [RV, CR]
      refine ⟨_, by simpa using hm 0 r (by simp), rfl, ?_⟩
      obtain ⟨_, _, _, _, _, _, _, ho, _⟩ := h2.row
      rcases ho.2 with ⟨_, e, _⟩ | ⟨_, _, _, _, _, e, _⟩ <;> rw [e] <;> rfl
    · have := hm (i + 1) q (by simpa using hq)
      rw [← this]; congr 1; omega
end
end Go.Vc
set_option linter.unusedVariables false
set_option linter.unusedSimpArgs false
namespace Go.Vc
open Go Go.RowKit
section
variable {P : Program} {sh : Bool} {m : Hd} {w : World} {me : Mem} {kb : Nat}
theorem ret_ok {m1 : Hd} {w1 : World} {s : AS} {ps : List PR} {vs : List Value} {rs : List NewRow} {nk : Nat} (hb : Base m w me kb) (h3 : StM ⟨w, [], (m0 sh m w).ok, none, [], fun _ => False⟩ s.me nk m1 w1)
    (hr : RetR m1 m1 w1 sh (AV.nk sh) s ps vs rs []) (hn : nRows ps ≤ 8) :
    ∃ m', OkE m w me kb (tupAV (outs kb ps)) (newRows kb ps) (if h : vs.toArray.size = 1 then vs.toArray[0] else .tuple vs.toArray) m' w1 := by
  have hlen := hr.len
  obtain ⟨hall, hpw⟩ := hr.all
  have hnew : ∀ r ∈ rs, ∀ b, blk r.2.1 = some b → w.heap.size ≤ b ∧ ∃ u ab, r.1 = some u ∧ m1 u = some r.2.1 ∧ mlook s.me u = some ab ∧ ab.live = true := by
    intro r hr b hbk
    rcases (hall r hr).key with ⟨_, ad, h2⟩ | ⟨u, ab, h1, _, h2, h4, h5⟩
    · rw [h2, blk_slice0] at hbk; cases hbk
    · rcases h3.fr.own u _ b h2 hbk with h6 | h6
      · exact ⟨h6, u, ab, h1, h2, h4, h5⟩
      · simp at h6
  have hpbn : ∀ b, m1.pub b → w.heap.size ≤ b := fun b hp => by
    rcases Nat.lt_or_ge b w.heap.size with h | h
    · exact (h3.fr.pub b hp h (by simp)).elim
    · exact h
  let pb : Nat → Prop := fun b => m.pub b ∨ m1.pub b
  have tr : Tr m w (mNew m kb pb rs) w1 := by
    refine ⟨fun k v hk => ?_, rfl, fun b h => .inl h, fun b h => h.imp id (fun h => .inr (hpbn b h)), h3.fr.size, fun b hb' _ => h3.fr.block b hb' (by simp), fun k v b hk hv => ?_, h3.fr.os, h3.fr.tape, h3.fr.output⟩
    · show (if kb ≤ k ∧ k < kb + rs.length then _ else _) = _
      rw [if_neg]
      · exact hk
      · rintro ⟨h1, h2⟩
        rw [hb.fresh k h1 (by omega)] at hk; cases hk
    · rcases mNew_cases hk with ⟨i, r, rfl, hi, rfl⟩ | ⟨_, hk⟩
      · exact .inr (hnew r (List.mem_of_getElem? hi) b hv).1
      · exact .inl ⟨k, v, hk, hv⟩
  have hmv : sh = true → ∀ b, Stable m1 w1 b → w1.heap[b]? = w1.heap[b]? ∧ Stable (mNew m kb pb rs) w1 b := by
    intro hsh b hs
    have h1 : Stable m w b ∨ w.heap.size ≤ b := by
      have := hs.2.1
      have h2 : m1.ok = (m0 sh m w).ok := h3.fr.ok
      rw [h2] at this
      simpa [m0, hsh] using this
    rcases h1 with h1 | h1
    · exact ⟨rfl, (tr.pres.stab b h1).2⟩
    · refine ⟨rfl, hs.1, hb.mem.okn b h1, ?_⟩
      rcases hs.2.2 with hp | hn
      · exact .inl (.inr hp)
      · refine .inr fun k v hk hv => ?_
        rcases mNew_cases hk with ⟨i, r, rfl, hi, rfl⟩ | ⟨_, hk0⟩
        · obtain ⟨_, u, _, _, k2, _⟩ := hnew r (List.mem_of_getElem? hi) b hv
          exact hn u _ k2 hv
        · have := hb.bd k v b hk0 hv; omega
  have hml := fun t => mlook_new (me := me) ps vs rs [] m1 _ _ w1 s kb t hr
  refine ⟨mNew m kb pb rs, tr, tupAV_sound (outs_sound (fun b v h1 h2 => RV_move hmv b v h1 h2) ps vs rs [] kb hr fun i r hi => mNew_in hi), ⟨fun t ab hab => ?_, fun t t' ab ab' v v' b hab hab' hl hl' hne hv hv' hbk => ?_, fun b hp => hp.elim (fun h => Nat.lt_of_lt_of_le (hb.mem.pubs b h) h3.fr.size) (h3.mem.pubs b), fun t ab v b hab hl hv hbk hp => ?_, fun t ab v b hab hl hv hbk => ?_, fun b h => hb.mem.okn b (Nat.le_trans h3.fr.size h)⟩, fun k hk => ?_, fun k v b hk hv => ?_⟩
  · rw [hml] at hab
    split at hab
    · rename_i hin
      cases hq : rs[t - kb]? with
      | none => rw [hq] at hab; cases hab
      | some r =>
        rw [hq] at hab; cases hab
        obtain ⟨T, e, c, n, cs, h1, h2, h4, h5⟩ := (hall r (List.mem_of_getElem? hq)).row
        show ABR _ _ _ r.2.2
        rw [h1]
        have := mNew_in (m := m) (kb := kb) (pb := pb) hq
        rw [show kb + (t - kb) = t by omega] at this
        exact ⟨r.2.1, n, cs, this, h4, RC_move hmv c cs h2 h5⟩
    · exact ABR_keep (hb.mem.at_ t ab hab) (tr.mu t) (fun v b hv hbk => h3.fr.block b (hb.bd t v b hv hbk) (by simp)) tr.pres
  · rw [hml] at hab hab'
    rcases mNew_cases hv with ⟨i, r, rfl, hi, rfl⟩ | ⟨ho, hv0⟩ <;> rcases mNew_cases hv' with ⟨j, q, rfl, hj, rfl⟩ | ⟨ho', hv0'⟩
    · obtain ⟨_, u, au, k1, k2, k3, k4⟩ := hnew r (List.mem_of_getElem? hi) b hbk
      intro hbq
      obtain ⟨_, u', au', k1', k2', k3', k4'⟩ := hnew q (List.mem_of_getElem? hj) b hbq
      have hij : i ≠ j := fun e => hne (by rw [e])
      have hu : u ≠ u' := by
        rcases Nat.lt_or_gt_of_ne hij with h | h
        · have := List.pairwise_iff_getElem.1 hpw i j (List.getElem?_eq_some_iff.1 hi).1 (List.getElem?_eq_some_iff.1 hj).1 h
          rw [(List.getElem?_eq_some_iff.1 hi).2, (List.getElem?_eq_some_iff.1 hj).2] at this
          intro e; exact this u k1 (by rw [k1', e])
        · have := List.pairwise_iff_getElem.1 hpw j i (List.getElem?_eq_some_iff.1 hj).1 (List.getElem?_eq_some_iff.1 hi).1 h
          rw [(List.getElem?_eq_some_iff.1 hi).2, (List.getElem?_eq_some_iff.1 hj).2] at this
          intro e; exact this u' k1' (by rw [k1, e])
      exact h3.mem.apart u u' au au' _ _ b k3 k3' k4 k4' hu k2 k2' hbk hbq
    · have h1 := (hnew r (List.mem_of_getElem? hi) b hbk).1
      intro hbq
      have h2 := hb.bd t' v' b hv0' hbq
      omega
    · intro hbq
      have h1 := (hnew q (List.mem_of_getElem? hj) b hbq).1
      have h2 := hb.bd t v b hv0 hbk
      omega
    · rw [if_neg ho] at hab
      rw [if_neg ho'] at hab'
      exact hb.mem.apart t t' ab ab' v v' b hab hab' hl hl' hne hv0 hv0' hbk
  · rw [hml] at hab
    rcases mNew_cases hv with ⟨i, r, rfl, hi, rfl⟩ | ⟨ho, hv0⟩
    · obtain ⟨hge, u, au, k1, k2, k3, k4⟩ := hnew r (List.mem_of_getElem? hi) b hbk
      rcases hp with hp | hp
      · have := hb.mem.pubs b hp; omega
      · exact h3.mem.live u au _ b k3 k4 k2 hbk hp
    · rw [if_neg ho] at hab
      rcases hp with hp | hp
      · exact hb.mem.live t ab v b hab hl hv0 hbk hp
      · have := hpbn b hp
        have := hb.bd t v b hv0 hbk
        omega
  · rw [hml] at hab
    rcases mNew_cases hv with ⟨i, r, rfl, hi, rfl⟩ | ⟨ho, hv0⟩
    · exact hb.mem.okn b (hnew r (List.mem_of_getElem? hi) b hbk).1
    · rw [if_neg ho] at hab
      exact hb.mem.okl t ab v b hab hl hv0 hbk
  · cases hq : (mNew m kb pb rs) k with
    | none => exact absurd hq hk
    | some v =>
      rcases mNew_cases hq with ⟨i, r, rfl, hi, rfl⟩ | ⟨_, hv⟩
      · have := (List.getElem?_eq_some_iff.1 hi).1
        exact .inr ⟨by omega, by omega⟩
      · exact .inl (by rw [hv]; simp)
  · rcases mNew_cases hk with ⟨i, r, rfl, hi, rfl⟩ | ⟨_, hk⟩
    · obtain ⟨_, u, _, _, k2, _⟩ := hnew r (List.mem_of_getElem? hi) b hv
      exact h3.bd u _ b k2 hv
    · exact Nat.lt_of_lt_of_le (hb.bd k v b hk hv) h3.fr.size

/-- a function that changes nothing that was there: from the conditions of its code, its contract -/
theorem pure_sound {x : Cx} (hx : XOK P x) (hmx : P.follows .mixedOrders = true) {f : Nat} {fn : Func} {body : Code} (hf : P.funcs[f]? = some fn) (hbd : fn.body = some body) (hn : fn.ntmps = x.nt) (hdr : drawsOk x.tt x.dr body = true) {pts : List PT} {g : Law}
    (h : ∀ l c rs, g l = some (c, rs) → c → llen l ≤ x.nt ∧ ∃ an cu, vc real x an cu body ⟨zipSl 0 l, [], 64⟩ (retOk real x.tt sh fn.results.toList rs)) : SpecOK P f (pureSpec real sh pts g) := by
  intro m w me kb args vals e hgi hb hv he hc
  obtain ⟨l, e0, h1, h2, h3, h4, h5⟩ := resolve_sound hb pts args vals _ e hv he hc
  split at h1
  · rename_i c rs hg
    split at h1
    · rename_i hle
      simp only [Look.run, Option.some.injEq] at h1
      subst h1
      obtain ⟨hl, an, cu, hvc⟩ := h l c rs hg h2
      have hlen := RVs_length h5
      rw [llen_eq] at hl
      let E : Env := ⟨w, [], (m0 sh m w).ok, none, [], fun _ => False⟩
      have hokn : ∀ b, w.heap.size ≤ b → (m0 sh m w).ok b := fun b h => by
        cases hs : sh
        · simp [m0]
        · simp only [m0]; exact .inr h
      have hE : GE P E := hgi.ge rfl (fun b h => by
        show (m0 sh m w).ok b
        cases hs : sh
        · simp [m0]
        · simp only [m0]; exact .inl h) (fun b _ h => by cases h)
      have hr : StR E x.nt ⟨zipSl 0 l, [], 64⟩ (m0 sh m w) { tmps := vals.toArray ++ Array.replicate (fn.ntmps - vals.toArray.size) undef, defers := [] } w :=
        ⟨entry_sl h5 _, ⟨fun k ab h => (by simp [mlook] at h), fun k k' ab ab' v v' b h => (by simp [mlook] at h), fun b h => h.elim, fun k ab v b h => (by simp [mlook] at h), fun k ab v b h => (by simp [mlook] at h), hokn⟩, fun k v b hk => (by cases hk), fun k _ => rfl, (by simp; omega), rfl,
          ⟨rfl, rfl, rfl, Nat.le_refl _, rfl, fun _ _ _ => rfl, fun k v b hk => (by cases hk), fun m0 w1 he => (by cases he), fun j v hj => (by cases hj), fun b h => h.elim, fun b h => h.elim⟩⟩
      refine calls_of_wp hf hbd (code_mono (vc_sound hx hE (fun j v hj => (by cases hj)) (.inl rfl) hmx body _ _ hdr hvc _ _ w hr) ?_)
      intro en a w' hp
      refine ends_sound hx.tt (fun l vs s' m1 w1 k1 k2 k3 => ?_) hp
      obtain ⟨rws, hrr⟩ := retM_sound k3.mem l rs [] vs k2 k1
      refine ⟨_, rfl, ?_⟩
      rw [← h3, ← h4]
      exact ret_ok hb k3 hrr (Nat.le_of_ble_eq_true hle)
    · exact (Look.run_no h1).elim
  · exact (Look.run_no h1).elim
end
end Go.Vc
set_option linter.unusedVariables false
set_option linter.unusedSimpArgs false
namespace Go.Vc
open Go Go.RowKit

/-! ## Contracts of functions that are handed what the caller owns -/
mutual
/-- under other names; none: a name that is not known -/
def rnAV (f : Nat → Option Nat) : AV → Option AV
  | .i x => some (.i x)
  | .w8 x => some (.w8 x)
  | .w16 x => some (.w16 x)
  | .w32 x => some (.w32 x)
  | .w64 x => some (.w64 x)
  | .b x => some (.b x)
  | .kb x => some (.kb x)
  | .s x => some (.s x)
  | .ag n c => match rnAC f c with
    | some d => some (.ag n d)
    | none => none
  | .nl => some .nl
  | .pn => some .pn
  | .rb e c => match AC.nk true c with
    | true => some (.rb e c)
    | false => none
  | .pr a => match AV.nk true a with
    | true => some (.pr a)
    | false => none
  | .rw k => match f k with
    | some j => some (.rw j)
    | none => none
  | .p k g o => match f k with
    | some j => some (.p j g o)
    | none => none
  | .sl k g o e a n => match f k with
    | some j => some (.sl j g o e a n)
    | none => none
  | .cl k => match f k with
    | some j => some (.cl j)
    | none => none
  | .mh k => match f k with
    | some j => some (.mh j)
    | none => none
  | .z => some .z
  | .mn => some .mn
  | .fv g l => match rnAL f l with
    | some l' => some (.fv g l')
    | none => none
  | _ => none
def rnAC (f : Nat → Option Nat) : AC → Option AC
  | .bt x => some (.bt x)
  | .wh x => some (.wh x)
  | .wd x => some (.wd x)
  | .ww x => some (.ww x)
  | .is x => some (.is x)
  | .ss x => some (.ss x)
  | .vs l => match rnAL f l with
    | some l' => some (.vs l')
    | none => none
  | .fn _ _ _ => none
  | .ds s xs => some (.ds s xs)
def rnAL (f : Nat → Option Nat) : List AV → Option (List AV)
  | [] => some []
  | a :: l => match rnAV f a, rnAL f l with
    | some b, some l' => some (b :: l')
    | _, _ => none
end
def rnSegs (f : Nat → Option Nat) : List Seg → Option (List Seg)
  | [] => some []
  | (n, c) :: l => match rnAC f c, rnSegs f l with
    | some d, some l' => some ((n, d) :: l')
    | _, _ => none
def rnAB (f : Nat → Option Nat) : AB → Option AB
  | .dead => none
  | .bk T s => match rnSegs f s with
    | some s' => some (.bk T s')
    | none => none
  | .row T e c => match rnAC f c with
    | some d => some (.row T e d)
    | none => none
  | .mp T kk vs M => some (.mp T kk vs M)
  | .it k a b c => match f k with
    | some j => some (.it j a b c)
    | none => none
def rnABs (f : Nat → Option Nat) : List AB → Option (List AB)
  | [] => some []
  | a :: l => match rnAB f a, rnABs f l with
    | some b, some l' => some (b :: l')
    | _, _ => none
def rnPRs (f : Nat → Option Nat) : List PR → Option (List PR)
  | [] => some []
  | .val a :: l => match rnAV f a, rnPRs f l with
    | some b, some l' => some (.val b :: l')
    | _, _ => none
  | .row T e c :: l => match AC.nk true c, rnPRs f l with
    | true, some l' => some (.row T e c :: l')
    | _, _ => none

def sameAll (r : Ren) (f : Nat → Option Nat) : Prop := ∀ k j, f k = some j → rlook r j = some (some k)
theorem sameK_of {r : Ren} {k j : Nat} (h : rlook r j = some (some k)) : sameK r k j := by
  unfold sameK; rw [h]; simp
mutual
theorem Sh.beq_refl : ∀ (x : Sh), Sh.beq x x = true
  | .i => rfl
  | .w8 => rfl
  | .w32 => rfl
  | .w64 => rfl
  | .b => rfl
  | .s => rfl
  | .l8 n => by simp [Sh.beq]
  | .ss => rfl
  | .bs => rfl
  | .t l => by simp only [Sh.beq]; exact Sh.beqs_refl l
  | .sl x => by simp only [Sh.beq]; exact Sh.beq_refl x
theorem Sh.beqs_refl : ∀ (x : List Sh), Sh.beqs x x = true
  | [] => rfl
  | x :: l => by simp only [Sh.beqs, Sh.beq_refl x]; exact Sh.beqs_refl l
end
theorem KK.beq_refl (x : KK) : KK.beq x x = true := by cases x <;> simp [KK.beq]
mutual
theorem nk_le {sh : Bool} (r : Ren) : ∀ (a : AV), a.nk sh = true → avLe r a a
  | .i _, _ => by simp [avLe]
  | .w8 _, _ => by simp [avLe]
  | .w16 _, _ => by simp [avLe]
  | .w32 _, _ => by simp [avLe]
  | .w64 _, _ => by simp [avLe]
  | .b _, _ => by simp [avLe]
  | .kb _, _ => by simp [avLe]
  | .s _, _ => by simp [avLe]
  | .ag n c, h => by simp only [AV.nk] at h; simp only [avLe]; exact ⟨by simp, nkc_le r c h⟩
  | .nl, _ => by simp [avLe]
  | .pn, _ => by simp [avLe]
  | .rb e c, h => by
    have hsh : sh = true := by cases hq : sh <;> simp [AV.nk, hq] at h ⊢
    have h' : c.nk sh = true := by simpa only [AV.nk, hsh] using h
    simp only [avLe]; exact ⟨by simp, nkc_le r c h'⟩
  | .pr a, h => by
    have hsh : sh = true := by cases hq : sh <;> simp [AV.nk, hq] at h ⊢
    have h' : a.nk sh = true := by simpa only [AV.nk, hsh] using h
    simp only [avLe]; exact nk_le r a h'
  | .u, h => by simp [AV.nk] at h
  | .tup _, h => by simp [AV.nk] at h
  | .p _ _ _, h => by simp [AV.nk] at h
  | .pe _ _ _ _ _, h => by simp [AV.nk] at h
  | .sl _ _ _ _ _ _, h => by simp [AV.nk] at h
  | .rw _, h => by simp [AV.nk] at h
  | .cl _, h => by simp [AV.nk] at h
  | .mh _, h => by simp [AV.nk] at h
  | .pf _ _ _ _ _ _ _, h => by simp [AV.nk] at h
  | .z, _ => by simp [avLe]
  | .mn, _ => by simp [avLe]
  | .fv f l, h => by simp only [AV.nk] at h; simp only [avLe]; exact ⟨by simp, nkl_le r l h⟩
theorem nkc_le {sh : Bool} (r : Ren) : ∀ (c : AC), c.nk sh = true → acLe r c c
  | .bt _, _ => by simp [acLe]
  | .wh _, _ => by simp [acLe]
  | .wd _, _ => by simp [acLe]
  | .ww _, _ => by simp [acLe]
  | .is _, _ => by simp [acLe]
  | .ss _, _ => by simp [acLe]
  | .vs l, h => by simp only [AC.nk] at h; simp only [acLe]; exact nkl_le r l h
  | .fn _ _ _, h => by simp [AC.nk] at h
  | .ds s xs, _ => by simp only [acLe]; exact ⟨Sh.beq_refl s, trivial⟩
theorem nkl_le {sh : Bool} (r : Ren) : ∀ (l : List AV), AL.nk sh l = true → alLe r l l
  | [], _ => by simp [alLe]
  | a :: l, h => by
    simp only [AL.nk] at h
    split at h
    · simp only [alLe]; exact ⟨nk_le r a (by assumption), nkl_le r l h⟩
    · cases h
end
mutual
theorem rn_le {r : Ren} {f : Nat → Option Nat} (hf : sameAll r f) : ∀ (a b : AV), rnAV f a = some b → avLe r a b ∧ b ≠ .u
  | .i _, b, h => by simp only [rnAV, Option.some.injEq] at h; subst h; simp [avLe]
  | .w8 _, b, h => by simp only [rnAV, Option.some.injEq] at h; subst h; simp [avLe]
  | .w16 _, b, h => by simp only [rnAV, Option.some.injEq] at h; subst h; simp [avLe]
  | .w32 _, b, h => by simp only [rnAV, Option.some.injEq] at h; subst h; simp [avLe]
  | .w64 _, b, h => by simp only [rnAV, Option.some.injEq] at h; subst h; simp [avLe]
  | .b _, b, h => by simp only [rnAV, Option.some.injEq] at h; subst h; simp [avLe]
  | .kb _, b, h => by simp only [rnAV, Option.some.injEq] at h; subst h; simp [avLe]
  | .s _, b, h => by simp only [rnAV, Option.some.injEq] at h; subst h; simp [avLe]
  | .ag n c, b, h => by
    simp only [rnAV] at h
    split at h
    · rename_i d hd
      cases h
      exact ⟨by simp only [avLe]; exact ⟨by simp, rnc_le hf c d hd⟩, by simp⟩
    · cases h
  | .nl, b, h => by simp only [rnAV, Option.some.injEq] at h; subst h; simp [avLe]
  | .pn, b, h => by simp only [rnAV, Option.some.injEq] at h; subst h; simp [avLe]
  | .rb e c, b, h => by
    simp only [rnAV] at h
    split at h
    · rename_i hn
      cases h
      exact ⟨by simp only [avLe]; exact ⟨by simp, nkc_le r c hn⟩, by simp⟩
    · cases h
  | .pr a, b, h => by
    simp only [rnAV] at h
    split at h
    · rename_i hn
      cases h
      exact ⟨by simp only [avLe]; exact nk_le r a hn, by simp⟩
    · cases h
  | .rw k, b, h => by
    simp only [rnAV] at h
    split at h
    · rename_i j hj
      cases h
      exact ⟨by simp only [avLe]; exact sameK_of (hf k j hj), by simp⟩
    · cases h
  | .p k g o, b, h => by
    simp only [rnAV] at h
    split at h
    · rename_i j hj
      cases h
      exact ⟨by simp only [avLe]; exact ⟨sameK_of (hf k j hj), by simp, by simp⟩, by simp⟩
    · cases h
  | .sl k g o e a n, b, h => by
    simp only [rnAV] at h
    split at h
    · rename_i j hj
      cases h
      exact ⟨by simp only [avLe]; exact ⟨sameK_of (hf k j hj), by simp, by simp, by simp, trivial, trivial⟩, by simp⟩
    · cases h
  | .u, b, h => by simp [rnAV] at h
  | .tup _, b, h => by simp [rnAV] at h
  | .pe _ _ _ _ _, b, h => by simp [rnAV] at h
  | .cl k, b, h => by
    simp only [rnAV] at h
    split at h
    · rename_i j hj
      cases h
      exact ⟨by simp only [avLe]; exact sameK_of (hf k j hj), by simp⟩
    · cases h
  | .mh k, b, h => by
    simp only [rnAV] at h
    split at h
    · rename_i j hj
      cases h
      exact ⟨by simp only [avLe]; exact sameK_of (hf k j hj), by simp⟩
    · cases h
  | .z, b, h => by simp only [rnAV, Option.some.injEq] at h; subst h; simp [avLe]
  | .mn, b, h => by simp only [rnAV, Option.some.injEq] at h; subst h; simp [avLe]
  | .fv g l, b, h => by
    simp only [rnAV] at h
    split at h
    · rename_i l' hl
      cases h
      exact ⟨by simp only [avLe]; exact ⟨by simp, rnl_le hf l l' hl⟩, by simp⟩
    · cases h
  | .pf _ _ _ _ _ _ _, b, h => by simp [rnAV] at h
theorem rnc_le {r : Ren} {f : Nat → Option Nat} (hf : sameAll r f) : ∀ (a b : AC), rnAC f a = some b → acLe r a b
  | .bt _, b, h => by simp only [rnAC, Option.some.injEq] at h; subst h; simp [acLe]
  | .wh _, b, h => by simp only [rnAC, Option.some.injEq] at h; subst h; simp [acLe]
  | .wd _, b, h => by simp only [rnAC, Option.some.injEq] at h; subst h; simp [acLe]
  | .ww _, b, h => by simp only [rnAC, Option.some.injEq] at h; subst h; simp [acLe]
  | .is _, b, h => by simp only [rnAC, Option.some.injEq] at h; subst h; simp [acLe]
  | .ss _, b, h => by simp only [rnAC, Option.some.injEq] at h; subst h; simp [acLe]
  | .vs l, b, h => by
    simp only [rnAC] at h
    split at h
    · rename_i l' hl
      cases h
      simp only [acLe]; exact rnl_le hf l l' hl
    · cases h
  | .fn _ _ _, b, h => by simp [rnAC] at h
  | .ds s xs, b, h => by simp only [rnAC, Option.some.injEq] at h; subst h; simp only [acLe]; exact ⟨Sh.beq_refl s, trivial⟩
theorem rnl_le {r : Ren} {f : Nat → Option Nat} (hf : sameAll r f) : ∀ (a b : List AV), rnAL f a = some b → alLe r a b
  | [], b, h => by simp only [rnAL, Option.some.injEq] at h; subst h; simp [alLe]
  | a :: l, b, h => by
    simp only [rnAL] at h
    split at h
    · rename_i a' l' h1 h2
      cases h
      simp only [alLe]; exact ⟨(rn_le hf a a' h1).1, rnl_le hf l l' h2⟩
    · cases h
end
theorem rns_le {r : Ren} {f : Nat → Option Nat} (hf : sameAll r f) : ∀ (a b : List Seg), rnSegs f a = some b → segsLe r a b
  | [], b, h => by simp only [rnSegs, Option.some.injEq] at h; subst h; simp [segsLe]
  | (n, c) :: l, b, h => by
    simp only [rnSegs] at h
    split at h
    · rename_i a' l' h1 h2
      cases h
      simp only [segsLe]; exact ⟨by simp, rnc_le hf c a' h1, rns_le hf l l' h2⟩
    · cases h
theorem rnb_le {r : Ren} {f : Nat → Option Nat} (hf : sameAll r f) (a b : AB) (h : rnAB f a = some b) : abLe r a b ∧ a.live = true ∧ b.live = true := by
  cases a with
  | dead => simp [rnAB] at h
  | bk T s =>
    simp only [rnAB] at h
    split at h
    · rename_i s' hs
      cases h
      exact ⟨by simp only [abLe]; exact ⟨by simp, rns_le hf s s' hs⟩, rfl, rfl⟩
    · cases h
  | row T e c =>
    simp only [rnAB] at h
    split at h
    · rename_i d hd
      cases h
      exact ⟨by simp only [abLe]; exact ⟨by simp, by simp, rnc_le hf c d hd⟩, rfl, rfl⟩
    · cases h
  | mp T kk vs M =>
    simp only [rnAB, Option.some.injEq] at h
    subst h
    exact ⟨by simp only [abLe]; exact ⟨by simp, KK.beq_refl kk, Sh.beq_refl vs, trivial⟩, rfl, rfl⟩
  | it k a b c =>
    simp only [rnAB] at h
    split at h
    · rename_i j hj
      cases h
      exact ⟨by simp only [abLe]; exact ⟨sameK_of (hf k j hj), trivial, trivial, trivial⟩, rfl, rfl⟩
    · cases h

def sameBack (r : Ren) (f : Nat → Option Nat) : Prop := ∀ k j, f k = some j → rlook r k = some (some j)
mutual
theorem rn_ge {r : Ren} {f : Nat → Option Nat} (hf : sameBack r f) : ∀ (a b : AV), rnAV f a = some b → avLe r b a ∧ a ≠ .u
  | .i _, b, h => by simp only [rnAV, Option.some.injEq] at h; subst h; simp [avLe]
  | .w8 _, b, h => by simp only [rnAV, Option.some.injEq] at h; subst h; simp [avLe]
  | .w16 _, b, h => by simp only [rnAV, Option.some.injEq] at h; subst h; simp [avLe]
  | .w32 _, b, h => by simp only [rnAV, Option.some.injEq] at h; subst h; simp [avLe]
  | .w64 _, b, h => by simp only [rnAV, Option.some.injEq] at h; subst h; simp [avLe]
  | .b _, b, h => by simp only [rnAV, Option.some.injEq] at h; subst h; simp [avLe]
  | .kb _, b, h => by simp only [rnAV, Option.some.injEq] at h; subst h; simp [avLe]
  | .s _, b, h => by simp only [rnAV, Option.some.injEq] at h; subst h; simp [avLe]
  | .ag n c, b, h => by
    simp only [rnAV] at h
    split at h
    · rename_i d hd
      cases h
      exact ⟨by simp only [avLe]; exact ⟨by simp, rnc_ge hf c d hd⟩, by simp⟩
    · cases h
  | .nl, b, h => by simp only [rnAV, Option.some.injEq] at h; subst h; simp [avLe]
  | .pn, b, h => by simp only [rnAV, Option.some.injEq] at h; subst h; simp [avLe]
  | .rb e c, b, h => by
    simp only [rnAV] at h
    split at h
    · rename_i hn
      cases h
      exact ⟨by simp only [avLe]; exact ⟨by simp, nkc_le r c hn⟩, by simp⟩
    · cases h
  | .pr a, b, h => by
    simp only [rnAV] at h
    split at h
    · rename_i hn
      cases h
      exact ⟨by simp only [avLe]; exact nk_le r a hn, by simp⟩
    · cases h
  | .rw k, b, h => by
    simp only [rnAV] at h
    split at h
    · rename_i j hj
      cases h
      exact ⟨by simp only [avLe]; exact sameK_of (hf k j hj), by simp⟩
    · cases h
  | .p k g o, b, h => by
    simp only [rnAV] at h
    split at h
    · rename_i j hj
      cases h
      exact ⟨by simp only [avLe]; exact ⟨sameK_of (hf k j hj), by simp, by simp⟩, by simp⟩
    · cases h
  | .sl k g o e a n, b, h => by
    simp only [rnAV] at h
    split at h
    · rename_i j hj
      cases h
      exact ⟨by simp only [avLe]; exact ⟨sameK_of (hf k j hj), by simp, by simp, by simp, trivial, trivial⟩, by simp⟩
    · cases h
  | .u, b, h => by simp [rnAV] at h
  | .tup _, b, h => by simp [rnAV] at h
  | .pe _ _ _ _ _, b, h => by simp [rnAV] at h
  | .cl k, b, h => by
    simp only [rnAV] at h
    split at h
    · rename_i j hj
      cases h
      exact ⟨by simp only [avLe]; exact sameK_of (hf k j hj), by simp⟩
    · cases h
  | .mh k, b, h => by
    simp only [rnAV] at h
    split at h
    · rename_i j hj
      cases h
      exact ⟨by simp only [avLe]; exact sameK_of (hf k j hj), by simp⟩
    · cases h
  | .z, b, h => by simp only [rnAV, Option.some.injEq] at h; subst h; simp [avLe]
  | .mn, b, h => by simp only [rnAV, Option.some.injEq] at h; subst h; simp [avLe]
  | .fv g l, b, h => by
    simp only [rnAV] at h
    split at h
    · rename_i l' hl
      cases h
      exact ⟨by simp only [avLe]; exact ⟨by simp, rnl_ge hf l l' hl⟩, by simp⟩
    · cases h
  | .pf _ _ _ _ _ _ _, b, h => by simp [rnAV] at h
theorem rnc_ge {r : Ren} {f : Nat → Option Nat} (hf : sameBack r f) : ∀ (a b : AC), rnAC f a = some b → acLe r b a
  | .bt _, b, h => by simp only [rnAC, Option.some.injEq] at h; subst h; simp [acLe]
  | .wh _, b, h => by simp only [rnAC, Option.some.injEq] at h; subst h; simp [acLe]
  | .wd _, b, h => by simp only [rnAC, Option.some.injEq] at h; subst h; simp [acLe]
  | .ww _, b, h => by simp only [rnAC, Option.some.injEq] at h; subst h; simp [acLe]
  | .is _, b, h => by simp only [rnAC, Option.some.injEq] at h; subst h; simp [acLe]
  | .ss _, b, h => by simp only [rnAC, Option.some.injEq] at h; subst h; simp [acLe]
  | .vs l, b, h => by
    simp only [rnAC] at h
    split at h
    · rename_i l' hl
      cases h
      simp only [acLe]; exact rnl_ge hf l l' hl
    · cases h
  | .fn _ _ _, b, h => by simp [rnAC] at h
  | .ds s xs, b, h => by simp only [rnAC, Option.some.injEq] at h; subst h; simp only [acLe]; exact ⟨Sh.beq_refl s, trivial⟩
theorem rnl_ge {r : Ren} {f : Nat → Option Nat} (hf : sameBack r f) : ∀ (a b : List AV), rnAL f a = some b → alLe r b a
  | [], b, h => by simp only [rnAL, Option.some.injEq] at h; subst h; simp [alLe]
  | a :: l, b, h => by
    simp only [rnAL] at h
    split at h
    · rename_i a' l' h1 h2
      cases h
      simp only [alLe]; exact ⟨(rn_ge hf a a' h1).1, rnl_ge hf l l' h2⟩
    · cases h
end
/-! ## Names met -/
def addK (k : Nat) (ks : List Nat) : List Nat := match lmem k ks with
  | true => ks
  | false => ks ++ [k]
mutual
def keysV : AV → List Nat → List Nat
  | .rw k, ks => addK k ks
  | .p k _ _, ks => addK k ks
  | .sl k _ _ _ _ _, ks => addK k ks
  | .cl k, ks => addK k ks
  | .mh k, ks => addK k ks
  | .fv _ l, ks => keysL l ks
  | .ag _ c, ks => keysC c ks
  | _, ks => ks
def keysC : AC → List Nat → List Nat
  | .vs l, ks => keysL l ks
  | _, ks => ks
def keysL : List AV → List Nat → List Nat
  | [], ks => ks
  | a :: l, ks => keysL l (keysV a ks)
end
def keysS : List Seg → List Nat → List Nat
  | [], ks => ks
  | (_, c) :: l, ks => keysS l (keysC c ks)
def keysB : AB → List Nat → List Nat
  | .bk _ s, ks => keysS s ks
  | .row _ _ c, ks => keysC c ks
  | .it k _ _ _, ks => addK k ks
  | .mp _ _ _ _, ks => ks
  | .dead, ks => ks
/-- what is to be looked up, what has been -/
def gather : Nat → List Nat → Nat → List AB → (List Nat → List AB → Look) → Look
  | 0, _, _, _, _ => .no
  | fuel + 1, ks, i, abs, K => match nth ks i with
    | none => K ks abs
    | some k => .look k fun ab => gather fuel (keysB ab ks) (Nat.succ i) (abs ++ [ab]) K
def idxOf (k : Nat) : Nat → List Nat → Option Nat
  | _, [] => none
  | i, j :: r => match Nat.beq k j with
    | true => some i
    | false => idxOf k (Nat.succ i) r
theorem addK_nodup {k : Nat} {ks : List Nat} (h : ks.Nodup) : (addK k ks).Nodup ∧ ks <+: addK k ks := by
  unfold addK
  split
  · exact ⟨h, List.prefix_refl _⟩
  · rename_i hm
    refine ⟨?_, List.prefix_append _ _⟩
    rw [List.nodup_append]
    refine ⟨h, by simp, fun a ha b hb => ?_⟩
    simp at hb; subst hb
    intro e; subst e; exact lmem_spec hm ha
mutual
theorem keysV_nodup : ∀ (a : AV) (ks : List Nat), ks.Nodup → (keysV a ks).Nodup ∧ ks <+: keysV a ks
  | .rw k, ks, h => by simp only [keysV]; exact addK_nodup h
  | .p k _ _, ks, h => by simp only [keysV]; exact addK_nodup h
  | .sl k _ _ _ _ _, ks, h => by simp only [keysV]; exact addK_nodup h
  | .cl k, ks, h => by simp only [keysV]; exact addK_nodup h
  | .mh k, ks, h => by simp only [keysV]; exact addK_nodup h
  | .fv _ l, ks, h => by simp only [keysV]; exact keysL_nodup l ks h
  | .z, ks, h => by simp only [keysV]; exact ⟨h, List.prefix_refl _⟩
  | .mn, ks, h => by simp only [keysV]; exact ⟨h, List.prefix_refl _⟩
  | .pf _ _ _ _ _ _ _, ks, h => by simp only [keysV]; exact ⟨h, List.prefix_refl _⟩
  | .ag _ c, ks, h => by simp only [keysV]; exact keysC_nodup c ks h
  | .i _, ks, h => by simp only [keysV]; exact ⟨h, List.prefix_refl _⟩
  | .w8 _, ks, h => by simp only [keysV]; exact ⟨h, List.prefix_refl _⟩
  | .w16 _, ks, h => by simp only [keysV]; exact ⟨h, List.prefix_refl _⟩
  | .w32 _, ks, h => by simp only [keysV]; exact ⟨h, List.prefix_refl _⟩
  | .w64 _, ks, h => by simp only [keysV]; exact ⟨h, List.prefix_refl _⟩
  | .b _, ks, h => by simp only [keysV]; exact ⟨h, List.prefix_refl _⟩
  | .kb _, ks, h => by simp only [keysV]; exact ⟨h, List.prefix_refl _⟩
  | .s _, ks, h => by simp only [keysV]; exact ⟨h, List.prefix_refl _⟩
  | .u, ks, h => by simp only [keysV]; exact ⟨h, List.prefix_refl _⟩
  | .tup _, ks, h => by simp only [keysV]; exact ⟨h, List.prefix_refl _⟩
  | .pe _ _ _ _ _, ks, h => by simp only [keysV]; exact ⟨h, List.prefix_refl _⟩
  | .pr _, ks, h => by simp only [keysV]; exact ⟨h, List.prefix_refl _⟩
  | .rb _ _, ks, h => by simp only [keysV]; exact ⟨h, List.prefix_refl _⟩
  | .nl, ks, h => by simp only [keysV]; exact ⟨h, List.prefix_refl _⟩
  | .pn, ks, h => by simp only [keysV]; exact ⟨h, List.prefix_refl _⟩
theorem keysC_nodup : ∀ (a : AC) (ks : List Nat), ks.Nodup → (keysC a ks).Nodup ∧ ks <+: keysC a ks
  | .vs l, ks, h => by simp only [keysC]; exact keysL_nodup l ks h
  | .bt _, ks, h => by simp only [keysC]; exact ⟨h, List.prefix_refl _⟩
  | .wh _, ks, h => by simp only [keysC]; exact ⟨h, List.prefix_refl _⟩
  | .wd _, ks, h => by simp only [keysC]; exact ⟨h, List.prefix_refl _⟩
  | .ww _, ks, h => by simp only [keysC]; exact ⟨h, List.prefix_refl _⟩
  | .is _, ks, h => by simp only [keysC]; exact ⟨h, List.prefix_refl _⟩
  | .ss _, ks, h => by simp only [keysC]; exact ⟨h, List.prefix_refl _⟩
  | .fn _ _ _, ks, h => by simp only [keysC]; exact ⟨h, List.prefix_refl _⟩
  | .ds _ _, ks, h => by simp only [keysC]; exact ⟨h, List.prefix_refl _⟩
theorem keysL_nodup : ∀ (a : List AV) (ks : List Nat), ks.Nodup → (keysL a ks).Nodup ∧ ks <+: keysL a ks
  | [], ks, h => by simp only [keysL]; exact ⟨h, List.prefix_refl _⟩
  | a :: l, ks, h => by
    simp only [keysL]
    obtain ⟨h1, h2⟩ := keysV_nodup a ks h
    obtain ⟨h3, h4⟩ := keysL_nodup l _ h1
    exact ⟨h3, h2.trans h4⟩
end
theorem keysS_nodup : ∀ (a : List Seg) (ks : List Nat), ks.Nodup → (keysS a ks).Nodup ∧ ks <+: keysS a ks
  | [], ks, h => ⟨h, List.prefix_refl _⟩
  | (n, c) :: l, ks, h => by
    simp only [keysS]
    obtain ⟨h1, h2⟩ := keysC_nodup c ks h
    obtain ⟨h3, h4⟩ := keysS_nodup l _ h1
    exact ⟨h3, h2.trans h4⟩
theorem keysB_nodup (a : AB) (ks : List Nat) (h : ks.Nodup) : (keysB a ks).Nodup ∧ ks <+: keysB a ks := by
  cases a with
  | dead => exact ⟨h, List.prefix_refl _⟩
  | bk T s => exact keysS_nodup s ks h
  | row T e c => exact keysC_nodup c ks h
  | mp T kk vs M => exact ⟨h, List.prefix_refl _⟩
  | it k a b c => exact addK_nodup h
theorem gather_sound {me : Mem} {K : List Nat → List AB → Look} {e : Eff} : ∀ (fuel : Nat) (ks : List Nat) (i : Nat) (abs : List AB), ks.Nodup → abs.length = i → (∀ (j : Nat) (ab : AB), abs[j]? = some ab → ∃ k : Nat, ks[j]? = some k ∧ mlook me k = some ab) → i ≤ ks.length →
    (gather fuel ks i abs K).run me = some e → ∃ ks' abs', ks'.Nodup ∧ abs'.length = ks'.length ∧ (∀ (j : Nat) (ab : AB), abs'[j]? = some ab → ∃ k : Nat, ks'[j]? = some k ∧ mlook me k = some ab) ∧ (K ks' abs').run me = some e
  | 0, ks, i, abs, hn, hl, ha, hi, h => by simp [gather, Look.run] at h
  | fuel + 1, ks, i, abs, hn, hl, ha, hi, h => by
    simp only [gather] at h
    split at h
    · rename_i hk
      rw [nth_get] at hk
      have : ks.length ≤ i := by simpa using hk
      exact ⟨ks, abs, hn, by omega, ha, h⟩
    · rename_i k hk
      rw [nth_get] at hk
      obtain ⟨ab, hab, h⟩ := Look.run_look h
      obtain ⟨h1, h2⟩ := keysB_nodup ab ks hn
      have hik := (List.getElem?_eq_some_iff.1 hk).1
      obtain ⟨t, ht⟩ := h2
      refine gather_sound fuel (keysB ab ks) (i + 1) (abs ++ [ab]) h1 (by simp [hl]) (fun j ab' hj => ?_) (by rw [← ht]; simp; omega) h
      by_cases e : j < abs.length
      · rw [List.getElem?_append_left e] at hj
        obtain ⟨k', h3, h4⟩ := ha j ab' hj
        exact ⟨k', by rw [← ht, List.getElem?_append_left (List.getElem?_eq_some_iff.1 h3).1]; exact h3, h4⟩
      · have e1 : j = i := by
          have := (List.getElem?_eq_some_iff.1 hj).1
          simp at this; omega
        subst e1
        rw [List.getElem?_append_right (by omega)] at hj
        simp [hl] at hj
        subst hj
        exact ⟨k, by rw [← ht, List.getElem?_append_left hik]; exact hk, hab⟩
end Go.Vc
set_option linter.unusedVariables false
set_option linter.unusedSimpArgs false
namespace Go.Vc
open Go Go.RowKit
def zipMe : Nat → List AB → Mem
  | _, [] => []
  | i, a :: r => (i, a) :: zipMe (Nat.succ i) r
def ridOf : Nat → List AB → Ren
  | _, [] => []
  | i, _ :: r => (i, some i) :: ridOf (Nat.succ i) r
def upto : Nat → List AB → List Nat
  | _, [] => []
  | i, _ :: r => i :: upto (Nat.succ i) r
abbrev HLaw := List AV → List AB → Option (Prop × List PR × List (Option AB))
/-- what has gone may be told, too -/
def rnABd (f : Nat → Option Nat) : AB → Option AB
  | .dead => some .dead
  | a => rnAB f a
def rnOpts (f : Nat → Option Nat) : List (Option AB) → Option (List (Option AB))
  | [] => some []
  | none :: l => match rnOpts f l with
    | some l' => some (none :: l')
    | none => none
  | some a :: l => match rnABd f a, rnOpts f l with
    | some b, some l' => some (some b :: l')
    | _, _ => none
/-- what has turned, under the caller's names -/
def chg : List Nat → List (Option AB) → Mem
  | k :: ks, some a :: r => (k, a) :: chg ks r
  | _ :: ks, none :: r => chg ks r
  | _, _ => []
def sameLen : List Nat → List AB → List (Option AB) → Bool
  | [], [], [] => true
  | _ :: a, _ :: b, _ :: c => sameLen a b c
  | _, _, _ => false
def mapp : Mem → Mem → Mem
  | [], b => b
  | p :: r, b => p :: mapp r b
def few : Nat → List Nat → Bool
  | _, [] => true
  | 0, _ :: _ => false
  | n + 1, _ :: r => few n r
def isLen : Nat → List Nat → Bool
  | 0, [] => true
  | n + 1, _ :: r => isLen n r
  | _, _ => false
def hSpec (n : Nat) (g : HLaw) : Spec := fun args kb =>
  gather 40 (keysL args []) 0 [] fun ks abs =>
    match rnAL (fun k => idxOf k 0 ks) args, rnABs (fun k => idxOf k 0 ks) abs with
    | some l, some mm => match g l mm with
      | some (c, rs, ch) => match rnPRs (nth ks) rs, rnOpts (nth ks) ch with
        | some rs', some ch' => match Nat.ble (nRows rs') 8, isLen n ks, sameLen ks mm ch' with
          | true, true, true => .ret ⟨c, tupAV (outs kb rs'), mapp (newRows kb rs') (chg ks ch')⟩
          | _, _, _ => .no
        | _, _ => .no
      | none => .no
    | _, _ => .no
def retMH (rid : Ren) (s : AS) : List AV → List PR → List Nat → Prop
  | [], [], _ => True
  | a :: r, .val b :: ps, us => avLeM rid s.me a b ∧ retMH rid s r ps us
  | a :: r, .row T e c :: ps, us => match c.nk true with
    | true => match a with
      | .rw k => match lmem k us with
        | true => False
        | false => match mlook s.me k with
          | some (.row T' e' c') => (Nat.beq T' T = true ∧ Nat.beq e' e = true ∧ acLe rid c' c) ∧ retMH rid s r ps (k :: us)
          | _ => False
      | .nl => acNil c ∧ retMH rid s r ps us
      | .z => acNil c ∧ retMH rid s r ps us
      | _ => False
    | false => False
  | _, _, _ => False
def memM (rid : Ren) (s : AS) : Nat → List AB → List (Option AB) → Prop
  | _, [], [] => True
  | i, a :: r, o :: q => (match o with
    | some .dead => True
    | none => match mlook s.me i with
      | some b => abLe rid b a
      | none => False
    | some a' => match mlook s.me i with
      | some b => abLe rid b a'
      | none => False) ∧ memM rid s (Nat.succ i) r q
  | _, _, _ => False
/-- the names that are not given away -/
def uptoL : Nat → List (Option AB) → List Nat
  | _, [] => []
  | i, some .dead :: r => uptoL (Nat.succ i) r
  | i, _ :: r => i :: uptoL (Nat.succ i) r
def retHOk (F : Fs) (tt : TT) (fr : List ResultVar) (mm : List AB) (rs : List PR) (ch : List (Option AB)) : VX → AS → Prop :=
  endK F tt fr fun l s => retMH (ridOf 0 mm) s l rs (uptoL 0 ch) ∧ memM (ridOf 0 mm) s 0 mm ch

/-! ## Lists -/
theorem zipMe_look : ∀ (l : List AB) (i t : Nat), mlook (zipMe i l) t = if i ≤ t then l[t - i]? else none
  | [], i, t => by simp [zipMe, mlook]
  | a :: r, i, t => by
    simp only [zipMe]
    rw [mlook_cons, zipMe_look r (i + 1) t]
    by_cases e : i = t
    · subst e; simp
    · rw [if_neg e]
      by_cases h : i + 1 ≤ t
      · rw [if_pos h, if_pos (by omega), show t - i = (t - (i + 1)) + 1 by omega]; simp
      · rw [if_neg h, if_neg (by omega)]
theorem rlook_cons (k : Nat) (a : Option Nat) (r : Ren) (t : Nat) : rlook ((k, a) :: r) t = if k = t then some a else rlook r t := by
  simp only [rlook]
  by_cases h : k = t
  · subst h; simp
  · rw [if_neg h]
    split
    · rename_i e; exact absurd (beq_nat e) h
    · rfl
theorem upto_mem : ∀ (l : List AB) (i t : Nat), t ∈ upto i l ↔ i ≤ t ∧ t < i + l.length
  | [], i, t => by simp [upto]
  | a :: r, i, t => by
    simp only [upto, List.mem_cons, upto_mem r (i + 1) t, List.length_cons]
    omega
/-- local names for the caller's -/
def ren1 : Nat → List Nat → Ren
  | _, [] => []
  | i, k :: r => (i, some k) :: ren1 (i + 1) r
theorem ren1_look : ∀ (l : List Nat) (i t : Nat), rlook (ren1 i l) t = if i ≤ t then (l[t - i]?).map some else none
  | [], i, t => by simp [ren1, rlook]
  | a :: r, i, t => by
    simp only [ren1]
    rw [rlook_cons, ren1_look r (i + 1) t]
    by_cases e : i = t
    · subst e; simp
    · rw [if_neg e]
      by_cases h : i + 1 ≤ t
      · rw [if_pos h, if_pos (by omega), show t - i = (t - (i + 1)) + 1 by omega]; simp
      · rw [if_neg h, if_neg (by omega)]
/-- and back -/
def ren2 : Nat → List Nat → Ren
  | _, [] => []
  | i, k :: r => (k, some i) :: ren2 (i + 1) r
theorem ren2_look : ∀ (l : List Nat) (i t : Nat), rlook (ren2 i l) t = (idxOf t i l).map some
  | [], i, t => by simp [ren2, rlook, idxOf]
  | a :: r, i, t => by
    simp only [ren2]
    rw [rlook_cons, ren2_look r (i + 1) t]
    simp only [idxOf]
    by_cases e : a = t
    · subst e; simp
    · rw [if_neg e]
      split
      · rename_i h; exact absurd (beq_nat h).symm e
      · rfl
theorem idxOf_get : ∀ (l : List Nat) (i t j : Nat), idxOf t i l = some j → i ≤ j ∧ l[j - i]? = some t
  | [], i, t, j, h => by simp [idxOf] at h
  | a :: r, i, t, j, h => by
    simp only [idxOf] at h
    split at h
    · rename_i e
      have := beq_nat e; subst this
      cases h
      simp
    · obtain ⟨h1, h2⟩ := idxOf_get r (i + 1) t j h
      refine ⟨by omega, ?_⟩
      rw [show j - i = (j - (i + 1)) + 1 by omega]; simpa using h2
theorem idxOf_of : ∀ (l : List Nat) (i t j : Nat), l.Nodup → l[j]? = some t → idxOf t i l = some (i + j)
  | [], i, t, j, _, h => by simp at h
  | a :: r, i, t, j, hn, h => by
    simp only [idxOf]
    cases j with
    | zero => simp only [List.getElem?_cons_zero, Option.some.injEq] at h; subst h; simp
    | succ j =>
      simp only [List.getElem?_cons_succ] at h
      have hne : t ≠ a := fun e => by subst e; exact (List.nodup_cons.1 hn).1 (List.mem_of_getElem? h)
      split
      · rename_i e; exact absurd (beq_nat e) hne
      · rw [idxOf_of r (i + 1) t j (List.nodup_cons.1 hn).2 h]; congr 1; omega
theorem same1 (ks : List Nat) : sameAll (ren1 0 ks) (fun k => idxOf k 0 ks) := by
  intro k j h
  rw [ren1_look]
  have := (idxOf_get ks 0 k j h).2
  simp only [Nat.sub_zero] at this
  simp [this]
theorem rnABs_get {f : Nat → Option Nat} : ∀ {a b : List AB}, rnABs f a = some b → a.length = b.length ∧ ∀ (j : Nat) y, b[j]? = some y → ∃ x, a[j]? = some x ∧ rnAB f x = some y
  | [], b, h => by simp only [rnABs, Option.some.injEq] at h; subst h; simp
  | x :: a, b, h => by
    simp only [rnABs] at h
    split at h
    · rename_i y b' h1 h2
      cases h
      obtain ⟨h3, h4⟩ := rnABs_get h2
      refine ⟨by simp [h3], fun j z hz => ?_⟩
      cases j with
      | zero => simp only [List.getElem?_cons_zero, Option.some.injEq] at hz; subst hz; exact ⟨x, rfl, h1⟩
      | succ j => exact h4 j z (by simpa using hz)
    · cases h
theorem isLen_spec : ∀ {n : Nat} {l : List Nat}, isLen n l = true → l.length = n
  | 0, [], _ => rfl
  | 0, _ :: _, h => by simp [isLen] at h
  | n + 1, [], h => by simp [isLen] at h
  | n + 1, _ :: r, h => by simp [isLen_spec (n := n) (l := r) (by simpa [isLen] using h)]
end Go.Vc
set_option linter.unusedVariables false
set_option linter.unusedSimpArgs false
namespace Go.Vc
open Go Go.RowKit
theorem mputs_mapp : ∀ (a b me : Mem), mputs (mapp a b) me = mputs a (mputs b me)
  | [], b, me => rfl
  | p :: r, b, me => by simp only [mapp, mputs, mputs_mapp r b me]
section
variable {P : Program} {m : Hd} {w : World} {me : Mem} {kb : Nat}
end
end Go.Vc
set_option linter.unusedVariables false
set_option linter.unusedSimpArgs false
namespace Go.Vc
open Go Go.RowKit
section
variable {P : Program} {m : Hd} {w : World} {me : Mem} {kb : Nat}
theorem ABR_live {k : Nat} {ab : AB} (h : ABR m w k ab) (hl : ab.live = true) : ∃ v, m k = some v := by
  cases ab with
  | dead => simp [AB.live] at hl
  | bk T s => obtain ⟨g, _, _, h1, _⟩ := h; exact ⟨_, h1⟩
  | row T e c => obtain ⟨v, _, _, h1, _⟩ := h; exact ⟨v, h1⟩
  | mp T kk vs M => obtain ⟨r, _, h1, _⟩ := h; exact ⟨_, h1⟩
  | it k a b c => obtain ⟨r, _, h1, _⟩ := h; exact ⟨_, h1⟩
end
end Go.Vc
set_option linter.unusedVariables false
set_option linter.unusedSimpArgs false
namespace Go.Vc
open Go Go.RowKit

/-! ## Contracts that tell new blocks, too: results and memory under the contract's names: 0 .. what was handed, behind these what is new -/
structure GRes where
  c : Prop
  rs : List AV
  ch : List AB
  news : List AB
abbrev GLaw := List AV → List AB → Option GRes
def tgH : Nat → List AB → List (Nat × Nat × AB)
  | _, [] => []
  | i, a :: l => match a with
    | .dead => tgH (Nat.succ i) l
    | a => (0, i, a) :: tgH (Nat.succ i) l
def labs : List AB → List AB → List AB
  | [], b => b
  | a :: l, b => a :: labs l b
def GLeR (s : AS) (l rs : List AV) (t : List (Nat × Nat × AB)) (r : Ren) : Prop :=
  match renOk (keepR t r), lt64 r with
  | true, true => alLe r l rs ∧ meLe r r s.me t
  | _, _ => False
def GLe (pin : List Nat) (s : AS) (l rs : List AV) (t : List (Nat × Nat × AB)) : Prop := GLeR s l rs t (bindM s.me t (bindL l rs (pinI pin)))
def retGOk (F : Fs) (tt : TT) (fr : List ResultVar) (rs : List AV) (ch news : List AB) : VX → AS → Prop :=
  endK F tt fr fun l s => GLe (upto 0 ch) s l rs (tgH 0 (labs ch news))
def rnABds (f : Nat → Option Nat) : List AB → Option (List AB)
  | [] => some []
  | a :: l => match rnABd f a, rnABds f l with
    | some b, some l' => some (b :: l')
    | _, _ => none
def zipKs : List Nat → List AB → Mem
  | k :: ks, a :: l => (k, a) :: zipKs ks l
  | _, _ => []
def isLenB : Nat → List AB → Bool
  | 0, [] => true
  | n + 1, _ :: r => isLenB n r
  | _, _ => false
def gname (n q kb : Nat) (ks : List Nat) (k : Nat) : Option Nat :=
  match Nat.blt k n with
  | true => nth ks k
  | false => match Nat.blt k (n + q) with
    | true => some (kb + (k - n))
    | false => none
def gSpec (n q : Nat) (g : GLaw) : Spec := fun args kb =>
  gather 40 (keysL args []) 0 [] fun ks abs =>
    match rnAL (fun k => idxOf k 0 ks) args, rnABs (fun k => idxOf k 0 ks) abs with
    | some l, some mm => match g l mm with
      | some ⟨c, rs, ch, news⟩ => match rnAL (gname n q kb ks) rs, rnABds (gname n q kb ks) ch, rnABs (gname n q kb ks) news with
        | some rs', some ch', some news' => match isLen n ks, isLenB n ch', isLenB q news', Nat.ble q 8 with
          | true, true, true, true => .ret ⟨c, tupAV rs', mapp (zipMe kb news') (zipKs ks ch')⟩
          | _, _, _, _ => .no
        | _, _, _ => .no
      | none => .no
    | _, _ => .no

theorem labs_eq : ∀ a b : List AB, labs a b = a ++ b
  | [], b => rfl
  | x :: l, b => by simp [labs, labs_eq l b]
theorem isLenB_spec : ∀ {n : Nat} {l : List AB}, isLenB n l = true → l.length = n
  | 0, [], _ => rfl
  | 0, _ :: _, h => by simp [isLenB] at h
  | n + 1, [], h => by simp [isLenB] at h
  | n + 1, _ :: r, h => by simp [isLenB_spec (n := n) (l := r) (by simpa [isLenB] using h)]
theorem rnABds_get {f : Nat → Option Nat} : ∀ {a b : List AB}, rnABds f a = some b → a.length = b.length ∧ ∀ (j : Nat) y, b[j]? = some y → ∃ x, a[j]? = some x ∧ rnABd f x = some y
  | [], b, h => by simp only [rnABds, Option.some.injEq] at h; subst h; simp
  | x :: a, b, h => by
    simp only [rnABds] at h
    split at h
    · rename_i y b' h1 h2
      cases h
      obtain ⟨h3, h4⟩ := rnABds_get h2
      refine ⟨by simp [h3], fun j z hz => ?_⟩
      cases j with
      | zero => simp only [List.getElem?_cons_zero, Option.some.injEq] at hz; subst hz; exact ⟨x, rfl, h1⟩
      | succ j => exact h4 j z (by simpa using hz)
    · cases h
theorem tgH_look : ∀ (l : List AB) (i t : Nat) (ab : AB), i ≤ t → l[t - i]? = some ab → ab.live = true → mlook (tgMem (tgH i l)) t = some ab
  | [], i, t, ab, _, h, _ => by simp at h
  | a :: l, i, t, ab, hi, h, hl => by
    by_cases e : i = t
    · subst e
      simp only [Nat.sub_self, List.getElem?_cons_zero, Option.some.injEq] at h
      subst h
      cases a with
      | dead => simp [AB.live] at hl
      | _ => simp only [tgH, tgMem]; rw [mlook_cons, if_pos rfl]
    · have ih := tgH_look l (i + 1) t ab (by omega) (by rw [show t - i = (t - (i + 1)) + 1 by omega] at h; simpa using h) hl
      cases a with
      | dead => simpa only [tgH] using ih
      | _ => simp only [tgH, tgMem]; rw [mlook_cons, if_neg e]; exact ih
theorem zipKs_look : ∀ (ks : List Nat) (l : List AB) (i k : Nat), l.length = ks.length → mlook (zipKs ks l) k = match idxOf k i ks with
    | some j => l[j - i]?
    | none => none
  | [], l, i, k, h => by cases l <;> simp [zipKs, mlook, idxOf]
  | t :: ks, [], i, k, h => by simp at h
  | t :: ks, a :: l, i, k, h => by
    simp only [zipKs]
    rw [mlook_cons]
    by_cases e : t = k
    · subst e; simp [idxOf]
    · rw [if_neg e, zipKs_look ks l (i + 1) k (by simpa using h)]
      have : idxOf k i (t :: ks) = idxOf k (i + 1) ks := by
        simp only [idxOf]
        split
        · rename_i h; exact absurd (beq_nat h).symm e
        · rfl
      rw [this]
      cases hq : idxOf k (i + 1) ks with
      | none => rfl
      | some j =>
        have := (idxOf_get ks (i + 1) k j hq).1
        simp only
        rw [show j - i = (j - (i + 1)) + 1 by omega]; simp
/-- the caller's names for the contract's: of what is new -/
def renN : Nat → Nat → Nat → Ren
  | _, _, 0 => []
  | kb, n, q + 1 => (kb, some n) :: renN (kb + 1) (n + 1) q
theorem renN_look (R : Ren) : ∀ (q kb n k : Nat), rlook (renN kb n q ++ R) k = if kb ≤ k ∧ k < kb + q then some (some (n + (k - kb))) else rlook R k
  | 0, kb, n, k => by simp [renN]; omega
  | q + 1, kb, n, k => by
    simp only [renN, List.cons_append]
    rw [rlook_cons, renN_look R q (kb + 1) (n + 1) k]
    by_cases e : kb = k
    · subst e; simp
    · rw [if_neg e]
      by_cases h : kb + 1 ≤ k ∧ k < kb + 1 + q
      · rw [if_pos h, if_pos (by omega)]; congr 2; omega
      · rw [if_neg h, if_neg (by omega)]
section
variable {P : Program} {m : Hd} {w : World} {me : Mem} {kb : Nat}
theorem g_sound {x : Cx} (hx : XOK P x) (hmx : P.follows .mixedOrders = true) {f : Nat} {fn : Func} {body : Code} (hf : P.funcs[f]? = some fn) (hbd : fn.body = some body) (hnt : fn.ntmps = x.nt) (hdr : drawsOk x.tt x.dr body = true)
    {n q : Nat} (hn64 : n ≤ 64) (hpin : ∀ j, j < n → j ∈ x.pin) {g : GLaw}
    (h : ∀ l mm c rs ch news, g l mm = some ⟨c, rs, ch, news⟩ → mm.length = n → c → llen l ≤ x.nt ∧ ∃ an cu, vc real x an cu body ⟨zipSl 0 l, zipMe 0 mm, 64⟩ (retGOk real x.tt fn.results.toList rs ch news)) : SpecOK P f (gSpec n q g) := by
  intro m w me kb args vals e hgi hb hv he hc
  unfold gSpec at he
  obtain ⟨ks, abs, hnd, hal, habs, he⟩ := gather_sound 40 (keysL args []) 0 [] (keysL_nodup args [] List.nodup_nil).1 rfl (fun j ab hj => by simp at hj) (Nat.zero_le _) he
  split at he
  · rename_i l mm hl hmm
    split at he
    · rename_i c rs ch news hg
      split at he
      · rename_i rs' ch' news' hrs hch hnw
        split at he
        · rename_i hil hic hin hle
          simp only [Look.run, Option.some.injEq] at he
          subst he
          have hkn := isLen_spec hil
          have hcn := isLenB_spec hic
          have hnn := isLenB_spec hin
          have hq8 : q ≤ 8 := Nat.le_of_ble_eq_true hle
          obtain ⟨hmmlen, hget⟩ := rnABs_get hmm
          have hml : mm.length = ks.length := by omega
          obtain ⟨hlen, an, cu, hvc⟩ := h l mm c rs ch news hg (by omega) hc
          rw [llen_eq] at hlen
          obtain ⟨hcl2, hcget⟩ := rnABds_get hch
          obtain ⟨hnl2, hnget⟩ := rnABs_get hnw
          -- the callee's names
          let okS : Nat → Prop := fun b => Stable m w b ∨ w.heap.size ≤ b ∨ ∃ k v, k ∈ ks ∧ m k = some v ∧ blk v = some b
          let mS : Hd := ⟨m.mu, okS, m.pub⟩
          have hpS : Pres m w mS w := ⟨fun _ _ h => h, fun b hb => ⟨rfl, hb.1, .inl hb, hb.2.2⟩⟩
          let m1 : Hd := hren mS (ren1 0 ks)
          have hm1 : ∀ j, m1 j = (match ks[j]? with
            | some k => m k
            | none => none) := by
            intro j
            show (hren mS (ren1 0 ks)) j = _
            rw [hren_apply, ren1_look]
            simp only [Nat.zero_le, if_true, Nat.sub_zero]
            cases hq : ks[j]? with
            | none => rfl
            | some k => rfl
          have hv1 : RVs m1 w l vals := RVs_le args l vals (rnl_le (same1 ks) args l hl) (RVs_mono hpS args vals hv)
          have hent : ∀ (j : Nat) ab, mm[j]? = some ab → ∃ k ab0 v, ks[j]? = some k ∧ mlook me k = some ab0 ∧ rnAB (fun k => idxOf k 0 ks) ab0 = some ab ∧ ab0.live = true ∧ m k = some v := by
            intro j ab hj
            obtain ⟨ab0, h1, h2⟩ := hget j ab hj
            obtain ⟨k, h3, h4⟩ := habs j ab0 h1
            obtain ⟨_, h5, _⟩ := rnb_le (same1 ks) ab0 ab h2
            obtain ⟨v, h6⟩ := ABR_live (hb.mem.at_ k ab0 h4) h5
            exact ⟨k, ab0, v, h3, h4, h2, h5, h6⟩
          have hme : MemR m1 w (zipMe 0 mm) := by
            refine ⟨fun j ab hj => ?_, fun j j' ab ab' v v' b hj hj' _ _ hne hv hv' hbk => ?_, fun b hp => hb.mem.pubs b hp, fun j ab v b hj _ hv hbk => ?_, fun j ab v b hj _ hv hbk => ?_, fun b h => .inr (.inl h)⟩
            · rw [zipMe_look] at hj
              simp only [Nat.zero_le, if_true, Nat.sub_zero] at hj
              obtain ⟨k, ab0, v, h1, h2, h3, h4, h5⟩ := hent j ab hj
              refine ABR_le (r := ren1 0 ks) (k := j) (o := k) (by rw [ren1_look]; simp [h1]) (rnb_le (same1 ks) ab0 ab h3).1 ?_
              exact ABR_keep (hb.mem.at_ k ab0 h2) (fun _ h => h) (fun _ _ _ _ => rfl) hpS
            · rw [zipMe_look] at hj hj'
              simp only [Nat.zero_le, if_true, Nat.sub_zero] at hj hj'
              obtain ⟨k, ab0, v0, h1, h2, h3, h4, h5⟩ := hent j ab hj
              obtain ⟨k', ab0', v0', h1', h2', h3', h4', h5'⟩ := hent j' ab' hj'
              rw [hm1, h1] at hv
              rw [hm1, h1'] at hv'
              refine hb.mem.apart k k' ab0 ab0' v v' b h2 h2' h4 h4' (fun e => ?_) hv hv' hbk
              subst e
              have e1 := idxOf_of ks 0 k j hnd h1
              have e2 := idxOf_of ks 0 k j' hnd h1'
              rw [e1] at e2
              simp at e2
              exact hne e2
            · rw [zipMe_look] at hj
              simp only [Nat.zero_le, if_true, Nat.sub_zero] at hj
              obtain ⟨k, ab0, v0, h1, h2, h3, h4, h5⟩ := hent j ab hj
              rw [hm1, h1] at hv
              exact hb.mem.live k ab0 v b h2 h4 hv hbk
            · rw [zipMe_look] at hj
              simp only [Nat.zero_le, if_true, Nat.sub_zero] at hj
              obtain ⟨k, ab0, v0, h1, h2, h3, h4, h5⟩ := hent j ab hj
              rw [hm1, h1] at hv
              exact .inr (.inr ⟨k, v, List.mem_of_getElem? h1, hv, hbk⟩)
          have hbd1 : Bd m1 w := by
            intro j v b hj hbk
            rw [hm1] at hj
            split at hj
            · exact hb.bd _ v b hj hbk
            · cases hj
          let E : Env := ⟨w, (List.range n).filterMap (fun j => (m1 j).bind blk), okS, none, (List.range n).filterMap fun j => (m1 j).map fun v => (j, v), m.pub⟩
          have hlk : ∀ j, n ≤ j → m1 j = none := by
            intro j hj
            rw [hm1, List.getElem?_eq_none (by omega)]
          have hvl := RVs_length hv1
          have hr : StR E x.nt ⟨zipSl 0 l, zipMe 0 mm, 64⟩ m1 { tmps := vals.toArray ++ Array.replicate (fn.ntmps - vals.toArray.size) undef, defers := [] } w := by
            refine ⟨entry_sl hv1 _, hme, hbd1, fun k hk => hlk k (by have : 64 ≤ k := hk; omega), by simp; omega, rfl, ⟨rfl, rfl, rfl, Nat.le_refl _, rfl, fun _ _ _ => rfl, fun j v b hj hbk => .inr ?_, fun m0 w1 he => (by cases he), fun j v hj => ?_, fun b h _ _ => h, fun b h => h⟩⟩
            · show b ∈ (List.range n).filterMap _
              rw [List.mem_filterMap]
              refine ⟨j, ?_, by rw [hj]; exact hbk⟩
              rw [List.mem_range]
              by_cases h : j < n
              · exact h
              · rw [hlk j (by omega)] at hj; cases hj
            · have hj' : (j, v) ∈ (List.range n).filterMap fun j => (m1 j).map fun v => (j, v) := hj
              rw [List.mem_filterMap] at hj'
              obtain ⟨i, hi0, hi⟩ := hj'
              cases hq : m1 i with
              | none => rw [hq] at hi; cases hi
              | some u => rw [hq] at hi; cases hi; exact hq
          have hE : GE P E := hgi.ge rfl (fun b h => .inl h) (fun b h hb2 => by
            have hb3 : b ∈ (List.range n).filterMap (fun j => (m1 j).bind blk) := hb2
            rw [List.mem_filterMap] at hb3
            obtain ⟨j, hj, hj2⟩ := hb3
            rw [List.mem_range] at hj
            obtain ⟨ab, hab⟩ : ∃ ab, mm[j]? = some ab := ⟨_, List.getElem?_eq_getElem (by omega)⟩
            obtain ⟨k, ab0, v, g1, g2, g3, g4, g5⟩ := hent j ab hab
            have h6 : m1 j = some v := by rw [hm1, g1]; exact g5
            rw [h6] at hj2
            rcases h.2.2 with h7 | h7
            · exact hb.mem.live k ab0 v b g2 g4 g5 hj2 h7
            · exact h7 k v g5 hj2)
          have hpE : ∀ j v, (j, v) ∈ E.pin → j ∈ x.pin := by
            intro j v hj
            have hj' : (j, v) ∈ (List.range n).filterMap fun j => (m1 j).map fun v => (j, v) := hj
            rw [List.mem_filterMap] at hj'
            obtain ⟨i, hi, hi2⟩ := hj'
            rw [List.mem_range] at hi
            cases hq : m1 i with
            | none => rw [hq] at hi2; cases hi2
            | some u => rw [hq] at hi2; cases hi2; exact hpin _ hi
          refine calls_of_wp hf hbd (code_mono (vc_sound hx hE hpE (.inl rfl) hmx body _ _ hdr hvc _ _ w hr) ?_)
          intro en a w' hp
          refine ends_sound hx.tt (fun avs vs s' m2 w2 k1 k2 k3 => ?_) hp
          clear hp
          have hpinned : ∀ (j : Nat) v, j < n → m1 j = some v → m2 j = some v := by
            intro j v hj h1
            refine k3.fr.pin j v ?_
            show (j, v) ∈ (List.range n).filterMap _
            rw [List.mem_filterMap]
            exact ⟨j, by rw [List.mem_range]; exact hj, by rw [h1]; rfl⟩
          have hks : ∀ k j, ks[j]? = some k → ∃ ab0 v, mlook me k = some ab0 ∧ ab0.live = true ∧ m k = some v ∧ m1 j = some v ∧ m2 j = some v ∧ j < n := by
            intro k j hj
            have hjn := (List.getElem?_eq_some_iff.1 hj).1
            obtain ⟨ab, hab⟩ : ∃ ab, mm[j]? = some ab := ⟨_, List.getElem?_eq_getElem (by omega)⟩
            obtain ⟨k', ab0, v, h1, h2, _, h4, h5⟩ := hent j ab hab
            rw [hj] at h1; cases h1
            have h6 : m1 j = some v := by rw [hm1, hj]; exact h5
            exact ⟨ab0, v, h2, h4, h5, h6, hpinned j v (by omega) h6, by omega⟩
          unfold GLe at k2
          generalize hrr : bindM s'.me (tgH 0 (labs ch news)) (bindL avs rs (pinI (upto 0 ch))) = r at k2
          unfold GLeR at k2
          split at k2
          rotate_left
          · exact k2.elim
          rename_i hok hlt
          obtain ⟨k2a, k2m⟩ := k2
          have hpinr : ∀ j, j < n → rlook r j = some (some j) := fun j hj => by
            rw [← hrr]; exact bindM_keep _ _ (bindL_keep _ _ _ (pinI_look _ j (by rw [upto_mem]; omega)))
          have hT := MemR_le k3.mem hok k2m
          have hTlook : ∀ (j : Nat) ab, (ch ++ news)[j]? = some ab → ab.live = true → mlook (tgMem (tgH 0 (labs ch news))) j = some ab := fun j ab h1 h2 => by
            rw [labs_eq]; exact tgH_look _ 0 j ab (Nat.zero_le _) (by simpa using h1) h2
          generalize tgH 0 (labs ch news) = T at *
          have hTabr : ∀ (j : Nat) ab, mlook (tgMem T) j = some ab → ABR (hrens m2 r) w2 j ab := by
            intro j ab hj
            rcases me_entry k2m hj with ⟨o, ab0, h1, h2, h3⟩ | ⟨h1, T', e', c', rfl, h2⟩
            · exact ABR_leG .hrens h1 h3 (k3.mem.at_ o ab0 h2)
            · exact ⟨.slice none 0 0, 0, [], (by show (hren m2 r) j = _; rw [hren_apply, h1]), ⟨by simp, .inl ⟨none, rfl, rfl⟩⟩, acNil_RC h2⟩
          have hsz : w.heap.size ≤ w2.heap.size := k3.fr.size
          have hWn : ∀ b, b ∈ E.W → ∃ k v ab0, k ∈ ks ∧ m k = some v ∧ blk v = some b ∧ mlook me k = some ab0 ∧ ab0.live = true := by
            intro b hbW
            have hbW' : b ∈ (List.range n).filterMap (fun j => (m1 j).bind blk) := hbW
            rw [List.mem_filterMap] at hbW'
            obtain ⟨j, hj, hj2⟩ := hbW'
            rw [List.mem_range] at hj
            obtain ⟨k, hk⟩ : ∃ k, ks[j]? = some k := ⟨_, List.getElem?_eq_getElem (by omega)⟩
            obtain ⟨ab0, v, h1, h2, h4, h5, _⟩ := hks k j hk
            rw [h5] at hj2
            exact ⟨k, v, ab0, List.mem_of_getElem? hk, h4, hj2, h1, h2⟩
          have hblk : ∀ b, b < w.heap.size → b ∉ E.W → w2.heap[b]? = w.heap[b]? := fun b h1 h2 => k3.fr.block b h1 h2
          have hown : ∀ j v b, (hren m2 r) j = some v → blk v = some b → (w.heap.size ≤ b ∨ b ∈ E.W) ∧ b < w2.heap.size ∧ ∃ o, m2 o = some v := by
            intro j v b hj hbk
            rcases hren_from hj with ⟨o, ho⟩ | rfl
            · exact ⟨k3.fr.own o v b ho hbk, k3.bd o v b ho hbk, o, ho⟩
            · simp [blk] at hbk
          have hnot : ∀ k v b ab, m k = some v → blk v = some b → mlook me k = some ab → ab.live = true → k ∉ ks → b ∉ E.W := by
            intro k v b ab h1 h2 h3 h4 h5 h6
            obtain ⟨k', v', ab', g1, g2, g3, g4, g5⟩ := hWn b h6
            exact hb.mem.apart k k' ab ab' v v' b h3 g4 h4 g5 (fun e => h5 (e ▸ g1)) h1 g2 h2 g3
          have hksn : ∀ k, k ∈ ks → ¬ (kb ≤ k ∧ k < kb + q) := by
            intro k hk hh
            obtain ⟨j, hj⟩ := List.getElem?_of_mem hk
            obtain ⟨_, v, _, _, h4, _⟩ := hks k j hj
            rw [hb.fresh k hh.1 (by omega)] at h4; cases h4
          let r3 : Ren := renN kb n q ++ ren2 0 ks
          have hr3 : ∀ k, rlook r3 k = if kb ≤ k ∧ k < kb + q then some (some (n + (k - kb))) else (idxOf k 0 ks).map some := fun k => by
            show rlook (renN kb n q ++ ren2 0 ks) k = _
            rw [renN_look, ren2_look]
          have hsame : sameAll r3 (gname n q kb ks) := by
            intro k j hkj
            unfold gname at hkj
            split at hkj
            · rename_i hlt
              have hkn' : k < n := Nat.le_of_ble_eq_true hlt
              rw [nth_get] at hkj
              rw [hr3, if_neg (hksn j (List.mem_of_getElem? hkj)), idxOf_of ks 0 j k hnd hkj]
              simp
            · rename_i hlt
              have hkn' : ¬ k < n := fun hh => by rw [show Nat.blt k n = true from Nat.ble_eq_true_of_le hh] at hlt; cases hlt
              split at hkj
              · rename_i hlt2
                have hkn2 : k < n + q := Nat.le_of_ble_eq_true hlt2
                cases hkj
                rw [hr3, if_pos (by omega)]
                congr 2; omega
              · cases hkj
          let mc : Hd := hrens (hrens m2 r) r3
          let m' : Hd := ⟨fun k => if kb ≤ k ∧ k < kb + q then (hren m2 r) (n + (k - kb)) else m k, m.ok, m2.pub⟩
          have hm'n : ∀ k, kb ≤ k ∧ k < kb + q → m' k = (hren m2 r) (n + (k - kb)) := fun k hk => if_pos hk
          have hm'o : ∀ k, ¬ (kb ≤ k ∧ k < kb + q) → m' k = m k := fun k hk => if_neg hk
          have hT1 : ∀ k j, ks[j]? = some k → ∃ v, m k = some v ∧ (hren m2 r) j = some v := by
            intro k j hj
            obtain ⟨ab0, v, h1, h2, h4, h5, h6, h7⟩ := hks k j hj
            exact ⟨v, h4, by rw [hren_apply, hpinr j h7]; exact h6⟩
          have hmc : ∀ k v, mc k = some v → m' k = some v := by
            intro k v hk
            have hk : (hren (hren m2 r) r3) k = some v := hk
            rw [hren_apply, hr3] at hk
            by_cases hn : kb ≤ k ∧ k < kb + q
            · rw [if_pos hn] at hk
              rw [hm'n k hn]; exact hk
            · rw [if_neg hn] at hk
              rw [hm'o k hn]
              cases hq : idxOf k 0 ks with
              | none => rw [hq] at hk; simp at hk
              | some j =>
                rw [hq] at hk
                simp only [Option.map_some] at hk
                have h1 := (idxOf_get ks 0 k j hq).2
                simp only [Nat.sub_zero] at h1
                obtain ⟨v0, h2, h3⟩ := hT1 k j h1
                rw [h3] at hk; cases hk
                exact h2
          -- names that the contract speaks of
          have hdom : ∀ k, (kb ≤ k ∧ k < kb + q) ∨ k ∈ ks → ∃ j, rlook r3 k = some (some j) ∧ m' k = (hren m2 r) j ∧ ((kb ≤ k ∧ k < kb + q ∧ j = n + (k - kb)) ∨ (ks[j]? = some k ∧ j < n)) := by
            intro k hk
            by_cases hn : kb ≤ k ∧ k < kb + q
            · exact ⟨n + (k - kb), by rw [hr3, if_pos hn], hm'n k hn, .inl ⟨hn.1, hn.2, rfl⟩⟩
            · rcases hk with hk | hk
              · exact absurd hk hn
              · obtain ⟨j, hj⟩ := List.getElem?_of_mem hk
                obtain ⟨v, h1, h2⟩ := hT1 k j hj
                have hjn := (List.getElem?_eq_some_iff.1 hj).1
                exact ⟨j, by rw [hr3, if_neg hn, idxOf_of ks 0 k j hnd hj]; simp, by rw [hm'o k hn, h1, h2], .inr ⟨hj, by omega⟩⟩
          have hlook : ∀ k, mlook (mputs (mapp (zipMe kb news') (zipKs ks ch')) me) k = if kb ≤ k ∧ k < kb + q then news'[k - kb]? else match idxOf k 0 ks with
              | some j => ch'[j]?
              | none => mlook me k := by
            intro k
            rw [mputs_mapp, mlook_mputs, zipMe_look, mlook_mputs, zipKs_look ks ch' 0 k (by omega)]
            by_cases hn : kb ≤ k ∧ k < kb + q
            · rw [if_pos hn.1, if_pos hn]
              rw [List.getElem?_eq_getElem (by omega)]
            · rw [if_neg hn]
              have : (if kb ≤ k then news'[k - kb]? else none) = none := by
                split
                · exact List.getElem?_eq_none (by omega)
                · rfl
              rw [this]
              cases hq : idxOf k 0 ks with
              | none => rfl
              | some j =>
                simp only [Nat.sub_zero]
                have h1 := (idxOf_get ks 0 k j hq).2
                simp only [Nat.sub_zero] at h1
                have h2 := (List.getElem?_eq_some_iff.1 h1).1
                rw [List.getElem?_eq_getElem (by omega)]
          have hfin : ∀ k ab, (kb ≤ k ∧ k < kb + q) ∨ k ∈ ks → mlook (mputs (mapp (zipMe kb news') (zipKs ks ch')) me) k = some ab → ab.live = true →
              ∃ j ab0, rlook r3 k = some (some j) ∧ m' k = (hren m2 r) j ∧ mlook (tgMem T) j = some ab0 ∧ ab0.live = true ∧ abLe r3 ab0 ab ∧ ((kb ≤ k ∧ k < kb + q ∧ j = n + (k - kb)) ∨ (ks[j]? = some k ∧ j < n)) := by
            intro k ab hk hab hlv
            obtain ⟨j, h1, h2, h3⟩ := hdom k hk
            rw [hlook] at hab
            rcases h3 with ⟨h3, h4, h5⟩ | ⟨h3, h4⟩
            · rw [if_pos ⟨h3, h4⟩] at hab
              obtain ⟨x', hx1, hx2⟩ := hnget _ ab hab
              obtain ⟨g1, g2, g3⟩ := rnb_le hsame x' ab hx2
              refine ⟨j, x', h1, h2, hTlook j x' ?_ g2, g2, g1, .inl ⟨h3, h4, h5⟩⟩
              rw [List.getElem?_append_right (by omega), h5, show n + (k - kb) - ch.length = k - kb by omega]
              exact hx1
            · have hkk := List.mem_of_getElem? h3
              rw [if_neg (hksn k hkk), idxOf_of ks 0 k j hnd h3, Nat.zero_add] at hab
              simp only at hab
              obtain ⟨x', hx1, hx2⟩ := hcget j ab hab
              have hxd : x' ≠ .dead := by
                rintro rfl
                simp only [rnABd, Option.some.injEq] at hx2
                subst hx2; cases hlv
              have hx3 : rnAB (gname n q kb ks) x' = some ab := by cases x' <;> first | exact absurd rfl hxd | exact hx2
              obtain ⟨g1, g2, g3⟩ := rnb_le hsame x' ab hx3
              refine ⟨j, x', h1, h2, hTlook j x' ?_ g2, g2, g1, .inr ⟨h3, h4⟩⟩
              rw [List.getElem?_append_left (List.getElem?_eq_some_iff.1 hx1).1]
              exact hx1
          have holdl : ∀ k ab, ¬ ((kb ≤ k ∧ k < kb + q) ∨ k ∈ ks) → mlook (mputs (mapp (zipMe kb news') (zipKs ks ch')) me) k = some ab → mlook me k = some ab ∧ m' k = m k := by
            intro k ab hk hab
            have hk1 : ¬ (kb ≤ k ∧ k < kb + q) := fun h => hk (.inl h)
            rw [hlook, if_neg hk1] at hab
            cases hq : idxOf k 0 ks with
            | none => rw [hq] at hab; exact ⟨hab, hm'o k hk1⟩
            | some j => exact absurd (.inr (List.mem_of_getElem? (idxOf_get ks 0 k j hq).2)) hk
          have hpub : ∀ b, m2.pub b → m.pub b ∨ b ∈ E.W ∨ w.heap.size ≤ b := by
            intro b hp
            by_cases h1 : b < w.heap.size
            · by_cases h2 : b ∈ E.W
              · exact .inr (.inl h2)
              · exact .inl (k3.fr.pub b hp h1 h2)
            · exact .inr (.inr (by omega))
          have tr : Tr m w m' w2 := by
            refine ⟨fun k v hk => ?_, rfl, fun b hp => k3.fr.pubm b hp, fun b hp => ?_, hsz, fun b hb' hno => hblk b hb' (fun hm => ?_), fun k v b hk hv => ?_, k3.fr.os, k3.fr.tape, k3.fr.output⟩
            · rw [hm'o k (fun hh => by rw [hb.fresh k hh.1 (by omega)] at hk; cases hk)]; exact hk
            · rcases hpub b hp with h | h | h
              · exact .inl h
              · obtain ⟨k, v, _, _, h2, h3, _⟩ := hWn b h
                exact .inr (.inl ⟨k, v, h2, h3⟩)
              · exact .inr (.inr h)
            · obtain ⟨k, v, ab0, _, h2, h3, h4, h5⟩ := hWn b hm
              exact hno.elim (hb.mem.live k ab0 v b h4 h5 h2 h3) (fun hno => hno k v h2 h3)
            · by_cases hn : kb ≤ k ∧ k < kb + q
              · rw [hm'n k hn] at hk
                rcases (hown _ v b hk hv).1 with h | h
                · exact .inr h
                · obtain ⟨k', v', _, _, h2, h3, _⟩ := hWn b h
                  exact .inl ⟨k', v', h2, h3⟩
              · rw [hm'o k hn] at hk
                exact .inl ⟨k, v, hk, hv⟩
          have hpc : Pres mc w2 m' w2 := by
            refine ⟨hmc, fun b hs => ⟨rfl, ?_⟩⟩
            have hok2 : m2.ok b ∧ (m2.pub b ∨ ∀ k v, m2 k = some v → blk v ≠ some b) := hs.2.1.1
            have hok3 : okS b := by
              have := hok2.1
              rw [k3.fr.ok] at this
              exact this
            have hokm : m.ok b := by
              rcases hok3 with h | h | ⟨k, v, hk, h1, h2⟩
              · exact h.2.1
              · exact hb.mem.okn b h
              · obtain ⟨j, hj⟩ := List.getElem?_of_mem hk
                obtain ⟨ab0, v', q1, q2, q3, _⟩ := hks k j hj
                rw [q3] at h1; cases h1
                exact hb.mem.okl k ab0 _ b q1 q2 q3 h2
            refine ⟨hs.1, hokm, ?_⟩
            rcases hok2.2 with hp | hno
            · exact .inl hp
            · rcases hok3 with h | h | ⟨k, v, hk, h1, h2⟩
              · rcases h.2.2 with h4 | h4
                · exact .inl (k3.fr.pubm b h4)
                · refine .inr fun k v hk hv => ?_
                  by_cases hn : kb ≤ k ∧ k < kb + q
                  · rw [hm'n k hn] at hk
                    obtain ⟨_, _, o, ho⟩ := hown _ v b hk hv
                    exact hno o v ho hv
                  · rw [hm'o k hn] at hk
                    exact h4 k v hk hv
              · refine .inr fun k v hk hv => ?_
                by_cases hn : kb ≤ k ∧ k < kb + q
                · rw [hm'n k hn] at hk
                  obtain ⟨_, _, o, ho⟩ := hown _ v b hk hv
                  exact hno o v ho hv
                · rw [hm'o k hn] at hk
                  have := hb.bd k v b hk hv; omega
              · obtain ⟨j, hj⟩ := List.getElem?_of_mem hk
                obtain ⟨ab0, v', q1, q2, q3, q4, q5, _⟩ := hks k j hj
                rw [q3] at h1; cases h1
                exact absurd h2 (hno j _ q5)
          refine ⟨_, rfl, m', tr, tupAV_sound (RVs_mono hpc rs' vs (RVs_leG .hrens rs rs' vs (rnl_le hsame rs rs' hrs) (RVs_leG .hrens avs rs vs k2a k1))), ?_, fun k hk => ?_, fun k v b hk hv => ?_⟩
          · refine ⟨fun t ab hab => ?_, fun t t' ab ab' v v' b hab hab' hl hl' hne hv hv' hbk => ?_, k3.mem.pubs, fun t ab v b hab hl hv hbk hp => ?_, fun t ab v b hab hl hv hbk => ?_, fun b h => hb.mem.okn b (Nat.le_trans hsz h)⟩
            · by_cases hd : (kb ≤ t ∧ t < kb + q) ∨ t ∈ ks
              · cases hlv : ab.live with
                | false => cases ab with
                  | dead => trivial
                  | _ => simp [AB.live] at hlv
                | true =>
                  obtain ⟨j, ab0, h1, h2, h3, h4, h5, _⟩ := hfin t ab hd hab hlv
                  exact ABR_keep (ABR_leG .hrens h1 h5 (hTabr j ab0 h3)) (hmc t) (fun _ _ _ _ => rfl) hpc
              · obtain ⟨h1, h2⟩ := holdl t ab hd hab
                cases hlv : ab.live with
                | false => cases ab with
                  | dead => trivial
                  | _ => simp [AB.live] at hlv
                | true =>
                  exact ABR_keep (hb.mem.at_ t ab h1) (fun v hv => h2.trans hv) (fun v b hv hbk => hblk b (hb.bd t v b hv hbk) (hnot t v b ab hv hbk h1 hlv (fun h => hd (.inr h)))) tr.pres
            · intro hbq
              by_cases hd : (kb ≤ t ∧ t < kb + q) ∨ t ∈ ks <;> by_cases hd' : (kb ≤ t' ∧ t' < kb + q) ∨ t' ∈ ks
              · obtain ⟨j, ab0, h1, h2, h3, h4, _, h6⟩ := hfin t ab hd hab hl
                obtain ⟨j', ab0', h1', h2', h3', h4', _, h6'⟩ := hfin t' ab' hd' hab' hl'
                rw [h2] at hv; rw [h2'] at hv'
                refine hT.apart j j' ab0 ab0' v v' b h3 h3' h4 h4' (fun e => hne ?_) hv hv' hbk hbq
                subst e
                rcases h6 with ⟨a1, a2, a3⟩ | ⟨a1, a2⟩ <;> rcases h6' with ⟨b1, b2, b3⟩ | ⟨b1, b2⟩
                · omega
                · omega
                · omega
                · rw [a1] at b1; exact Option.some.inj b1
              · obtain ⟨j, ab0, h1, h2, h3, h4, _, h6⟩ := hfin t ab hd hab hl
                obtain ⟨g1, g2⟩ := holdl t' ab' hd' hab'
                rw [h2] at hv; rw [g2] at hv'
                rcases (hown j v b hv hbk).1 with h | h
                · have := hb.bd t' v' b hv' hbq; omega
                · exact hnot t' v' b ab' hv' hbq g1 hl' (fun h => hd' (.inr h)) h
              · obtain ⟨j, ab0, h1, h2, h3, h4, _, h6⟩ := hfin t' ab' hd' hab' hl'
                obtain ⟨g1, g2⟩ := holdl t ab hd hab
                rw [h2] at hv'; rw [g2] at hv
                rcases (hown j v' b hv' hbq).1 with h | h
                · have := hb.bd t v b hv hbk; omega
                · exact hnot t v b ab hv hbk g1 hl (fun h => hd (.inr h)) h
              · obtain ⟨g1, g2⟩ := holdl t ab hd hab
                obtain ⟨g1', g2'⟩ := holdl t' ab' hd' hab'
                rw [g2] at hv; rw [g2'] at hv'
                exact hb.mem.apart t t' ab ab' v v' b g1 g1' hl hl' hne hv hv' hbk hbq
            · by_cases hd : (kb ≤ t ∧ t < kb + q) ∨ t ∈ ks
              · obtain ⟨j, ab0, h1, h2, h3, h4, _, h6⟩ := hfin t ab hd hab hl
                rw [h2] at hv
                exact hT.live j ab0 v b h3 h4 hv hbk hp
              · obtain ⟨g1, g2⟩ := holdl t ab hd hab
                rw [g2] at hv
                rcases hpub b hp with h | h | h
                · exact hb.mem.live t ab v b g1 hl hv hbk h
                · exact hnot t v b ab hv hbk g1 hl (fun h => hd (.inr h)) h
                · have := hb.bd t v b hv hbk; omega
            · by_cases hd : (kb ≤ t ∧ t < kb + q) ∨ t ∈ ks
              · obtain ⟨j, ab0, h1, h2, h3, h4, _, h6⟩ := hfin t ab hd hab hl
                rw [h2] at hv
                rcases (hown j v b hv hbk).1 with h | h
                · exact hb.mem.okn b h
                · obtain ⟨k, v', ab', _, q2, q3, q4, q5⟩ := hWn b h
                  exact hb.mem.okl k ab' v' b q4 q5 q2 q3
              · obtain ⟨g1, g2⟩ := holdl t ab hd hab
                rw [g2] at hv
                exact hb.mem.okl t ab v b g1 hl hv hbk
          · by_cases hn : kb ≤ k ∧ k < kb + q
            · exact .inr ⟨hn.1, by omega⟩
            · rw [hm'o k hn] at hk
              exact .inl hk
          · by_cases hn : kb ≤ k ∧ k < kb + q
            · rw [hm'n k hn] at hk
              exact (hown _ v b hk hv).2.1
            · rw [hm'o k hn] at hk
              exact Nat.lt_of_lt_of_le (hb.bd k v b hk hv) hsz
        · exact (Look.run_no he).elim
      · exact (Look.run_no he).elim
    · exact (Look.run_no he).elim
  · exact (Look.run_no he).elim
end
/-- one contract for each form of the i-th argument -/
def bySpec (i : Nat) (n b r s : Spec) : Spec := fun args kb => match lget args i with
  | .nl => n args kb
  | .rb _ _ => b args kb
  | .rw _ => r args kb
  | .sl _ _ _ _ _ _ => s args kb
  | _ => .no
end Go.Vc
set_option linter.unusedVariables false
set_option linter.unusedSimpArgs false
namespace Go.Vc
open Go Go.RowKit

/-! ## A contract that asks for content that stays, met by a row of the caller's own -/
mutual
/-- no reference to what merely stays -/
def AV.ns : AV → Bool
  | .rb _ _ => false
  | .pr _ => false
  | .tup _ => false
  | .ag _ c => AC.ns c
  | .fv _ l => AL.ns l
  | _ => true
def AC.ns : AC → Bool
  | .vs l => AL.ns l
  | .fn _ _ _ => false
  | .ds s _ => s.plain
  | _ => true
def AL.ns : List AV → Bool
  | [] => true
  | a :: l => match AV.ns a with
    | true => AL.ns l
    | false => false
end
def segsNs : List Seg → Bool
  | [] => true
  | (_, c) :: l => match AC.ns c with
    | true => segsNs l
    | false => false
def AB.ns : AB → Bool
  | .dead => true
  | .bk _ s => segsNs s
  | .row _ _ c => c.ns
  | .mp _ _ vs _ => vs.plain
  | .it _ _ _ _ => true
def abNs : List AB → Bool
  | [] => true
  | a :: l => match a.ns with
    | true => abNs l
    | false => false
def memNs : Mem → Bool
  | [] => true
  | (_, a) :: l => match a.ns with
    | true => memNs l
    | false => false
def AV.nsv : AV → Bool
  | .tup l => AL.ns l
  | a => a.ns
def idk (ks : List Nat) (k : Nat) : Option Nat := match lmem k ks with
  | true => some k
  | false => none
def ren0 : List Nat → Ren
  | [] => []
  | k :: ks => (k, some k) :: ren0 ks
def nameV : AV → Option Nat
  | .rw k => some k
  | .sl k _ _ _ _ _ => some k
  | _ => none
/-- the arguments, rows of the caller's own told by what lies in them; which rows these are -/
def convs (F : Fs) : List PT → List AV → List Nat → (List AV → List Nat → Look) → Look
  | [], [], us, K => K [] us
  | .keep :: ts, a :: r, us, K => convs F ts r us fun l us' => K (a :: l) us'
  | .row k :: ts, a :: r, us, K => match nameV a with
    | some j => .look j fun ab => match ab.live with
      | true => withContent F a k.esz fun c => match k.fits c, AC.nk false c with
        | true, true => convs F ts r (j :: us) fun l us' => K (.rb k.esz c :: l) us'
        | _, _ => .no
      | false => .no
    | none => match a with
      | .nl => convs F ts r us fun l us' => K (.rb k.esz k.nil :: l) us'
      | .z => convs F ts r us fun l us' => K (.rb k.esz k.nil :: l) us'
      | a => convs F ts r us fun l us' => K (a :: l) us'
  | _, _, _, _ => .no
def disj : List Nat → List Nat → Bool
  | [], _ => true
  | k :: us, ks => match lmem k ks with
    | true => false
    | false => disj us ks
def rbSpec (F : Fs) (ts : List PT) (s : Spec) : Spec := fun args kb =>
  convs F ts args [] fun args1 us =>
    match us with
    | [] => s args1 kb
    | us => gather 40 (keysL args1 []) 0 [] fun ks abs =>
      match rnAL (idk ks) args1, rnABs (idk ks) abs, disj us ks, abNs abs with
      | some l, some mm, true, true => match (s l kb).run (zipKs ks abs) with
        | some e => match e.v.nsv, memNs e.puts with
          | true, true => .ret e
          | _, _ => .no
        | none => .no
      | _, _, _, _ => .no

section
variable {f : Nat → Option Nat}
mutual
theorem rnAV_id (hf : ∀ k j, f k = some j → j = k) : ∀ (a b : AV), rnAV f a = some b → b = a
  | .i _, b, h => by simp only [rnAV, Option.some.injEq] at h; exact h.symm
  | .w8 _, b, h => by simp only [rnAV, Option.some.injEq] at h; exact h.symm
  | .w16 _, b, h => by simp only [rnAV, Option.some.injEq] at h; exact h.symm
  | .w32 _, b, h => by simp only [rnAV, Option.some.injEq] at h; exact h.symm
  | .w64 _, b, h => by simp only [rnAV, Option.some.injEq] at h; exact h.symm
  | .b _, b, h => by simp only [rnAV, Option.some.injEq] at h; exact h.symm
  | .kb _, b, h => by simp only [rnAV, Option.some.injEq] at h; exact h.symm
  | .s _, b, h => by simp only [rnAV, Option.some.injEq] at h; exact h.symm
  | .nl, b, h => by simp only [rnAV, Option.some.injEq] at h; exact h.symm
  | .pn, b, h => by simp only [rnAV, Option.some.injEq] at h; exact h.symm
  | .z, b, h => by simp only [rnAV, Option.some.injEq] at h; exact h.symm
  | .mn, b, h => by simp only [rnAV, Option.some.injEq] at h; exact h.symm
  | .ag n c, b, h => by
    simp only [rnAV] at h
    split at h
    · rename_i d hd; cases h; rw [rnAC_id hf c d hd]
    · cases h
  | .rb e c, b, h => by
    simp only [rnAV] at h
    split at h
    · cases h; rfl
    · cases h
  | .pr a, b, h => by
    simp only [rnAV] at h
    split at h
    · cases h; rfl
    · cases h
  | .rw k, b, h => by
    simp only [rnAV] at h
    split at h
    · rename_i j hj; cases h; rw [hf k j hj]
    · cases h
  | .p k g o, b, h => by
    simp only [rnAV] at h
    split at h
    · rename_i j hj; cases h; rw [hf k j hj]
    · cases h
  | .sl k g o e a n, b, h => by
    simp only [rnAV] at h
    split at h
    · rename_i j hj; cases h; rw [hf k j hj]
    · cases h
  | .cl k, b, h => by
    simp only [rnAV] at h
    split at h
    · rename_i j hj; cases h; rw [hf k j hj]
    · cases h
  | .mh k, b, h => by
    simp only [rnAV] at h
    split at h
    · rename_i j hj; cases h; rw [hf k j hj]
    · cases h
  | .fv g l, b, h => by
    simp only [rnAV] at h
    split at h
    · rename_i l' hl; cases h; rw [rnAL_id hf l l' hl]
    · cases h
  | .u, b, h => by simp [rnAV] at h
  | .tup _, b, h => by simp [rnAV] at h
  | .pe _ _ _ _ _, b, h => by simp [rnAV] at h
  | .pf _ _ _ _ _ _ _, b, h => by simp [rnAV] at h
theorem rnAC_id (hf : ∀ k j, f k = some j → j = k) : ∀ (a b : AC), rnAC f a = some b → b = a
  | .bt _, b, h => by simp only [rnAC, Option.some.injEq] at h; exact h.symm
  | .wh _, b, h => by simp only [rnAC, Option.some.injEq] at h; exact h.symm
  | .wd _, b, h => by simp only [rnAC, Option.some.injEq] at h; exact h.symm
  | .ww _, b, h => by simp only [rnAC, Option.some.injEq] at h; exact h.symm
  | .is _, b, h => by simp only [rnAC, Option.some.injEq] at h; exact h.symm
  | .ss _, b, h => by simp only [rnAC, Option.some.injEq] at h; exact h.symm
  | .ds _ _, b, h => by simp only [rnAC, Option.some.injEq] at h; exact h.symm
  | .vs l, b, h => by
    simp only [rnAC] at h
    split at h
    · rename_i l' hl; cases h; rw [rnAL_id hf l l' hl]
    · cases h
  | .fn _ _ _, b, h => by simp [rnAC] at h
theorem rnAL_id (hf : ∀ k j, f k = some j → j = k) : ∀ (a b : List AV), rnAL f a = some b → b = a
  | [], b, h => by simp only [rnAL, Option.some.injEq] at h; exact h.symm
  | a :: l, b, h => by
    simp only [rnAL] at h
    split at h
    · rename_i a' l' h1 h2; cases h; rw [rnAV_id hf a a' h1, rnAL_id hf l l' h2]
    · cases h
end
end
section
variable {m m' : Hd} {w : World}
mutual
theorem CR_ns (h : ∀ k v, m k = some v → m' k = some v) : ∀ (a : AV) (cs : List Value), a.ns = true → CR m w a cs → CR m' w a cs
  | .u, cs, hn, hc => by simpa only [CR] using hc
  | .i n, cs, hn, hc => by simpa only [CR] using hc
  | .w8 x, cs, hn, hc => by simpa only [CR] using hc
  | .w16 x, cs, hn, hc => by simpa only [CR] using hc
  | .w32 x, cs, hn, hc => by simpa only [CR] using hc
  | .w64 x, cs, hn, hc => by simpa only [CR] using hc
  | .b x, cs, hn, hc => by simpa only [CR] using hc
  | .kb x, cs, hn, hc => by simpa only [CR] using hc
  | .s x, cs, hn, hc => by simpa only [CR] using hc
  | .ag n c, cs, hn, hc => by simp only [AV.ns] at hn; simp only [CR] at hc ⊢; exact ⟨hc.1, RC_ns h c cs hn hc.2⟩
  | .tup l, cs, hn, hc => by simp [AV.ns] at hn
  | .p k g o, cs, hn, hc => by simp only [CR] at hc ⊢; obtain ⟨g, h1, h2⟩ := hc; exact ⟨g, h _ _ h1, h2⟩
  | .pe k g o e i, cs, hn, hc => by simp only [CR] at hc ⊢; obtain ⟨v, g, h1, h2⟩ := hc; exact ⟨v, g, h _ _ h1, h2⟩
  | .pr a, cs, hn, hc => by simp [AV.ns] at hn
  | .sl k g o e a n, cs, hn, hc => by simp only [CR] at hc ⊢; obtain ⟨v, ad, cap, h1, h2⟩ := hc; exact ⟨v, ad, cap, h _ _ h1, h2⟩
  | .rb e c, cs, hn, hc => by simp [AV.ns] at hn
  | .rw k, cs, hn, hc => by simp only [CR] at hc ⊢; obtain ⟨v, h1, h2⟩ := hc; exact ⟨v, h _ _ h1, h2⟩
  | .nl, cs, hn, hc => by simpa only [CR] using hc
  | .pn, cs, hn, hc => by simpa only [CR] using hc
  | .cl k, cs, hn, hc => by simp only [CR] at hc ⊢; obtain ⟨v, h1, h2⟩ := hc; exact ⟨v, h _ _ h1, h2⟩
  | .z, cs, hn, hc => by simpa only [CR] using hc
  | .mh k, cs, hn, hc => by simp only [CR] at hc ⊢; obtain ⟨v, h1, h2⟩ := hc; exact ⟨v, h _ _ h1, h2⟩
  | .mn, cs, hn, hc => by simpa only [CR] using hc
  | .pf k g o e i j c, cs, hn, hc => by simp only [CR] at hc ⊢; obtain ⟨v, g, h1, h2⟩ := hc; exact ⟨v, g, h _ _ h1, h2⟩
  | .fv f l, cs, hn, hc => by simp only [AV.ns] at hn; simp only [CR] at hc ⊢; obtain ⟨vs, h1, h2⟩ := hc; exact ⟨vs, h1, LR_ns h l vs hn h2⟩
theorem RC_ns (h : ∀ k v, m k = some v → m' k = some v) : ∀ (c : AC) (cs : List Value), c.ns = true → RC m w c cs → RC m' w c cs
  | .bt xs, cs, hn, hc => by simpa only [RC] using hc
  | .wh xs, cs, hn, hc => by simpa only [RC] using hc
  | .wd xs, cs, hn, hc => by simpa only [RC] using hc
  | .ww xs, cs, hn, hc => by simpa only [RC] using hc
  | .is xs, cs, hn, hc => by simpa only [RC] using hc
  | .ss xs, cs, hn, hc => by simpa only [RC] using hc
  | .vs l, cs, hn, hc => by simp only [AC.ns] at hn; simp only [RC] at hc ⊢; exact LR_ns h l cs hn hc
  | .fn e n f, cs, hn, hc => by simp [AC.ns] at hn
  | .ds sh xs, cs, hn, hc => by
    simp only [AC.ns] at hn
    simp only [RC] at hc ⊢
    obtain ⟨css, h1, h2, h3⟩ := hc
    exact ⟨css, h1, h2, fun j x y hx hy => ⟨(h3 j x y hx hy).1, DR_move (sh := false) (fun h => by cases h) sh y x (.inr hn) (h3 j x y hx hy).2⟩⟩
theorem LR_ns (h : ∀ k v, m k = some v → m' k = some v) : ∀ (l : List AV) (cs : List Value), AL.ns l = true → LR m w l cs → LR m' w l cs
  | [], cs, hn, hc => by simpa only [LR] using hc
  | a :: l, cs, hn, hc => by
    simp only [AL.ns] at hn
    split at hn
    · rename_i ha
      simp only [LR] at hc ⊢
      obtain ⟨c1, c2, h1, h2, h3⟩ := hc
      exact ⟨c1, c2, h1, CR_ns h a c1 ha h2, LR_ns h l c2 hn h3⟩
    · cases hn
end
end
end Go.Vc
set_option linter.unusedVariables false
set_option linter.unusedSimpArgs false
namespace Go.Vc
open Go Go.RowKit

/-- an argument: as it is; a row of the caller's own, told by what lies in it -/
def ArgR (m : Hd) (w : World) (me : Mem) (us : List Nat) (a : AV) (v : Value) : Prop :=
  RV m w a v ∨ ∃ e c, a = .rb e c ∧ AC.nk false c = true ∧ ∃ ad n cap cs, v = .slice ad n cap ∧ RC m w c cs ∧ cs.length = n * e ∧ n ≤ cap ∧
    (0 < n → ∃ b, ad = some b ∧ b.block < w.heap.size ∧ (∀ j x, cs[j]? = some x → w.cell? (b.add j) = some x) ∧ ∃ k v0 ab, k ∈ us ∧ m k = some v0 ∧ blk v0 = some b.block ∧ mlook me k = some ab ∧ ab.live = true)
def ArgsR (m : Hd) (w : World) (me : Mem) (us : List Nat) : List AV → List Value → Prop
  | [], vs => vs = []
  | a :: l, vs => ∃ v r, vs = v :: r ∧ ArgR m w me us a v ∧ ArgsR m w me us l r
section
variable {P : Program} {m : Hd} {w : World} {me : Mem} {kb : Nat}
end
end Go.Vc
set_option linter.unusedVariables false
set_option linter.unusedSimpArgs false
namespace Go.Vc
/-! ## Lists, bytes, words: plain laws -/
theorem wrap_sm {a : Int} (h1 : -9223372036854775808 ≤ a) (h2 : a ≤ 9223372036854775807) : IntKind.i64.wrap a = a := by
  simp [IntKind.wrap, IntKind.signed, IntKind.bits]
  omega
end Go.Vc
set_option linter.unusedVariables false
set_option linter.unusedSimpArgs false
namespace Go.Vc
open Go Go.RowKit
section
variable {P : Program} {T : Nat}
/-- what the program's table has of a type: size, bytes, zero value -/
def facts (P : Program) (T : Nat) : Option (Nat × Nat × Option Value) := (P.info? T).map fun i => (i.size, i.bytes, i.zero)
theorem facts_info {s b : Nat} {z : Value} (h : facts P T = some (s, b, some z)) : ∃ i, P.info? T = some i ∧ i.size = s ∧ i.bytes = b ∧ i.zero = some z := by
  unfold facts at h
  cases hi : P.info? T with
  | none => rw [hi] at h; cases h
  | some i => rw [hi] at h; simp only [Option.map_some, Option.some.injEq, Prod.mk.injEq] at h; exact ⟨i, rfl, h⟩
theorem TIok.one {d : TypeDesc} {k : TK} {b : Nat} {z : Value} {a : AV} {ek : Option EK} (hu : P.underlying T = some d) (hd : aggD d = false) (hk : TKok P T k) (hf : facts P T = some (1, b, some z)) (hz : z.cells = #[z]) (ho : z.oneCell' = true)
    (ha : ∀ m w, CR m w a [z]) (he : ∀ q, ek = some q → q.esz = 1 ∧ ∀ m w n, RC m w (q.rep real n) (List.replicate n z)) : TIok P T ⟨k, 1, b, .one a, ek⟩ := by
  obtain ⟨i, h1, h2, h3, h4⟩ := facts_info hf
  have hflat : ∀ n, (List.replicate n [z]).flatten = List.replicate n z := fun n => by
    induction n with
    | zero => rfl
    | succ n ih => rw [List.replicate_succ, List.flatten_cons, ih, List.replicate_succ]; rfl
  refine ⟨fun fs h => (by obtain ⟨gs, h1, _⟩ : TKok P T (.st fs) := h ▸ hk; rw [hu] at h1; cases h1; cases hd), fun fs lays h1 h2 => (by cases h2), hk, by rw [hu]; simp [hd, Lay.isAgg], rfl, i, z, h1, h2, h3, h4, by rw [hz]; rfl, fun m w => ?_, fun q hq => ⟨(he q hq).1, by rw [hz]; simpa using ho, fun m w n => by rw [hz]; show RC m w _ (List.replicate n [z]).flatten; rw [hflat]; exact (he q hq).2 m w n⟩⟩
  rw [hz]
  simp only [Lay.segs, SegsR]
  refine ⟨[z], [], rfl, rfl, ?_, rfl⟩
  simp only [RC, LR]
  exact ⟨[z], [], rfl, ha m w, rfl⟩
theorem ti_i64 (hu : P.underlying T = some (.int .i64)) (hf : facts P T = some (1, 8, some (.int .i64 0))) : TIok P T ⟨.int .i64, 1, 8, .one (.i 0), some .kI⟩ :=
  .one hu rfl hu hf rfl rfl (fun m w => by simp [CR]) (fun q hq => by cases hq; exact ⟨rfl, fun m w n => by simp [EK.rep, RC, real, List.map_replicate]⟩)
theorem ti_u8 (hu : P.underlying T = some (.int .u8)) (hf : facts P T = some (1, 1, some (.int .u8 0))) : TIok P T ⟨.int .u8, 1, 1, .one (.w8 (real.ofI8 0)), some .kB⟩ :=
  .one hu rfl hu hf rfl rfl (fun m w => by simp [CR, real]) (fun q hq => by cases hq; exact ⟨rfl, fun m w n => by simp [EK.rep, RC, real, List.map_replicate]⟩)
theorem ti_u16 (hu : P.underlying T = some (.int .u16)) (hf : facts P T = some (1, 2, some (.int .u16 0))) : TIok P T ⟨.int .u16, 1, 2, .one (.w16 (real.ofI16 0)), some .kH⟩ :=
  .one hu rfl hu hf rfl rfl (fun m w => by simp [CR, real]) (fun q hq => by cases hq; exact ⟨rfl, fun m w n => by simp [EK.rep, RC, real, List.map_replicate]⟩)
theorem ti_u32 (hu : P.underlying T = some (.int .u32)) (hf : facts P T = some (1, 4, some (.int .u32 0))) : TIok P T ⟨.int .u32, 1, 4, .one (.w32 (real.ofI32 0)), some .kW⟩ :=
  .one hu rfl hu hf rfl rfl (fun m w => by simp [CR, real]) (fun q hq => by cases hq; exact ⟨rfl, fun m w n => by simp [EK.rep, RC, real, List.map_replicate]⟩)
theorem ti_u64 (hu : P.underlying T = some (.int .u64)) (hf : facts P T = some (1, 8, some (.int .u64 0))) : TIok P T ⟨.int .u64, 1, 8, .one (.w64 (real.ofI64 0)), some .kQ⟩ :=
  .one hu rfl hu hf rfl rfl (fun m w => by simp [CR, real]) (fun q hq => by cases hq; exact ⟨rfl, fun m w n => by simp [EK.rep, RC, real, List.map_replicate]⟩)
theorem ti_bool (hu : P.underlying T = some .bool) (hf : facts P T = some (1, 1, some (.bool false))) : TIok P T ⟨.bool, 1, 1, .one (.b false), none⟩ :=
  .one hu rfl hu hf rfl rfl (fun m w => by simp [CR]) (fun q hq => by cases hq)
theorem ti_str (hu : P.underlying T = some .string) (hf : facts P T = some (1, 16, some (.string ⟨#[]⟩))) : TIok P T ⟨.str, 1, 16, .one (.s []), some .kS⟩ :=
  .one hu rfl hu hf rfl rfl (fun m w => by simp [CR]) (fun q hq => by cases hq; exact ⟨rfl, fun m w n => by simp [EK.rep, RC, real, List.map_replicate]⟩)
theorem ti_slice {e : Nat} (hu : P.underlying T = some (.slice e)) (hf : facts P T = some (1, 24, some (.slice none 0 0))) : TIok P T ⟨.slice e, 1, 24, .one .nl, none⟩ :=
  .one hu rfl hu hf rfl rfl (fun m w => by simp [CR]) (fun q hq => by cases hq)
theorem ti_ptr {e : Nat} (hu : P.underlying T = some (.pointer e)) (hf : facts P T = some (1, 8, some (.pointer none))) : TIok P T ⟨.ptr e, 1, 8, .one .pn, none⟩ :=
  .one hu rfl hu hf rfl rfl (fun m w => by simp [CR]) (fun q hq => by cases hq)
/-- arrays of numbers, of texts -/
def EK.zero : EK → Value
  | .kB => .int .u8 0
  | .kH => .int .u16 0
  | .kW => .int .u32 0
  | .kQ => .int .u64 0
  | .kI => .int .i64 0
  | .kS => .string ⟨#[]⟩
  | .kD _ => .nilFunc
theorem rep_RC (q : EK) (hq : ∀ sh, q ≠ .kD sh) (m : Hd) (w : World) (n : Nat) : RC m w (q.rep real n) (List.replicate n q.zero) := by
  cases q <;> first | exact absurd rfl (hq _) | simp [EK.rep, EK.zero, RC, real, List.map_replicate]
/-- what lies in cells of nought -/
def zc1 : AV → Option Value
  | .i n => some (.int .i64 n)
  | .w8 x => some (E8 x)
  | .w16 x => some (E16 x)
  | .w32 x => some (E32 x)
  | .w64 x => some (E64 x)
  | .b x => some (.bool x)
  | .s x => some (ES x)
  | .nl => some (.slice none 0 0)
  | .pn => some (.pointer none)
  | .mn => some (.map none)
  | _ => none
theorem zc1_CR {m : Hd} {w : World} {a : AV} {v : Value} (h : zc1 a = some v) : CR m w a [v] := by
  cases a <;> simp only [zc1, Option.some.injEq, reduceCtorEq] at h <;> subst h <;> simp [CR]
def zcA : AC → Option (List Value)
  | .bt xs => some (xs.map E8)
  | .wh xs => some (xs.map E16)
  | .wd xs => some (xs.map E32)
  | .ww xs => some (xs.map E64)
  | .is xs => some (xs.map EI)
  | .ss xs => some (xs.map ES)
  | _ => none
theorem zcA_RC {m : Hd} {w : World} {a : AC} {v : List Value} (h : zcA a = some v) : RC m w a v := by
  cases a <;> simp only [zcA, Option.some.injEq, reduceCtorEq] at h <;> subst h <;> simp [RC]
mutual
def Lay.zc : Lay → Option (List Value)
  | .one a => (zc1 a).map fun v => [v]
  | .arr n c => match zcA c with
    | some l => if l.length = n then some l else none
    | none => none
  | .st l => lzc l
def lzc : List Lay → Option (List Value)
  | [] => some []
  | a :: r => match a.zc, lzc r with
    | some x, some y => some (x ++ y)
    | _, _ => none
end
theorem SegsR_append {m : Hd} {w : World} : ∀ {s t : List Seg} {x y : List Value}, SegsR m w s x → SegsR m w t y → SegsR m w (s ++ t) (x ++ y)
  | [], t, x, y, hs, ht => by
    simp only [SegsR] at hs
    subst hs
    exact ht
  | (n, c) :: s, t, x, y, hs, ht => by
    simp only [SegsR, List.cons_append] at hs ⊢
    obtain ⟨d, r, rfl, h1, h2, h3⟩ := hs
    exact ⟨d, r ++ y, by simp, h1, h2, SegsR_append h3 ht⟩
mutual
theorem zc_SegsR {m : Hd} {w : World} : ∀ (l : Lay) {x : List Value}, l.zc = some x → SegsR m w l.segs x
  | .one a, x, h => by
    simp only [Lay.zc, Option.map_eq_some_iff] at h
    obtain ⟨v, h1, rfl⟩ := h
    simp only [Lay.segs, SegsR]
    refine ⟨[v], [], rfl, rfl, ?_, rfl⟩
    simp only [RC, LR]
    exact ⟨[v], [], rfl, zc1_CR h1, rfl⟩
  | .arr n c, x, h => by
    simp only [Lay.zc] at h
    split at h
    · rename_i l hl
      split at h
      · rename_i hn
        cases h
        simp only [Lay.segs, SegsR]
        exact ⟨_, [], (List.append_nil _).symm, hn, zcA_RC hl, rfl⟩
      · cases h
    · cases h
  | .st l, x, h => by
    simp only [Lay.zc, Lay.segs] at h ⊢
    exact lzc_SegsR l h
theorem lzc_SegsR {m : Hd} {w : World} : ∀ (l : List Lay) {x : List Value}, lzc l = some x → SegsR m w (lsegs l) x
  | [], x, h => by
    simp only [lzc, Option.some.injEq] at h
    subst h
    simp only [lsegs, SegsR]
  | a :: r, x, h => by
    simp only [lzc] at h
    split at h
    · rename_i u v h1 h2
      cases h
      simp only [lsegs]
      exact SegsR_append (zc_SegsR a h1) (lzc_SegsR r h2)
    · cases h
end
mutual
def Sh.zc : Sh → List Value
  | .i => [.int .i64 0]
  | .w8 => [.int .u8 0]
  | .w32 => [.int .u32 0]
  | .w64 => [.int .u64 0]
  | .b => [.bool false]
  | .s => [.string ⟨#[]⟩]
  | .l8 n => List.replicate n (.int .u8 0)
  | .ss => [.slice none 0 0]
  | .bs => [.slice none 0 0]
  | .t l => Sh.lzc l
  | .sl _ => [.slice none 0 0]
def Sh.lzc : List Sh → List Value
  | [] => []
  | a :: l => a.zc ++ Sh.lzc l
end
theorem zeros_get : ∀ (l : List Sh) (j : Nat), (Sh.zeros l)[j]? = l[j]?.map Sh.zero
  | [], j => by simp [Sh.zeros]
  | a :: l, 0 => by simp [Sh.zeros]
  | a :: l, j + 1 => by simp [Sh.zeros, zeros_get l j]
mutual
theorem DR_zero {m : Hd} {w : World} : ∀ (sh : Sh), DR m w sh sh.zero sh.zc
  | .i => by simp [DR, Sh.zero, Sh.zc, D.gi]
  | .w8 => by simp [DR, Sh.zero, Sh.zc, D.g8]
  | .w32 => by simp [DR, Sh.zero, Sh.zc, D.g32]
  | .w64 => by simp [DR, Sh.zero, Sh.zc, D.g64]
  | .b => by simp [DR, Sh.zero, Sh.zc, D.gb]
  | .s => by simp [DR, Sh.zero, Sh.zc, D.gs]
  | .l8 n => by simp [DR, Sh.zero, Sh.zc, D.gl8, E8]
  | .ss => by
    simp only [DR, Sh.zero, Sh.zc]
    exact ⟨none, 0, 0, [], rfl, by simp [D.gss], rfl, Nat.le_refl _, fun h => by omega⟩
  | .bs => by
    simp only [DR, Sh.zero, Sh.zc]
    exact ⟨none, 0, 0, [], rfl, by simp [D.gl8], rfl, Nat.le_refl _, fun h => by omega⟩
  | .sl sh => by
    simp only [DR, Sh.zero, Sh.zc]
    exact ⟨none, 0, 0, [], rfl, ⟨[], by simp [D.gt], rfl, fun j x y h => by simp at h⟩, by simp, Nat.le_refl _, fun h => by omega⟩
  | .t l => by
    simp only [DR, Sh.zero, Sh.zc]
    exact DRs_zero l _ 0 (fun j sh hj => by simp [D.fld, D.gt, List.getD_eq_getElem?_getD, zeros_get, hj])
theorem DRs_zero {m : Hd} {w : World} : ∀ (l : List Sh) (d : D) (j : Nat), (∀ i sh, l[i]? = some sh → d.fld (j + i) = sh.zero) → DRs m w l d j (Sh.lzc l)
  | [], d, j, h => by simp [DRs, Sh.lzc]
  | a :: l, d, j, h => by
    simp only [DRs, Sh.lzc]
    refine ⟨a.zc, Sh.lzc l, rfl, ?_, DRs_zero l d (j + 1) (fun i sh hi => ?_)⟩
    · have := h 0 a (by simp)
      rw [Nat.add_zero] at this
      rw [this]
      exact DR_zero a
    · have := h (i + 1) sh (by simpa using hi)
      rw [← this]
      congr 1
      omega
end
mutual
theorem zc_len : ∀ (sh : Sh), sh.zc.length = sh.cells
  | .i => rfl
  | .w8 => rfl
  | .w32 => rfl
  | .w64 => rfl
  | .b => rfl
  | .s => rfl
  | .l8 n => by simp [Sh.zc, Sh.cells]
  | .ss => rfl
  | .bs => rfl
  | .sl sh => rfl
  | .t l => by simp only [Sh.zc, Sh.cells]; exact lzc_len l
theorem lzc_len : ∀ (l : List Sh), (Sh.lzc l).length = Sh.lcells l
  | [] => rfl
  | a :: l => by simp [Sh.lzc, Sh.lcells, zc_len a, lzc_len l]
end
theorem kD_RC {m : Hd} {w : World} (sh : Sh) (n : Nat) : RC m w ((EK.kD sh).rep real n) (List.replicate n sh.zc).flatten := by
  show RC m w (.ds sh (List.replicate n sh.zero)) _
  simp only [RC]
  refine ⟨List.replicate n sh.zc, by simp, rfl, fun j x y hx hy => ?_⟩
  obtain ⟨_, rfl⟩ := List.getElem?_eq_some_iff.1 hx
  obtain ⟨_, rfl⟩ := List.getElem?_eq_some_iff.1 hy
  simp only [List.getElem_replicate]
  exact ⟨zc_len sh, DR_zero sh⟩
theorem ek_kD {z : Value} {sz : Nat} (o : Option Sh) (hz : ∀ sh, o = some sh → sh.cells = sz ∧ z.cells.toList = sh.zc ∧ (sh.zc.all fun v => v.oneCell') = true) : ∀ ek, o.map EK.kD = some ek → ek.esz = sz ∧ (∀ v ∈ z.cells.toList, v.oneCell' = true) ∧ ∀ m w n, RC m w (ek.rep real n) (List.replicate n z.cells.toList).flatten := by
  intro ek hek
  cases o with
  | none => cases hek
  | some sh =>
    cases hek
    obtain ⟨h1, h2, h3⟩ := hz sh rfl
    rw [h2]
    exact ⟨h1, fun v hv => List.all_eq_true.1 h3 v hv, fun m w n => kD_RC sh n⟩
/-- what a kind of elements of many cells asks -/
def shOK (sz : Nat) (zs : List Value) : Option Sh → Prop
  | none => True
  | some sh => sh.cells = sz ∧ zs = sh.zc ∧ (sh.zc.all fun v => v.oneCell') = true
theorem shOK_ek {z : Value} {sz : Nat} {o : Option Sh} {zs : List Value} (h : shOK sz zs o) (hz : z.cells.toList = zs) : ∀ ek, o.map EK.kD = some ek → ek.esz = sz ∧ (∀ v ∈ z.cells.toList, v.oneCell' = true) ∧ ∀ m w n, RC m w (ek.rep real n) (List.replicate n z.cells.toList).flatten :=
  ek_kD o (fun sh hsh => by subst hsh; exact ⟨h.1, hz.trans h.2.1, h.2.2⟩)
theorem ti_arr {n e b k : Nat} (q : EK) (o : Option Sh) (hq : ∀ sh, q ≠ .kD sh) (hu : P.underlying T = some (.array n e)) (hf : facts P T = some (k, b, some (.agg (List.replicate k q.zero).toArray))) (ho : shOK k (List.replicate k q.zero) o) : TIok P T ⟨.arr n e, k, b, .arr k (q.rep real k), o.map .kD⟩ := by
  obtain ⟨i, h1, h2, h3, h4⟩ := facts_info hf
  have hz : (Value.agg (List.replicate k q.zero).toArray).cells.toList = List.replicate k q.zero := by simp [Value.cells]
  refine ⟨fun fs h => (by cases h), fun fs lays h1 h2 => (by cases h2), hu, by rw [hu]; rfl, rfl, i, _, h1, h2, h3, h4, by rw [← Array.length_toList, hz]; simp, fun m w => ?_, shOK_ek ho hz⟩
  rw [hz]
  simp only [Lay.segs, SegsR]
  exact ⟨_, [], (List.append_nil _).symm, by simp, rep_RC q hq m w k, rfl⟩
/-- structs -/
theorem ti_st {b k : Nat} {fs : List (Nat × Nat × Nat)} {lays : List Lay} (o : Option Sh) (hpl : stPlain P T = true) (gs : List Field) (zs : List Value) (hu : P.underlying T = some (.struct gs.toArray)) (hfs : gs.map (fun f => (f.type, f.offset)) = fs.map (fun x => (x.1, x.2.2)))
    (hl : gs.map (fun f => (f.offset, P.cellsOf f.type)) = layOffs 0 lays) (hc : lcells lays = k) (hn : (gs.all fun f => P.cellsOf f.type != 0) = true) (hz : lzc lays = some zs) (hlen : zs.length = k) (hf : facts P T = some (k, b, some (.agg zs.toArray))) (ho : shOK k zs o) : TIok P T ⟨.st fs, k, b, .st lays, o.map .kD⟩ := by
  obtain ⟨i, h1, h2, h3, h4⟩ := facts_info hf
  have hzz : (Value.agg zs.toArray).cells.toList = zs := by simp [Value.cells]
  refine ⟨fun _ _ => hpl, fun fs' lays' e1 e2 => ?_, ⟨_, hu, by simpa using hfs, fun f hf => ?_⟩, by rw [hu]; rfl, hc, i, _, h1, h2, h3, h4, by rw [← Array.length_toList, hzz]; exact hlen, fun m w => ?_, shOK_ek ho hzz⟩
  · cases e2
    exact ⟨_, hu, by simpa using hl⟩
  · simpa using List.all_eq_true.1 hn f (by simpa using hf)
  · rw [hzz]
    simp only [Lay.segs]
    exact lzc_SegsR lays hz
def fieldsOf (P : Program) (T : Nat) : Option (List Field) := match P.underlying T with
  | some (.struct gs) => some gs.toList
  | _ => none
/-- the same, the fields read off the table -/
theorem ti_stK {b k : Nat} {fs : List (Nat × Nat × Nat)} {lays : List Lay} (o : Option Sh) (hpl : stPlain P T = true) (hu : (fieldsOf P T).isSome = true) (hfs : ((fieldsOf P T).getD []).map (fun f => (f.type, f.offset)) = fs.map (fun x => (x.1, x.2.2)))
    (hl : ((fieldsOf P T).getD []).map (fun f => (f.offset, P.cellsOf f.type)) = layOffs 0 lays) (hc : lcells lays = k) (hn : (((fieldsOf P T).getD []).all fun f => P.cellsOf f.type != 0) = true) (hz : (lzc lays).isSome = true) (hlen : ((lzc lays).getD []).length = k)
    (hf : facts P T = some (k, b, some (.agg ((lzc lays).getD []).toArray))) (ho : shOK k ((lzc lays).getD []) o) : TIok P T ⟨.st fs, k, b, .st lays, o.map .kD⟩ := by
  refine ti_st o hpl ((fieldsOf P T).getD []) ((lzc lays).getD []) ?_ hfs hl hc hn ?_ hlen hf ho
  · unfold fieldsOf at hu ⊢
    split at hu
    · rename_i gs h
      rw [h]
      simp
    · cases hu
  · cases h : lzc lays with
    | none => rw [h] at hz; cases hz
    | some x => rfl
theorem ttok_nil : TTok P [] := fun p hp => by simp at hp
theorem ttok_cons {ti : TI} {r : TT} (h : TIok P T ti) (hr : TTok P r) : TTok P ((T, ti) :: r) := fun p hp => by
  rcases List.mem_cons.1 hp with rfl | hp
  · exact h
  · exact hr p hp
theorem sp_nil : SpecsOK P [] := fun p hp => by simp at hp
theorem sp_cons {f : Nat} {s : Spec} {r : Specs} (hr : Ready P f) (h : SpecOK P f s) (hs : SpecsOK P r) : SpecsOK P ((f, s) :: r) := fun p hp => by
  rcases List.mem_cons.1 hp with rfl | hp
  · exact ⟨hr, h⟩
  · exact hs p hp
theorem ks_nil : KSpecsOK P [] := fun p hp => by simp at hp
end
end Go.Vc
set_option linter.unusedVariables false
set_option linter.unusedSimpArgs false
namespace Go.Vc
open Go Go.RowKit
section
variable {P : Program} {f : Nat}
/-- no contract -/
def noSpec : Spec := fun _ _ => .no
/-- a contract for each form of the first argument: nil; a row that stays; a row of the caller's own; a stretch of one -/
def pick4 (n b r s : Spec) : Spec := fun args kb => match args with
  | .nl :: _ => n args kb
  | .rb _ _ :: _ => b args kb
  | .rw _ :: _ => r args kb
  | .sl _ _ _ _ _ _ :: _ => s args kb
  | _ => .no
/-- a whole row of the caller's own, told as a stretch -/
def asSl (F : Fs) (s : Spec) : Spec := fun args kb => match args with
  | .rw k :: r => .look k fun
    | .row _ 1 (.bt xs) => s (.sl k 0 0 1 0 (F.lenB xs) :: r) kb
    | _ => .no
  | _ => .no
end
end Go.Vc
set_option linter.unusedVariables false
set_option linter.unusedSimpArgs false
namespace Go.Vc
open Go Go.RowKit
/-! ## A contract that leaves all as it lay: nothing is put -/
def roPuts : Mem → (Prop → Look) → Look
  | [], K => K True
  | (k, a) :: r, K => .look k fun b => roPuts r fun p => K (b = a ∧ p)
def Look.ro : Look → Look
  | .no => .no
  | .ret e => roPuts e.puts fun p => .ret ⟨e.c ∧ p, e.v, []⟩
  | .look k f => .look k fun ab => (f ab).ro
def roSpec (s : Spec) : Spec := fun args kb => (s args kb).ro
theorem roPuts_run {me : Mem} {e : Eff} {v : AV} : ∀ (l : Mem) (c : Prop) (K : Prop → Look), (∀ p, K p = .ret ⟨c ∧ p, v, []⟩) → (roPuts l K).run me = some e → e.c → c ∧ e.v = v ∧ e.puts = [] ∧ ∀ x ∈ l, mlook me x.1 = some x.2
  | [], c, K, hK, h, hc => by
    simp only [roPuts, hK, Look.run, Option.some.injEq] at h
    subst h
    exact ⟨hc.1, rfl, rfl, fun x hx => by simp at hx⟩
  | (k, a) :: r, c, K, hK, h, hc => by
    simp only [roPuts, Look.run] at h
    split at h
    · rename_i b hb
      have := roPuts_run r (c ∧ b = a) (fun p => K (b = a ∧ p)) (fun p => by
        rw [hK]
        congr 2
        exact propext ⟨fun ⟨x, y, z⟩ => ⟨⟨x, y⟩, z⟩, fun ⟨⟨x, y⟩, z⟩ => ⟨x, y, z⟩⟩) h hc
      obtain ⟨⟨h1, h2⟩, h3, h4, h5⟩ := this
      refine ⟨h1, h3, h4, fun x hx => ?_⟩
      rw [List.mem_cons] at hx
      rcases hx with rfl | hx
      · rw [hb, h2]
      · exact h5 x hx
    · cases h
theorem ro_run {me : Mem} {e : Eff} : ∀ (l : Look), l.ro.run me = some e → e.c → ∃ e1, l.run me = some e1 ∧ e1.c ∧ e.v = e1.v ∧ e.puts = [] ∧ ∀ x ∈ e1.puts, mlook me x.1 = some x.2
  | .no, h, hc => by simp only [Look.ro, Look.run] at h; cases h
  | .ret e1, h, hc => by
    simp only [Look.ro] at h
    obtain ⟨h1, h2, h3, h4⟩ := roPuts_run (v := e1.v) e1.puts e1.c _ (fun p => rfl) h hc
    exact ⟨e1, rfl, h1, h2, h3, h4⟩
  | .look k f, h, hc => by
    simp only [Look.ro, Look.run] at h ⊢
    split at h
    · exact ro_run _ h hc
    · cases h
theorem MemR.congr {m : Hd} {w : World} {me me' : Mem} (h : MemR m w me) (e : ∀ k, mlook me' k = mlook me k) : MemR m w me' := by
  refine ⟨fun k ab hk => h.at_ k ab (by rw [← e]; exact hk), fun k k' ab ab' v v' b h1 h2 => h.apart k k' ab ab' v v' b (by rw [← e]; exact h1) (by rw [← e]; exact h2), h.pubs, fun k ab v b h1 => h.live k ab v b (by rw [← e]; exact h1), fun k ab v b h1 => h.okl k ab v b (by rw [← e]; exact h1), h.okn⟩
theorem mputs_same {me : Mem} : ∀ (l : Mem), (∀ x ∈ l, mlook me x.1 = some x.2) → ∀ k, mlook (mputs l me) k = mlook me k
  | [], _, k => rfl
  | (j, a) :: r, h, k => by
    have ih := mputs_same r (fun x hx => h x (List.mem_cons_of_mem _ hx)) k
    have h1 := h (j, a) (List.mem_cons_self ..)
    show mlook ((j, a) :: mputs r me) k = _
    rw [mlook_cons]
    split
    · rename_i e
      subst e; exact h1.symm
    · exact ih
theorem ro_ok {P : Program} {f : Nat} {s : Spec} (hs : SpecOK P f s) : SpecOK P f (roSpec s) := by
  intro m w me kb args vals e hgi hb hv he hc
  obtain ⟨e1, h1, h2, h3, h4, h5⟩ := ro_run _ he hc
  refine (hs m w me kb args vals e1 hgi hb hv h1 h2).mono ?_
  rintro en w' ⟨v, rfl, m', ok⟩
  refine ⟨v, rfl, m', ?_⟩
  rw [h3, h4]
  exact ⟨ok.tr, ok.rv, ok.mem.congr fun k => (mputs_same _ h5 k).symm, ok.keys, ok.bd⟩
end Go.Vc
set_option linter.unusedVariables false
namespace Go.Vc
open Go Go.RowKit
/-- one of two contracts: the one whose condition holds -/
def orK (s1 s2 : Spec) : KSpec := fun args s K =>
  match (s1 args s.nk).run s.me, (s2 args s.nk).run s.me with
  | some e1, some e2 => (e1.c ∨ e2.c) ∧ (e1.c → K e1.v ⟨s.sl, mputs e1.puts s.me, s.nk + 8⟩) ∧ (e2.c → K e2.v ⟨s.sl, mputs e2.puts s.me, s.nk + 8⟩)
  | _, _ => False
end Go.Vc
set_option linter.unusedVariables false
set_option linter.unusedSimpArgs false
namespace Go.Vc
open Go Go.RowKit
section
variable {P : Program} {T : Nat}
/-- the value of nought of a shape -/
def Sh.zval (sh : Sh) : Value := match sh.isAgg with
  | true => .agg sh.zc.toArray
  | false => sh.zc.getD 0 .nilFunc
theorem zval_DV (sh : Sh) (h : sh.isAgg = true ∨ sh.zc.length = 1) (m : Hd) (w : World) : DV m w sh sh.zero sh.zval := by
  refine ⟨sh.zc, DR_zero sh, ?_⟩
  unfold Sh.zval
  cases hs : sh.isAgg with
  | true => rfl
  | false =>
    rw [hs] at h
    rcases h with h | h
    · cases h
    · match hz : sh.zc, h with
      | [v], _ => rfl
theorem kk_i {k : Nat} (h : P.underlying k = some (.int .i64)) : KKok P k .i := h
theorem kk_s {k : Nat} (h : P.underlying k = some .string) : KKok P k .s := h
theorem ti_map {k e c b : Nat} {kk : KK} {sh : Sh} (hu : P.underlying T = some (.map k e)) (hf : facts P T = some (1, 8, some (.map none))) (hk : KKok P k kk) (he : facts P e = some (c, b, some sh.zval)) (hs : sh.isAgg = true ∨ sh.zc.length = 1) :
    TIok P T ⟨.map k kk e sh, 1, 8, .one .mn, none⟩ := by
  obtain ⟨i, h1, h2, h3, h4⟩ := facts_info he
  exact .one hu rfl ⟨hu, hk, i, _, h1, h4, zval_DV sh hs⟩ hf rfl rfl (fun m w => by simp [CR]) (fun q hq => by cases hq)
end
end Go.Vc
set_option maxRecDepth 100000
namespace Go.Proofs.Ythjlhookepchgaa
open Go Go.Vc
/-- arrays of bools -/
theorem ti_arrB {P : Program} {T n e b : Nat} (hu : P.underlying T = some (.array n e)) (hf : facts P T = some (n, b, some (.agg (List.replicate n (.bool false)).toArray))) : TIok P T ⟨.arr n e, n, b, .arr n ((EK.kD .b).rep real n), none⟩ := by
  obtain ⟨i, h1, h2, h3, h4⟩ := facts_info hf
  have hz : (Value.agg (List.replicate n (.bool false)).toArray).cells.toList = List.replicate n (.bool false) := by simp [Value.cells]
  refine ⟨fun fs h => (by cases h), fun fs lays h1 h2 => (by cases h2), hu, by rw [hu]; rfl, rfl, i, _, h1, h2, h3, h4, by rw [← Array.length_toList, hz]; simp, fun m w => ?_, shOK_ek (o := none) trivial hz⟩
  rw [hz]
  simp only [Lay.segs, SegsR]
  have hb : RC m w ((EK.kD .b).rep real n) (List.replicate n (.bool false)) := by
    have h := kD_RC (m := m) (w := w) .b n
    have e : (List.replicate n Sh.b.zc).flatten = List.replicate n (.bool false) := by
      have : Sh.b.zc = [.bool false] := rfl
      rw [this]
      simp
    rw [e] at h
    exact h
  exact ⟨_, [], (List.append_nil _).symm, by simp, hb, rfl⟩
/-- the program's types -/
def tt (F : Fs) : TT := [
  (2, ⟨.int .i64, 1, 8, .one (.i 0), some .kI⟩),
  (3, ⟨.int .i64, 1, 8, .one (.i 0), some .kI⟩),
  (4, ⟨.bool, 1, 1, .one (.b false), none⟩),
  (5, ⟨.int .u8, 1, 1, .one (.w8 (F.ofI8 0)), some .kB⟩),
  (9, ⟨.str, 1, 16, .one (.s []), some .kS⟩),
  (22, ⟨.slice 23, 1, 24, .one .nl, none⟩),
  (23, ⟨.int .u16, 1, 2, .one (.w16 (F.ofI16 0)), some .kH⟩),
  (25, ⟨.ptr 103, 1, 8, .one .pn, none⟩),
  (27, ⟨.int .i64, 1, 8, .one (.i 0), some .kI⟩),
  (30, ⟨.slice 9, 1, 24, .one .nl, none⟩),
  (31, ⟨.st [(3, 0, 0), (3, 1, 1), (3, 2, 2), (30, 3, 3), (9, 4, 4)], 5, 64, .st [.one (.i 0), .one (.i 0), .one (.i 0), .one .nl, .one (.s [])], some (.kD (.t [.i, .i, .i, .ss, .s]))⟩),
  (32, ⟨.st [(3, 0, 0), (3, 1, 1), (3, 2, 2), (30, 3, 3), (9, 4, 4)], 5, 64, .st [.one (.i 0), .one (.i 0), .one (.i 0), .one .nl, .one (.s [])], some (.kD (.t [.i, .i, .i, .ss, .s]))⟩),
  (35, ⟨.slice 3, 1, 24, .one .nl, none⟩),
  (41, ⟨.slice 5, 1, 24, .one .nl, none⟩),
  (42, ⟨.slice 4, 1, 24, .one .nl, none⟩),
  (44, ⟨.ptr 114, 1, 8, .one .pn, none⟩),
  (48, ⟨.st [(3, 0, 0), (9, 1, 1), (4, 2, 2)], 3, 32, .st [.one (.i 0), .one (.s []), .one (.b false)], some (.kD (.t [.i, .s, .b]))⟩),
  (49, ⟨.st [(3, 0, 0), (9, 1, 1), (4, 2, 2)], 3, 32, .st [.one (.i 0), .one (.s []), .one (.b false)], some (.kD (.t [.i, .s, .b]))⟩),
  (55, ⟨.slice 58, 1, 24, .one .nl, none⟩),
  (56, ⟨.slice 49, 1, 24, .one .nl, none⟩),
  (57, ⟨.st [(3, 0, 0), (3, 1, 1), (9, 2, 2), (9, 3, 3), (56, 4, 4)], 5, 72, .st [.one (.i 0), .one (.i 0), .one (.s []), .one (.s []), .one .nl], some (.kD (.t [.i, .i, .s, .s, .sl (.t [.i, .s, .b])]))⟩),
  (58, ⟨.st [(3, 0, 0), (3, 1, 1), (9, 2, 2), (9, 3, 3), (56, 4, 4)], 5, 72, .st [.one (.i 0), .one (.i 0), .one (.s []), .one (.s []), .one .nl], some (.kD (.t [.i, .i, .s, .s, .sl (.t [.i, .s, .b])]))⟩),
  (67, ⟨.arr 2 4, 2, 2, .arr 2 ((EK.kD .b).rep F 2), none⟩),
  (68, ⟨.ptr 128, 1, 8, .one .pn, none⟩),
  (72, ⟨.st [(9, 0, 0), (30, 1, 1)], 2, 40, .st [.one (.s []), .one .nl], some (.kD (.t [.s, .ss]))⟩),
  (73, ⟨.st [(9, 0, 0), (30, 1, 1)], 2, 40, .st [.one (.s []), .one .nl], some (.kD (.t [.s, .ss]))⟩),
  (74, ⟨.arr 2 5, 2, 2, .arr 2 (.bt (F.repB 2)), some (.kD (.l8 2))⟩),
  (76, ⟨.st [(9, 0, 0), (30, 1, 1), (30, 2, 2)], 3, 64, .st [.one (.s []), .one .nl, .one .nl], some (.kD (.t [.s, .ss, .ss]))⟩),
  (77, ⟨.st [(9, 0, 0), (30, 1, 1), (30, 2, 2)], 3, 64, .st [.one (.s []), .one .nl, .one .nl], some (.kD (.t [.s, .ss, .ss]))⟩),
  (81, ⟨.slice 77, 1, 24, .one .nl, none⟩),
  (83, ⟨.slice 73, 1, 24, .one .nl, none⟩),
  (87, ⟨.slice 92, 1, 24, .one .nl, none⟩),
  (88, ⟨.ptr 90, 1, 8, .one .pn, none⟩),
  (89, ⟨.st [(83, 0, 0), (81, 1, 1)], 2, 48, .st [.one .nl, .one .nl], some (.kD (.t [.sl (.t [.s, .ss]), .sl (.t [.s, .ss, .ss])]))⟩),
  (90, ⟨.st [(83, 0, 0), (81, 1, 1)], 2, 48, .st [.one .nl, .one .nl], some (.kD (.t [.sl (.t [.s, .ss]), .sl (.t [.s, .ss, .ss])]))⟩),
  (91, ⟨.st [(3, 0, 0), (9, 1, 1), (30, 2, 2), (30, 3, 3)], 4, 72, .st [.one (.i 0), .one (.s []), .one .nl, .one .nl], some (.kD (.t [.i, .s, .ss, .ss]))⟩),
  (92, ⟨.st [(3, 0, 0), (9, 1, 1), (30, 2, 2), (30, 3, 3)], 4, 72, .st [.one (.i 0), .one (.s []), .one .nl, .one .nl], some (.kD (.t [.i, .s, .ss, .ss]))⟩),
  (101, ⟨.map 3 .i 32 (.t [.i, .i, .i, .ss, .s]), 1, 8, .one .mn, none⟩),
  (102, ⟨.st [(101, 0, 0), (3, 1, 1)], 2, 16, .st [.one .mn, .one (.i 0)], none⟩),
  (103, ⟨.st [(101, 0, 0), (3, 1, 1)], 2, 16, .st [.one .mn, .one (.i 0)], none⟩),
  (111, ⟨.map 3 .i 4 (.b), 1, 8, .one .mn, none⟩),
  (112, ⟨.map 9 .s 56 (.sl (.t [.i, .s, .b])), 1, 8, .one .mn, none⟩),
  (113, ⟨.st [(112, 0, 0)], 1, 8, .st [.one .mn], none⟩),
  (114, ⟨.st [(112, 0, 0)], 1, 8, .st [.one .mn], none⟩),
  (125, ⟨.map 9 .s 73 (.t [.s, .ss]), 1, 8, .one .mn, none⟩),
  (126, ⟨.map 9 .s 77 (.t [.s, .ss, .ss]), 1, 8, .one .mn, none⟩),
  (127, ⟨.st [(125, 0, 0), (126, 1, 1)], 2, 16, .st [.one .mn, .one .mn], none⟩),
  (128, ⟨.st [(125, 0, 0), (126, 1, 1)], 2, 16, .st [.one .mn, .one .mn], none⟩),
  (129, ⟨.int .u64, 1, 8, .one (.w64 (F.ofI64 0)), some .kQ⟩),
  (160, ⟨.int .u32, 1, 4, .one (.w32 (F.ofI32 0)), some .kW⟩),
  (162, ⟨.int .u64, 1, 8, .one (.w64 (F.ofI64 0)), some .kQ⟩),
  (172, ⟨.ptr 3, 1, 8, .one .pn, none⟩),
  (176, ⟨.ptr 168, 1, 8, .one .pn, none⟩),
  (188, ⟨.ptr 5, 1, 8, .one .pn, none⟩)]
theorem ty2 : TIok Try.prog 2 ⟨.int .i64, 1, 8, .one (.i 0), some .kI⟩ := ti_i64 (by kernel_rfl) (by kernel_rfl)
theorem ty3 : TIok Try.prog 3 ⟨.int .i64, 1, 8, .one (.i 0), some .kI⟩ := ti_i64 (by kernel_rfl) (by kernel_rfl)
theorem ty4 : TIok Try.prog 4 ⟨.bool, 1, 1, .one (.b false), none⟩ := ti_bool (by kernel_rfl) (by kernel_rfl)
theorem ty5 : TIok Try.prog 5 ⟨.int .u8, 1, 1, .one (.w8 (real.ofI8 0)), some .kB⟩ := ti_u8 (by kernel_rfl) (by kernel_rfl)
theorem ty9 : TIok Try.prog 9 ⟨.str, 1, 16, .one (.s []), some .kS⟩ := ti_str (by kernel_rfl) (by kernel_rfl)
theorem ty22 : TIok Try.prog 22 ⟨.slice 23, 1, 24, .one .nl, none⟩ := ti_slice (by kernel_rfl) (by kernel_rfl)
theorem ty23 : TIok Try.prog 23 ⟨.int .u16, 1, 2, .one (.w16 (real.ofI16 0)), some .kH⟩ := ti_u16 (by kernel_rfl) (by kernel_rfl)
theorem ty25 : TIok Try.prog 25 ⟨.ptr 103, 1, 8, .one .pn, none⟩ := ti_ptr (by kernel_rfl) (by kernel_rfl)
theorem ty27 : TIok Try.prog 27 ⟨.int .i64, 1, 8, .one (.i 0), some .kI⟩ := ti_i64 (by kernel_rfl) (by kernel_rfl)
theorem ty30 : TIok Try.prog 30 ⟨.slice 9, 1, 24, .one .nl, none⟩ := ti_slice (by kernel_rfl) (by kernel_rfl)
theorem ty31 : TIok Try.prog 31 ⟨.st [(3, 0, 0), (3, 1, 1), (3, 2, 2), (30, 3, 3), (9, 4, 4)], 5, 64, .st [.one (.i 0), .one (.i 0), .one (.i 0), .one .nl, .one (.s [])], some (.kD (.t [.i, .i, .i, .ss, .s]))⟩ := ti_stK (some (.t [.i, .i, .i, .ss, .s])) (by kernel_rfl) (by kernel_rfl) (by kernel_rfl) (by kernel_rfl) (by kernel_rfl) (by kernel_rfl) (by kernel_rfl) (by kernel_rfl) (by kernel_rfl) ⟨by kernel_rfl, by kernel_rfl, by kernel_rfl⟩
theorem ty32 : TIok Try.prog 32 ⟨.st [(3, 0, 0), (3, 1, 1), (3, 2, 2), (30, 3, 3), (9, 4, 4)], 5, 64, .st [.one (.i 0), .one (.i 0), .one (.i 0), .one .nl, .one (.s [])], some (.kD (.t [.i, .i, .i, .ss, .s]))⟩ := ti_stK (some (.t [.i, .i, .i, .ss, .s])) (by kernel_rfl) (by kernel_rfl) (by kernel_rfl) (by kernel_rfl) (by kernel_rfl) (by kernel_rfl) (by kernel_rfl) (by kernel_rfl) (by kernel_rfl) ⟨by kernel_rfl, by kernel_rfl, by kernel_rfl⟩
theorem ty35 : TIok Try.prog 35 ⟨.slice 3, 1, 24, .one .nl, none⟩ := ti_slice (by kernel_rfl) (by kernel_rfl)
theorem ty41 : TIok Try.prog 41 ⟨.slice 5, 1, 24, .one .nl, none⟩ := ti_slice (by kernel_rfl) (by kernel_rfl)
theorem ty42 : TIok Try.prog 42 ⟨.slice 4, 1, 24, .one .nl, none⟩ := ti_slice (by kernel_rfl) (by kernel_rfl)
theorem ty44 : TIok Try.prog 44 ⟨.ptr 114, 1, 8, .one .pn, none⟩ := ti_ptr (by kernel_rfl) (by kernel_rfl)
theorem ty48 : TIok Try.prog 48 ⟨.st [(3, 0, 0), (9, 1, 1), (4, 2, 2)], 3, 32, .st [.one (.i 0), .one (.s []), .one (.b false)], some (.kD (.t [.i, .s, .b]))⟩ := ti_stK (some (.t [.i, .s, .b])) (by kernel_rfl) (by kernel_rfl) (by kernel_rfl) (by kernel_rfl) (by kernel_rfl) (by kernel_rfl) (by kernel_rfl) (by kernel_rfl) (by kernel_rfl) ⟨by kernel_rfl, by kernel_rfl, by kernel_rfl⟩
theorem ty49 : TIok Try.prog 49 ⟨.st [(3, 0, 0), (9, 1, 1), (4, 2, 2)], 3, 32, .st [.one (.i 0), .one (.s []), .one (.b false)], some (.kD (.t [.i, .s, .b]))⟩ := ti_stK (some (.t [.i, .s, .b])) (by kernel_rfl) (by kernel_rfl) (by kernel_rfl) (by kernel_rfl) (by kernel_rfl) (by kernel_rfl) (by kernel_rfl) (by kernel_rfl) (by kernel_rfl) ⟨by kernel_rfl, by kernel_rfl, by kernel_rfl⟩
theorem ty55 : TIok Try.prog 55 ⟨.slice 58, 1, 24, .one .nl, none⟩ := ti_slice (by kernel_rfl) (by kernel_rfl)
theorem ty56 : TIok Try.prog 56 ⟨.slice 49, 1, 24, .one .nl, none⟩ := ti_slice (by kernel_rfl) (by kernel_rfl)
theorem ty57 : TIok Try.prog 57 ⟨.st [(3, 0, 0), (3, 1, 1), (9, 2, 2), (9, 3, 3), (56, 4, 4)], 5, 72, .st [.one (.i 0), .one (.i 0), .one (.s []), .one (.s []), .one .nl], some (.kD (.t [.i, .i, .s, .s, .sl (.t [.i, .s, .b])]))⟩ := ti_stK (some (.t [.i, .i, .s, .s, .sl (.t [.i, .s, .b])])) (by kernel_rfl) (by kernel_rfl) (by kernel_rfl) (by kernel_rfl) (by kernel_rfl) (by kernel_rfl) (by kernel_rfl) (by kernel_rfl) (by kernel_rfl) ⟨by kernel_rfl, by kernel_rfl, by kernel_rfl⟩
theorem ty58 : TIok Try.prog 58 ⟨.st [(3, 0, 0), (3, 1, 1), (9, 2, 2), (9, 3, 3), (56, 4, 4)], 5, 72, .st [.one (.i 0), .one (.i 0), .one (.s []), .one (.s []), .one .nl], some (.kD (.t [.i, .i, .s, .s, .sl (.t [.i, .s, .b])]))⟩ := ti_stK (some (.t [.i, .i, .s, .s, .sl (.t [.i, .s, .b])])) (by kernel_rfl) (by kernel_rfl) (by kernel_rfl) (by kernel_rfl) (by kernel_rfl) (by kernel_rfl) (by kernel_rfl) (by kernel_rfl) (by kernel_rfl) ⟨by kernel_rfl, by kernel_rfl, by kernel_rfl⟩
theorem ty67 : TIok Try.prog 67 ⟨.arr 2 4, 2, 2, .arr 2 ((EK.kD .b).rep real 2), none⟩ := ti_arrB (by kernel_rfl) (by kernel_rfl)
theorem ty68 : TIok Try.prog 68 ⟨.ptr 128, 1, 8, .one .pn, none⟩ := ti_ptr (by kernel_rfl) (by kernel_rfl)
theorem ty72 : TIok Try.prog 72 ⟨.st [(9, 0, 0), (30, 1, 1)], 2, 40, .st [.one (.s []), .one .nl], some (.kD (.t [.s, .ss]))⟩ := ti_stK (some (.t [.s, .ss])) (by kernel_rfl) (by kernel_rfl) (by kernel_rfl) (by kernel_rfl) (by kernel_rfl) (by kernel_rfl) (by kernel_rfl) (by kernel_rfl) (by kernel_rfl) ⟨by kernel_rfl, by kernel_rfl, by kernel_rfl⟩
theorem ty73 : TIok Try.prog 73 ⟨.st [(9, 0, 0), (30, 1, 1)], 2, 40, .st [.one (.s []), .one .nl], some (.kD (.t [.s, .ss]))⟩ := ti_stK (some (.t [.s, .ss])) (by kernel_rfl) (by kernel_rfl) (by kernel_rfl) (by kernel_rfl) (by kernel_rfl) (by kernel_rfl) (by kernel_rfl) (by kernel_rfl) (by kernel_rfl) ⟨by kernel_rfl, by kernel_rfl, by kernel_rfl⟩
theorem ty74 : TIok Try.prog 74 ⟨.arr 2 5, 2, 2, .arr 2 (.bt (real.repB 2)), some (.kD (.l8 2))⟩ := ti_arr .kB (some (.l8 2)) (fun _ h => nomatch h) (by kernel_rfl) (by kernel_rfl) ⟨by kernel_rfl, by kernel_rfl, by kernel_rfl⟩
theorem ty76 : TIok Try.prog 76 ⟨.st [(9, 0, 0), (30, 1, 1), (30, 2, 2)], 3, 64, .st [.one (.s []), .one .nl, .one .nl], some (.kD (.t [.s, .ss, .ss]))⟩ := ti_stK (some (.t [.s, .ss, .ss])) (by kernel_rfl) (by kernel_rfl) (by kernel_rfl) (by kernel_rfl) (by kernel_rfl) (by kernel_rfl) (by kernel_rfl) (by kernel_rfl) (by kernel_rfl) ⟨by kernel_rfl, by kernel_rfl, by kernel_rfl⟩
theorem ty77 : TIok Try.prog 77 ⟨.st [(9, 0, 0), (30, 1, 1), (30, 2, 2)], 3, 64, .st [.one (.s []), .one .nl, .one .nl], some (.kD (.t [.s, .ss, .ss]))⟩ := ti_stK (some (.t [.s, .ss, .ss])) (by kernel_rfl) (by kernel_rfl) (by kernel_rfl) (by kernel_rfl) (by kernel_rfl) (by kernel_rfl) (by kernel_rfl) (by kernel_rfl) (by kernel_rfl) ⟨by kernel_rfl, by kernel_rfl, by kernel_rfl⟩
theorem ty81 : TIok Try.prog 81 ⟨.slice 77, 1, 24, .one .nl, none⟩ := ti_slice (by kernel_rfl) (by kernel_rfl)
theorem ty83 : TIok Try.prog 83 ⟨.slice 73, 1, 24, .one .nl, none⟩ := ti_slice (by kernel_rfl) (by kernel_rfl)
theorem ty87 : TIok Try.prog 87 ⟨.slice 92, 1, 24, .one .nl, none⟩ := ti_slice (by kernel_rfl) (by kernel_rfl)
theorem ty88 : TIok Try.prog 88 ⟨.ptr 90, 1, 8, .one .pn, none⟩ := ti_ptr (by kernel_rfl) (by kernel_rfl)
theorem ty89 : TIok Try.prog 89 ⟨.st [(83, 0, 0), (81, 1, 1)], 2, 48, .st [.one .nl, .one .nl], some (.kD (.t [.sl (.t [.s, .ss]), .sl (.t [.s, .ss, .ss])]))⟩ := ti_stK (some (.t [.sl (.t [.s, .ss]), .sl (.t [.s, .ss, .ss])])) (by kernel_rfl) (by kernel_rfl) (by kernel_rfl) (by kernel_rfl) (by kernel_rfl) (by kernel_rfl) (by kernel_rfl) (by kernel_rfl) (by kernel_rfl) ⟨by kernel_rfl, by kernel_rfl, by kernel_rfl⟩
theorem ty90 : TIok Try.prog 90 ⟨.st [(83, 0, 0), (81, 1, 1)], 2, 48, .st [.one .nl, .one .nl], some (.kD (.t [.sl (.t [.s, .ss]), .sl (.t [.s, .ss, .ss])]))⟩ := ti_stK (some (.t [.sl (.t [.s, .ss]), .sl (.t [.s, .ss, .ss])])) (by kernel_rfl) (by kernel_rfl) (by kernel_rfl) (by kernel_rfl) (by kernel_rfl) (by kernel_rfl) (by kernel_rfl) (by kernel_rfl) (by kernel_rfl) ⟨by kernel_rfl, by kernel_rfl, by kernel_rfl⟩
theorem ty91 : TIok Try.prog 91 ⟨.st [(3, 0, 0), (9, 1, 1), (30, 2, 2), (30, 3, 3)], 4, 72, .st [.one (.i 0), .one (.s []), .one .nl, .one .nl], some (.kD (.t [.i, .s, .ss, .ss]))⟩ := ti_stK (some (.t [.i, .s, .ss, .ss])) (by kernel_rfl) (by kernel_rfl) (by kernel_rfl) (by kernel_rfl) (by kernel_rfl) (by kernel_rfl) (by kernel_rfl) (by kernel_rfl) (by kernel_rfl) ⟨by kernel_rfl, by kernel_rfl, by kernel_rfl⟩
theorem ty92 : TIok Try.prog 92 ⟨.st [(3, 0, 0), (9, 1, 1), (30, 2, 2), (30, 3, 3)], 4, 72, .st [.one (.i 0), .one (.s []), .one .nl, .one .nl], some (.kD (.t [.i, .s, .ss, .ss]))⟩ := ti_stK (some (.t [.i, .s, .ss, .ss])) (by kernel_rfl) (by kernel_rfl) (by kernel_rfl) (by kernel_rfl) (by kernel_rfl) (by kernel_rfl) (by kernel_rfl) (by kernel_rfl) (by kernel_rfl) ⟨by kernel_rfl, by kernel_rfl, by kernel_rfl⟩
theorem ty101 : TIok Try.prog 101 ⟨.map 3 .i 32 (.t [.i, .i, .i, .ss, .s]), 1, 8, .one .mn, none⟩ := ti_map (c := 5) (b := 64) (by kernel_rfl) (by kernel_rfl) (kk_i (by kernel_rfl)) (by kernel_rfl) (.inl rfl)
theorem ty102 : TIok Try.prog 102 ⟨.st [(101, 0, 0), (3, 1, 1)], 2, 16, .st [.one .mn, .one (.i 0)], none⟩ := ti_stK none (by kernel_rfl) (by kernel_rfl) (by kernel_rfl) (by kernel_rfl) (by kernel_rfl) (by kernel_rfl) (by kernel_rfl) (by kernel_rfl) (by kernel_rfl) trivial
theorem ty103 : TIok Try.prog 103 ⟨.st [(101, 0, 0), (3, 1, 1)], 2, 16, .st [.one .mn, .one (.i 0)], none⟩ := ti_stK none (by kernel_rfl) (by kernel_rfl) (by kernel_rfl) (by kernel_rfl) (by kernel_rfl) (by kernel_rfl) (by kernel_rfl) (by kernel_rfl) (by kernel_rfl) trivial
theorem ty111 : TIok Try.prog 111 ⟨.map 3 .i 4 (.b), 1, 8, .one .mn, none⟩ := ti_map (c := 1) (b := 1) (by kernel_rfl) (by kernel_rfl) (kk_i (by kernel_rfl)) (by kernel_rfl) (.inr rfl)
theorem ty112 : TIok Try.prog 112 ⟨.map 9 .s 56 (.sl (.t [.i, .s, .b])), 1, 8, .one .mn, none⟩ := ti_map (c := 1) (b := 24) (by kernel_rfl) (by kernel_rfl) (kk_s (by kernel_rfl)) (by kernel_rfl) (.inr rfl)
theorem ty113 : TIok Try.prog 113 ⟨.st [(112, 0, 0)], 1, 8, .st [.one .mn], none⟩ := ti_stK none (by kernel_rfl) (by kernel_rfl) (by kernel_rfl) (by kernel_rfl) (by kernel_rfl) (by kernel_rfl) (by kernel_rfl) (by kernel_rfl) (by kernel_rfl) trivial
theorem ty114 : TIok Try.prog 114 ⟨.st [(112, 0, 0)], 1, 8, .st [.one .mn], none⟩ := ti_stK none (by kernel_rfl) (by kernel_rfl) (by kernel_rfl) (by kernel_rfl) (by kernel_rfl) (by kernel_rfl) (by kernel_rfl) (by kernel_rfl) (by kernel_rfl) trivial
theorem ty125 : TIok Try.prog 125 ⟨.map 9 .s 73 (.t [.s, .ss]), 1, 8, .one .mn, none⟩ := ti_map (c := 2) (b := 40) (by kernel_rfl) (by kernel_rfl) (kk_s (by kernel_rfl)) (by kernel_rfl) (.inl rfl)
theorem ty126 : TIok Try.prog 126 ⟨.map 9 .s 77 (.t [.s, .ss, .ss]), 1, 8, .one .mn, none⟩ := ti_map (c := 3) (b := 64) (by kernel_rfl) (by kernel_rfl) (kk_s (by kernel_rfl)) (by kernel_rfl) (.inl rfl)
theorem ty127 : TIok Try.prog 127 ⟨.st [(125, 0, 0), (126, 1, 1)], 2, 16, .st [.one .mn, .one .mn], none⟩ := ti_stK none (by kernel_rfl) (by kernel_rfl) (by kernel_rfl) (by kernel_rfl) (by kernel_rfl) (by kernel_rfl) (by kernel_rfl) (by kernel_rfl) (by kernel_rfl) trivial
theorem ty128 : TIok Try.prog 128 ⟨.st [(125, 0, 0), (126, 1, 1)], 2, 16, .st [.one .mn, .one .mn], none⟩ := ti_stK none (by kernel_rfl) (by kernel_rfl) (by kernel_rfl) (by kernel_rfl) (by kernel_rfl) (by kernel_rfl) (by kernel_rfl) (by kernel_rfl) (by kernel_rfl) trivial
theorem ty129 : TIok Try.prog 129 ⟨.int .u64, 1, 8, .one (.w64 (real.ofI64 0)), some .kQ⟩ := ti_u64 (by kernel_rfl) (by kernel_rfl)
theorem ty160 : TIok Try.prog 160 ⟨.int .u32, 1, 4, .one (.w32 (real.ofI32 0)), some .kW⟩ := ti_u32 (by kernel_rfl) (by kernel_rfl)
theorem ty162 : TIok Try.prog 162 ⟨.int .u64, 1, 8, .one (.w64 (real.ofI64 0)), some .kQ⟩ := ti_u64 (by kernel_rfl) (by kernel_rfl)
theorem ty172 : TIok Try.prog 172 ⟨.ptr 3, 1, 8, .one .pn, none⟩ := ti_ptr (by kernel_rfl) (by kernel_rfl)
theorem ty176 : TIok Try.prog 176 ⟨.ptr 168, 1, 8, .one .pn, none⟩ := ti_ptr (by kernel_rfl) (by kernel_rfl)
theorem ty188 : TIok Try.prog 188 ⟨.ptr 5, 1, 8, .one .pn, none⟩ := ti_ptr (by kernel_rfl) (by kernel_rfl)
theorem tt_ok : TTok Try.prog (tt real) :=
  ttok_cons ty2 (ttok_cons ty3 (ttok_cons ty4 (ttok_cons ty5 (ttok_cons ty9 (ttok_cons ty22 (ttok_cons ty23 (ttok_cons ty25 (ttok_cons ty27 (ttok_cons ty30 (ttok_cons ty31 (ttok_cons ty32 (ttok_cons ty35 (ttok_cons ty41 (ttok_cons ty42 (ttok_cons ty44 (ttok_cons ty48 (ttok_cons ty49 (ttok_cons ty55 (ttok_cons ty56 (ttok_cons ty57 (ttok_cons ty58 (ttok_cons ty67 (ttok_cons ty68 (ttok_cons ty72 (ttok_cons ty73 (ttok_cons ty74 (ttok_cons ty76 (ttok_cons ty77 (ttok_cons ty81 (ttok_cons ty83 (ttok_cons ty87 (ttok_cons ty88 (ttok_cons ty89 (ttok_cons ty90 (ttok_cons ty91 (ttok_cons ty92 (ttok_cons ty101 (ttok_cons ty102 (ttok_cons ty103 (ttok_cons ty111 (ttok_cons ty112 (ttok_cons ty113 (ttok_cons ty114 (ttok_cons ty125 (ttok_cons ty126 (ttok_cons ty127 (ttok_cons ty128 (ttok_cons ty129 (ttok_cons ty160 (ttok_cons ty162 (ttok_cons ty172 (ttok_cons ty176 (ttok_cons ty188 ttok_nil)))))))))))))))))))))))))))))))))))))))))))))))))))))
end Go.Proofs.Ythjlhookepchgaa
set_option linter.unusedVariables false
set_option linter.unusedSimpArgs false
set_option maxRecDepth 100000
set_option maxHeartbeats 4000000
namespace Go.Proofs.Ythjlhookepchgaa
open Go Go.Vc
/-- the program's plain functions, behind one name -/
structure Us where
  isK : List UInt8 → Bool
  isP : List UInt8 → Nat → Prop
  okK : MD → Prop
  okV : List D → Prop
  vs : MD → List UInt8 → List D
  lN : MD → List UInt8 → Int
  lV : MD → List UInt8 → List UInt8
  lG : MD → List UInt8 → Bool
  fg : MD → List UInt8 → Nat
  has : MD → List UInt8 → Bool
  byP : List D → Nat → Int
  by_ : List D → Int
  wrE : MD → List UInt8 → Int → List UInt8 → Int
  wrN : MD → List UInt8 → Int → List UInt8 → Int
  wrM : MD → List UInt8 → Int → List UInt8 → MD
  coN : MD → List UInt8 → List UInt8 → Int
  coE : MD → List UInt8 → Int
  rdP : MD → List UInt8 → Int → Nat → Prop
  rdE : MD → List UInt8 → Int → Int
  rdN : MD → List UInt8 → Int → Int
  rdV : MD → List UInt8 → Int → List UInt8
  rdG : MD → List UInt8 → Int → Bool
  dlE : MD → List UInt8 → Int
  dlN : MD → List UInt8 → Int
  dlM : MD → List UInt8 → MD
  szP : MD → List Nat → Int
  sz : MD → Int
  left : MD → List Nat → Nat
  seenOk : MD → List Nat → Prop
  rt : List D → Bool
  rtP : List D → Nat → Prop
  rsE : MD → List UInt8 → List D → Int
  rsM : MD → List UInt8 → List D → MD
  eqV : List D → List D → Bool
  eqP : List D → List D → Nat → Prop
  caL : List UInt8 → List UInt8 → Nat → Nat
  caM : List UInt8 → List UInt8 → Nat → MD
  one : List UInt8 → (Nat → D) → Nat → MD
  vh : List (List UInt8) → Nat → D
  val : List (List UInt8) → Nat → List UInt8
  gon : MD → List UInt8 → Bool → MD
  fuM : Nat → MD
  fuK : UInt8 → Nat
  fuI : UInt8 → UInt8 → Nat
  szM : List D → Nat → MD
  bad : List D → Int → List D
def dv (n : Int) (v : List UInt8) (g : Bool) : D := .t [.i n, .s v, .b g]
def dv0 : D := dv 0 [] false
def isC (c : UInt8) : Bool := (decide (97 ≤ c.toNat) && decide (c.toNat ≤ 122)) || (decide (48 ≤ c.toNat) && decide (c.toNat ≤ 57))
def u_isK (s : List UInt8) : Bool := s.all isC && decide (1 ≤ s.length) && decide (s.length ≤ 10)
def u_isP (s : List UInt8) (j : Nat) : Prop := j ≤ s.length ∧ ∀ c ∈ s.take j, isC c = true
/-- a version of numbers that are not too great -/
def okD (d : D) : Prop := ∃ (n : Int) (v : List UInt8) (g : Bool), d = dv n v g ∧ 0 ≤ n ∧ n ≤ 1000000000 ∧ v.length ≤ 1000
def u_okV (l : List D) : Prop := l.length ≤ 100 ∧ ∀ d ∈ l, okD d
def u_okK (M : MD) : Prop := M.ok ∧ M.keyOkS ∧ (∀ e ∈ M.es, ∃ (k : List UInt8) (l : List D), e.2.1 = .s k ∧ k.length ≤ 1000 ∧ e.2.2 = .t l ∧ u_okV l)
def u_vs (M : MD) (key : List UInt8) : List D := (M.get (.s key) (.t [])).gt
def u_last (M : MD) (key : List UInt8) : D := (u_vs M key).getLastD dv0
def u_lN (M : MD) (key : List UInt8) : Int := ((u_last M key).fld 0).gi
def u_lV (M : MD) (key : List UInt8) : List UInt8 := ((u_last M key).fld 1).gs
def u_lG (M : MD) (key : List UInt8) : Bool := ((u_last M key).fld 2).gb
def u_fg (M : MD) (key : List UInt8) : Nat := (u_vs M key).length - 2
def u_has (M : MD) (key : List UInt8) : Bool := M.has (.s key)
def u_byP (l : List D) (j : Nat) : Int := (((l.take j).map fun d => (d.fld 1).gs.length).sum : Nat)
def u_by (l : List D) : Int := ((l.map fun d => (d.fld 1).gs.length).sum : Nat)
def u_wrE (M : MD) (key : List UInt8) (cas : Int) (val : List UInt8) : Int :=
  if u_isK key = false then 12 else if 40 < val.length then 11 else if cas ≠ -1 ∧ cas ≠ u_lN M key then 220
  else if u_lN M key = 0 ∧ 12 ≤ M.es.length then 102 else 0
def u_wrN (M : MD) (key : List UInt8) (cas : Int) (val : List UInt8) : Int := if u_wrE M key cas val = 0 then u_lN M key + 1 else 0
def u_wrM (M : MD) (key : List UInt8) (cas : Int) (val : List UInt8) : MD := if u_wrE M key cas val = 0 then M.set (.s key) (.t ((u_vs M key).drop (u_fg M key) ++ [dv (u_lN M key + 1) val false])) else M
def u_coN (M : MD) (key val : List UInt8) : Int := (val.length : Int) - u_by ((u_vs M key).take (u_fg M key)) + (if u_has M key then 0 else (key.length : Int))
def u_coE (M : MD) (key : List UInt8) : Int := if u_has M key then 0 else 1
def u_mt (M : MD) (key : List UInt8) (ver : Int) (d : D) : Bool := ((d.fld 0).gi == ver) || ((ver == 0) && ((d.fld 0).gi == u_lN M key))
def u_rdP (M : MD) (key : List UInt8) (ver : Int) (j : Nat) : Prop := j ≤ (u_vs M key).length ∧ ∀ d ∈ (u_vs M key).take j, u_mt M key ver d = false
def u_rd (M : MD) (key : List UInt8) (ver : Int) : Option D := match (u_vs M key).find? (u_mt M key ver) with
  | some d => if (d.fld 2).gb then none else some d
  | none => none
def u_rdE (M : MD) (key : List UInt8) (ver : Int) : Int := match u_rd M key ver with
  | some _ => 0
  | none => 100
def u_rdD (M : MD) (key : List UInt8) (ver : Int) : D := (u_rd M key ver).getD dv0
def u_rdN (M : MD) (key : List UInt8) (ver : Int) : Int := ((u_rdD M key ver).fld 0).gi
def u_rdV (M : MD) (key : List UInt8) (ver : Int) : List UInt8 := ((u_rdD M key ver).fld 1).gs
def u_rdG (M : MD) (key : List UInt8) (ver : Int) : Bool := ((u_rdD M key ver).fld 2).gb
def u_dlE (M : MD) (key : List UInt8) : Int := if u_lN M key = 0 ∨ u_lG M key = true then 100 else 0
def u_dlN (M : MD) (key : List UInt8) : Int := if u_dlE M key = 0 then u_lN M key else 0
def u_dlM (M : MD) (key : List UInt8) : MD := if u_dlE M key = 0 then M.set (.s key) (.t ((u_vs M key).set ((u_vs M key).length - 1) (dv (u_lN M key) [] true))) else M
def u_szE (e : Nat × D × D) : Nat := e.2.1.gs.length + (e.2.2.gt.map fun d => (d.fld 1).gs.length).sum
def u_szP (M : MD) (seen : List Nat) : Int := ((seen.map fun b => (M.keyB b).gs.length + ((M.valB b).gt.map fun d => (d.fld 1).gs.length).sum).sum : Nat)
def u_sz (M : MD) : Int := ((M.es.map u_szE).sum : Nat)
def u_left (M : MD) (seen : List Nat) : Nat := M.es.length - seen.length
def u_seenOk (M : MD) (seen : List Nat) : Prop := seen.Nodup ∧ ∀ b ∈ seen, b ∈ M.es.map (·.1)
def rtB (l : List D) (j : Nat) : Bool := !(decide (((l.getD j D.no).fld 0).gi < 1) || decide (40 < ((l.getD j D.no).fld 1).gs.length) || (((l.getD j D.no).fld 2).gb && decide (((l.getD j D.no).fld 1).gs ≠ [])) || (decide (0 < j) && decide (((l.getD j D.no).fld 0).gi - 1 ≠ ((l.getD (j - 1) D.no).fld 0).gi)))
def u_rt (l : List D) : Bool := (List.range l.length).all (rtB l) && decide (1 ≤ l.length) && decide (l.length ≤ 3)
def u_rtP (l : List D) (j : Nat) : Prop := j ≤ l.length ∧ ∀ i, i < j → rtB l i = true
def u_rsE (M : MD) (key : List UInt8) (l : List D) : Int := if u_isK key = false ∨ u_rt l = false then 12 else if u_has M key = false ∧ 12 ≤ M.es.length then 102 else 0
def u_rsM (M : MD) (key : List UInt8) (l : List D) : MD := if u_rsE M key l = 0 then M.set (.s key) (.t l) else M
def eqD (a b : D) : Bool := (a.fld 0).gi == (b.fld 0).gi && ((a.fld 1).gs == (b.fld 1).gs && ((a.fld 2).gb == (b.fld 2).gb && true))
def u_eqV (a b : List D) : Bool := decide (a.length = b.length) && (List.range a.length).all fun i => eqD (a.getD i D.no) (b.getD i D.no)
def u_eqP (a b : List D) (j : Nat) : Prop := j ≤ a.length ∧ a.length = b.length ∧ ∀ i, i < j → eqD (a.getD i D.no) (b.getD i D.no) = true
/-- the last versions of c that were written, one behind the other -/
def u_vl (h : Nat → D) (c : Nat) : List D := ((List.range c).drop (c - 3)).map h
def u_one (key : List UInt8) (h : Nat → D) (c : Nat) : MD := if c = 0 then ⟨[], 0⟩ else ⟨[(0, .s key, .t (u_vl h c))], 1⟩
def updH (h : Nat → D) (c : Nat) (d : D) : Nat → D := fun i => if i = c then d else h i
/-- versions of these values -/
def u_vh (vals : List (List UInt8)) (i : Nat) : D := dv ((i : Int) + 1) (vals.getD i []) false
def u_ca (l key : List UInt8) : Nat → Nat × MD
  | 0 => (0, ⟨[], 0⟩)
  | i + 1 => if (l.getD i 0).toNat % 8 = (u_ca l key i).1 then ((u_ca l key i).1 + 1, u_wrM (u_ca l key i).2 key (((l.getD i 0).toNat % 8 : Nat) : Int) [l.getD i 0]) else u_ca l key i
def u_caL (l key : List UInt8) (i : Nat) : Nat := (u_ca l key i).1
def u_caM (l key : List UInt8) (i : Nat) : MD := (u_ca l key i).2
def u_val (vals : List (List UInt8)) (i : Nat) : List UInt8 := vals.getD i []
def u_gon (M : MD) (key : List UInt8) (g : Bool) : MD := if g then u_dlM M key else M
def u_fuM : Nat → MD
  | 0 => ⟨[], 0⟩
  | i + 1 => u_wrM (u_fuM i) [UInt8.ofNat (97 + i)] (-1) [120]
def u_fuK (n : UInt8) : Nat := n.toNat % 20
def u_fuI (n again : UInt8) : Nat := again.toNat % (min (u_fuK n) 12)
def szS (M : MD) (d : D) : MD := if (d.fld 0).gi ≤ 3 then u_wrM M (d.fld 2).gs (-1) (d.fld 3).gs else u_dlM M (d.fld 2).gs
def u_szM (l : List D) : Nat → MD
  | 0 => ⟨[], 0⟩
  | i + 1 => szS (u_szM l i) (l.getD i D.no)
def u_bad (l : List D) (a : Int) : List D := l.set (l.length - 1) (dv (((l.getLastD dv0).fld 0).gi + a) ((l.getLastD dv0).fld 1).gs ((l.getLastD dv0).fld 2).gb)
noncomputable def us : Us where
  isK := u_isK
  isP := u_isP
  okK := u_okK
  okV := u_okV
  vs := u_vs
  lN := u_lN
  lV := u_lV
  lG := u_lG
  fg := u_fg
  has := u_has
  byP := u_byP
  by_ := u_by
  wrE := u_wrE
  wrN := u_wrN
  wrM := u_wrM
  coN := u_coN
  coE := u_coE
  rdP := u_rdP
  rdE := u_rdE
  rdN := u_rdN
  rdV := u_rdV
  rdG := u_rdG
  dlE := u_dlE
  dlN := u_dlN
  dlM := u_dlM
  szP := u_szP
  sz := u_sz
  left := u_left
  seenOk := u_seenOk
  rt := u_rt
  rtP := u_rtP
  rsE := u_rsE
  rsM := u_rsM
  eqV := u_eqV
  eqP := u_eqP
  caL := u_caL
  caM := u_caM
  one := u_one
  vh := u_vh
  val := u_val
  gon := u_gon
  fuM := u_fuM
  fuK := u_fuK
  fuI := u_fuI
  szM := u_szM
  bad := u_bad
theorem mixed : Try.prog.follows .mixedOrders = true := by kernel_rfl
end Go.Proofs.Ythjlhookepchgaa
set_option linter.unusedVariables false
set_option linter.unusedSimpArgs false
set_option maxRecDepth 100000
set_option maxHeartbeats 1000000
namespace Go.Proofs.Ythjlhookepchgaa
open Go Go.Vc
/-! ## Small words about numbers and guards -/
theorem lt_g {j n : Nat} (h : ¬ real.pB (real.lti (real.int j) (real.int n)) false) : j < n := by
  simp only [real, Bool.not_eq_false, decide_eq_true_eq] at h
  omega
theorem ge_g {j n : Nat} (h : ¬ real.pB (real.lti (real.int j) (real.int n)) true) : n ≤ j := by
  simp only [real, Bool.not_eq_true, decide_eq_false_iff_not] at h
  omega
theorem addi1 {i : Nat} (h : i ≤ 1000000000000000) : real.addi (real.int i) (real.int 1) = real.int (i + 1) := by
  show IntKind.i64.wrap ((i : Int) + 1) = ((i + 1 : Nat) : Int)
  rw [wrap_sm (by omega) (by omega)]; omega
theorem sub_stepN {j n : Nat} (h : j < n) : real.subn n (j + 1) < real.subn n j := by show n - (j + 1) < n - j; omega
section
variable {F : Fs} (hF : real = F)
include hF
theorem inF {i n : Nat} (h : i < n) : F.pIn (F.int i) n := by subst hF; exact ⟨Int.natCast_nonneg _, Int.ofNat_lt.2 h⟩
end
end Go.Proofs.Ythjlhookepchgaa
set_option linter.unusedVariables false
set_option linter.unusedSimpArgs false
set_option maxRecDepth 100000
set_option maxHeartbeats 1000000
namespace Go.Proofs.Ythjlhookepchgaa
open Go Go.Vc
theorem p_t {b : Bool} (h : ¬ real.pB b false) : b = true := by
  cases b with
  | true => rfl
  | false => exact absurd rfl h
theorem p_f {b : Bool} (h : ¬ real.pB b true) : b = false := by
  cases b with
  | false => rfl
  | true => exact absurd rfl h
theorem n_t {b : Bool} (h : ¬ real.pB (real.notb b) false) : b = false := by
  cases b with
  | true => exact absurd rfl h
  | false => rfl
theorem n_f {b : Bool} (h : ¬ real.pB (real.notb b) true) : b = true := by
  cases b with
  | true => rfl
  | false => exact absurd rfl h
theorem isC_eq (c : UInt8) : isC c = ((real.le8 (real.ofI8 (real.int 97)) c && real.le8 c (real.ofI8 (real.int 122))) || (real.le8 (real.ofI8 (real.int 48)) c && real.le8 c (real.ofI8 (real.int 57)))) := rfl
theorem isP_0 (k : List UInt8) : us.isP k 0 := ⟨Nat.zero_le _, fun c hc => by simp at hc⟩
theorem isP_s {k : List UInt8} {j : Nat} (h : u_isP k j) (hj : j < k.length) (hc : isC (real.getB k (real.nat (real.int j))) = true) : us.isP k (j + 1) := by
  refine ⟨hj, fun c hm => ?_⟩
  rw [List.take_add_one, List.getElem?_eq_getElem hj] at hm
  simp only [Option.toList_some, List.mem_append, List.mem_singleton] at hm
  rcases hm with hm | rfl
  · exact h.2 c hm
  · have e : real.getB k (real.nat (real.int j)) = k[j] := by
      show k.getD j 0 = _
      rw [List.getD_eq_getElem?_getD, List.getElem?_eq_getElem hj]; rfl
    rw [e] at hc; exact hc
theorem isK_no {k : List UInt8} {j : Nat} (hj : j < k.length) (hc : isC (real.getB k (real.nat (real.int j))) = false) : false = us.isK k := by
  show false = u_isK k
  have e : real.getB k (real.nat (real.int j)) = k[j] := by
    show k.getD j 0 = _
    rw [List.getD_eq_getElem?_getD, List.getElem?_eq_getElem hj]; rfl
  rw [e] at hc
  have : k.all isC = false := by
    rw [List.all_eq_false]
    exact ⟨_, List.getElem_mem hj, by rw [hc]; decide⟩
  unfold u_isK
  rw [this]; rfl
theorem isK_end {k : List UInt8} {j : Nat} (h : u_isP k j) (hj : k.length ≤ j) : u_isK k = (decide (1 ≤ k.length) && decide (k.length ≤ 10)) := by
  have : k.all isC = true := by
    rw [List.all_eq_true]
    have e : j = k.length := Nat.le_antisymm h.1 hj
    have h2 := h.2
    rw [e, List.take_length] at h2
    exact h2
  unfold u_isK
  rw [this, Bool.true_and]
theorem byP_s {l : List D} {j : Nat} (hj : j < l.length) : u_byP l (j + 1) = u_byP l j + (((l.getD j D.no).fld 1).gs.length : Nat) := by
  unfold u_byP
  rw [List.take_add_one, List.getElem?_eq_getElem hj, List.getD_eq_getElem?_getD, List.getElem?_eq_getElem hj, List.map_append, List.sum_append]
  simp
theorem byP_e (l : List D) : u_byP l l.length = u_by l := by unfold u_byP u_by; rw [List.take_length]
theorem okD_len {d : D} (h : okD d) : (d.fld 1).gs.length ≤ 1000 := by
  obtain ⟨n, v, g, rfl, h1, h2, h3⟩ := h; exact h3
theorem sum_le : ∀ (l : List D), (∀ d ∈ l, okD d) → (l.map fun d => (d.fld 1).gs.length).sum ≤ 1000 * l.length
  | [], _ => by simp
  | d :: l, h => by
    have h1 := okD_len (h d (List.mem_cons_self ..))
    have h2 := sum_le l fun d hd => h d (List.mem_cons_of_mem _ hd)
    simp only [List.map_cons, List.sum_cons, List.length_cons]
    omega
theorem byP_le {l : List D} (h : u_okV l) (j : Nat) : 0 ≤ u_byP l j ∧ u_byP l j ≤ 100000 := by
  unfold u_byP
  have h1 := sum_le (l.take j) fun d hd => h.2 d (List.mem_of_mem_take hd)
  have h2 : (l.take j).length ≤ 100 := by rw [List.length_take]; have := h.1; omega
  omega
theorem by_addF {l : List D} {j : Nat} (h : u_okV l) (hj : j < l.length) : real.addi (us.byP l j) (real.int (real.lenB (real.dS (real.dF (real.getD l (real.nat (real.int j))) 1)))) = us.byP l (j + 1) := by
  have h1 := byP_le h (j + 1)
  have h2 := byP_s hj
  show IntKind.i64.wrap (u_byP l j + (((l.getD j D.no).fld 1).gs.length : Nat)) = u_byP l (j + 1)
  rw [h2] at h1 ⊢
  rw [wrap_sm (by omega) (by omega)]
theorem r_kv_New : Ready Try.prog 23 := by unfold Ready; kernel_rfl
noncomputable def sp_kv_New (F : Fs) (U : Us) : Specs := []
theorem ok_kv_New : SpecsOK Try.prog (sp_kv_New real us) := sp_nil
noncomputable def g_kv_New (F : Fs) (U : Us) : GLaw := fun l mm => match l, mm with
  | [], [] => some ⟨True, [.p 0 0 0], [], [.bk 114 [(1, .vs [.mh 1])], .mp 112 .s (.sl (.t [.i, .s, .b])) ⟨[], 0⟩]⟩
  | _, _ => none
noncomputable def s_kv_New (F : Fs) (U : Us) : Vc.Spec := gSpec 0 2 (g_kv_New F U)
noncomputable def x_kv_New (F : Fs) (U : Us) : Cx := ⟨Try.f23.ntmps, tt F, sp_kv_New F U, [], [], [], []⟩
theorem c_kv_New  : vc real (x_kv_New real us) [] [] (Try.f23.body.getD .skip) ⟨zipSl 0 [], zipMe 0 [], 64⟩ (retGOk real (tt real) Try.f23.results.toList [.p 0 0 0] [] [.bk 114 [(1, .vs [.mh 1])], .mp 112 .s (.sl (.t [.i, .s, .b])) ⟨[], 0⟩]) := by
  generalize hU : us = U
  generalize hF : real = F
  cbv
  repeat' first | apply And.intro | refine Classical.or_iff_not_imp_left.2 (fun _ => ?_) | exact trivial
theorem k_kv_New : SpecOK Try.prog 23 (s_kv_New real us) := by
  refine g_sound (n := 0) (q := 2) (x := x_kv_New real us) ⟨tt_ok, ok_kv_New, Go.Vc.ks_nil⟩ mixed Try.func23 rfl rfl (by kernel_rfl) (by decide) (fun j hj => by omega) ?_
  intro l mm c rs ch news hg hl hc
  unfold g_kv_New at hg
  split at hg
  · cases hg
    exact ⟨Nat.le_of_ble_eq_true rfl, [], [], c_kv_New ⟩
  · cases hg

theorem r_kv_isKey : Ready Try.prog 60 := by unfold Ready; kernel_rfl
noncomputable def sp_kv_isKey (F : Fs) (U : Us) : Specs := []
theorem ok_kv_isKey : SpecsOK Try.prog (sp_kv_isKey real us) := sp_nil
noncomputable def an_kv_isKey (F : Fs) (U : Us) (k : List UInt8) : Anns := [(2, ⟨Nat, fun j => U.isP k j, fun j => F.subn (F.lenB k) j, fun j => ⟨[(0, .s k), (6, .i (F.int (F.lenB k))), (7, .i (F.int j))], []⟩⟩)]
noncomputable def g_kv_isKey (F : Fs) (U : Us) : Law
  | [.s k] => some (F.pLe (F.lenB k) 1000000, [.val (.b (U.isK k))])
  | _ => none
noncomputable def s_kv_isKey (F : Fs) (U : Us) : Vc.Spec := pureSpec F false [.keep] (g_kv_isKey F U)
noncomputable def x_kv_isKey (F : Fs) (U : Us) : Cx := ⟨Try.f60.ntmps, tt F, sp_kv_isKey F U, [], [], [], []⟩
theorem c_kv_isKey (k : List UInt8) (hc : real.pLe (real.lenB k) 1000000) : vc real (x_kv_isKey real us) (an_kv_isKey real us k) [] (Try.f60.body.getD .skip) ⟨zipSl 0 [.s k], [], 64⟩ (retOk real (tt real) false Try.f60.results.toList [.val (.b (us.isK k))]) := by
  generalize hU : us = U
  generalize hF : real = F
  have hsm : k.length ≤ 1000000 := hc
  cbv
  repeat' first | apply And.intro | refine Classical.or_iff_not_imp_left.2 (fun _ => ?_) | exact trivial
  · refine ⟨(0 : Nat), ?_⟩
    cbv
    subst hF hU
    exact ⟨isP_0 k, trivial⟩
  · intro (j : Nat) hj
    replace hj : U.isP k j := hj
    cbv
    repeat' first | apply And.intro | refine Classical.or_iff_not_imp_left.2 (fun _ => ?_) | exact trivial
    all_goals first
      | (have hlt : j < F.lenB k := by subst hF hU; exact lt_g (by assumption)
         first
           | (subst hF hU; exact inF rfl hlt)
           | (subst hF hU
              refine isK_no (j := j) hlt ?_
              rw [isC_eq]
              simp only [real, Bool.not_eq_true, Bool.not_eq_false, Bool.not_eq_true', Bool.not_eq_false'] at *
              first
                | (simp_all; done)
                | (simp_all; omega))
           | (refine ⟨(j + 1 : Nat), ?_⟩
              cbv
              subst hF hU
              refine ⟨isP_s hj hlt ?_, sub_stepN hlt, ⟨addi1 (by have hr : k.length ≤ 1000000 := hsm; have h4 : j < k.length := hlt; omega), trivial⟩, trivial⟩
              rw [isC_eq]
              simp only [real, Bool.not_eq_true, Bool.not_eq_false, Bool.not_eq_true', Bool.not_eq_false'] at *
              first
                | (simp_all; done)
                | (simp_all; omega)))
      | (subst hF hU
         have hge := isK_end hj (ge_g (j := j) (by assumption))
         show _ = u_isK k
         rw [hge]
         simp only [real, Bool.not_eq_true, Bool.not_eq_false, Int.cast_ofNat_Int, decide_eq_true_eq, decide_eq_false_iff_not] at *
         first
           | (rw [decide_eq_true (p := 1 ≤ k.length) (by omega), Bool.true_and]; simp only [decide_eq_decide]; omega)
           | (rw [decide_eq_false (p := 1 ≤ k.length) (by omega), Bool.false_and]))
theorem k_kv_isKey : SpecOK Try.prog 60 (s_kv_isKey real us) := by
  refine pure_sound (x := x_kv_isKey real us) ⟨tt_ok, ok_kv_isKey, Go.Vc.ks_nil⟩ mixed Try.func60 rfl rfl (by kernel_rfl) ?_
  intro l c rs hg hc
  unfold g_kv_isKey at hg
  split at hg
  · cases hg; exact ⟨Nat.le_of_ble_eq_true rfl, an_kv_isKey real us _, [], c_kv_isKey _ hc⟩
  · cases hg

theorem r_kv_bytes : Ready Try.prog 65 := by unfold Ready; kernel_rfl
noncomputable def sp_kv_bytes (F : Fs) (U : Us) : Specs := []
theorem ok_kv_bytes : SpecsOK Try.prog (sp_kv_bytes real us) := sp_nil
noncomputable def an_kv_bytes (F : Fs) (U : Us) (l : List D) : Anns := [(3, ⟨Nat, fun j => j ≤ F.lenD l, fun j => F.subn (F.lenD l) j, fun j => ⟨[(3, .i (U.byP l j)), (6, .rb 3 (.ds (.t [.i, .s, .b]) l)), (7, .i (F.int (F.lenD l))), (8, .i (F.int j))], []⟩⟩)]
noncomputable def g_kv_bytes (F : Fs) (U : Us) : Law
  | [.rb 3 (.ds (.t [.i, .s, .b]) l)] => some (U.okV l, [.val (.i (U.by_ l))])
  | _ => none
noncomputable def s_kv_bytes (F : Fs) (U : Us) : Vc.Spec := pureSpec F false [.row (.kD (.t [.i, .s, .b]))] (g_kv_bytes F U)
noncomputable def x_kv_bytes (F : Fs) (U : Us) : Cx := ⟨Try.f65.ntmps, tt F, sp_kv_bytes F U, [], [], [], []⟩
theorem c_kv_bytes (l : List D) (hc : us.okV l) : vc real (x_kv_bytes real us) (an_kv_bytes real us l) [] (Try.f65.body.getD .skip) ⟨zipSl 0 [.rb 3 (.ds (.t [.i, .s, .b]) l)], [], 64⟩ (retOk real (tt real) false Try.f65.results.toList [.val (.i (us.by_ l))]) := by
  generalize hU : us = U
  generalize hF : real = F
  cbv
  repeat' first | apply And.intro | refine Classical.or_iff_not_imp_left.2 (fun _ => ?_) | exact trivial
  · refine ⟨(0 : Nat), ?_⟩
    cbv
    subst hF hU
    exact ⟨Nat.zero_le _, ⟨rfl, trivial⟩, trivial⟩
  · intro (j : Nat) hj
    replace hj : j ≤ F.lenD l := hj
    cbv
    repeat' first | apply And.intro | refine Classical.or_iff_not_imp_left.2 (fun _ => ?_) | exact trivial
    · subst hF hU; exact inF rfl (lt_g (by assumption))
    · refine ⟨(j + 1 : Nat), ?_⟩
      cbv
      subst hF hU
      have hlt : j < l.length := lt_g (by assumption)
      have h1 := hc.1
      exact ⟨hlt, sub_stepN hlt, ⟨by_addF hc hlt, addi1 (by omega), trivial⟩, trivial⟩
    · subst hF hU
      have hge : l.length ≤ j := ge_g (by assumption)
      have hj : j ≤ l.length := hj
      have e : j = l.length := by omega
      subst e
      exact byP_e l
theorem k_kv_bytes : SpecOK Try.prog 65 (s_kv_bytes real us) := by
  refine pure_sound (x := x_kv_bytes real us) ⟨tt_ok, ok_kv_bytes, Go.Vc.ks_nil⟩ mixed Try.func65 rfl rfl (by kernel_rfl) ?_
  intro l c rs hg hc
  unfold g_kv_bytes at hg
  split at hg
  · cases hg; exact ⟨Nat.le_of_ble_eq_true rfl, an_kv_bytes real us _, [], c_kv_bytes _ hc⟩
  · cases hg

end Go.Proofs.Ythjlhookepchgaa
set_option linter.unusedVariables false
set_option linter.unusedSimpArgs false
set_option maxRecDepth 100000
set_option maxHeartbeats 1000000
namespace Go.Proofs.Ythjlhookepchgaa
open Go Go.Vc
theorem find_mem : ∀ {l : List (Nat × D × D)} {k d : D}, MD.find l k = some d → ∃ b, (b, k, d) ∈ l
  | [], k, d, h => by simp [MD.find] at h
  | (b, k', d') :: l, k, d, h => by
    simp only [MD.find] at h
    split at h
    · rename_i e; cases h; subst e; exact ⟨b, by simp⟩
    · obtain ⟨b2, hb⟩ := find_mem h; exact ⟨b2, by simp [hb]⟩
theorem okK_vs {M : MD} (h : u_okK M) (key : List UInt8) : u_okV (u_vs M key) := by
  unfold u_vs MD.get
  cases hf : MD.find M.es (.s key) with
  | none => exact ⟨Nat.zero_le _, fun d hd => by simp [D.gt] at hd⟩
  | some d =>
    obtain ⟨b, hb⟩ := find_mem hf
    obtain ⟨k, l, h1, h2, h3, h4⟩ := h.2.2 _ hb
    have h3 : d = .t l := h3
    subst h3
    exact h4
theorem getLastD_eq {l : List D} (h : ¬ l.length = 0) : l.getLastD dv0 = l.getD (l.length - 1) D.no := by
  cases l with
  | nil => exact absurd rfl h
  | cons a l =>
    rw [List.getLastD_cons, List.getLastD_eq_getLast?, List.getLast?_eq_getElem?, List.getD_eq_getElem?_getD]
    cases l with
    | nil => rfl
    | cons b l => simp
theorem last_i {l : List D} (h : u_okV l) (h0 : ¬ l.length = 0) : real.nat (real.subi (real.int (real.lenD l)) (real.int 1)) = l.length - 1 := by
  have h1 := h.1
  show (IntKind.i64.wrap ((l.length : Int) - 1)).toNat = _
  rw [wrap_sm (by omega) (by omega)]; omega
theorem last_in {l : List D} (h : u_okV l) (h0 : ¬ l.length = 0) : real.pIn (real.subi (real.int (real.lenD l)) (real.int 1)) (real.lenD l) := by
  have h1 := h.1
  have e : real.subi (real.int (real.lenD l)) (real.int 1) = (l.length : Int) - 1 := by
    show IntKind.i64.wrap ((l.length : Int) - 1) = _
    rw [wrap_sm (by omega) (by omega)]
  rw [e]
  show (0 : Int) ≤ (l.length : Int) - 1 ∧ (l.length : Int) - 1 < (l.length : Int)
  omega
theorem last_at {M : MD} {key : List UInt8} (h : u_okK M) (h0 : ¬ (u_vs M key).length = 0) : real.getD (u_vs M key) (real.nat (real.subi (real.int (real.lenD (u_vs M key))) (real.int 1))) = u_last M key := by
  rw [last_i (okK_vs h key) h0]
  unfold u_last
  rw [getLastD_eq h0]; rfl
theorem len0 {l : List D} (h : real.eqi (real.int (real.lenD l)) (real.int 0) = true) : l = [] := by
  have h : ((l.length : Int) == 0) = true := h
  rw [beq_iff_eq] at h
  exact List.eq_nil_of_length_eq_zero (by omega)
theorem lenN {l : List D} (h : real.eqi (real.int (real.lenD l)) (real.int 0) = false) : ¬ l.length = 0 := by
  have h : ((l.length : Int) == 0) = false := h
  rw [beq_eq_false_iff_ne] at h
  omega
theorem last_0 {M : MD} {key : List UInt8} (h : u_vs M key = []) : u_lN M key = 0 ∧ u_lV M key = [] ∧ u_lG M key = false := by
  unfold u_lN u_lV u_lG u_last
  rw [h]
  exact ⟨rfl, rfl, rfl⟩
theorem r_kv_KV_last : Ready Try.prog 59 := by unfold Ready; kernel_rfl
noncomputable def sp_kv_KV_last (F : Fs) (U : Us) : Specs := []
theorem ok_kv_KV_last : SpecsOK Try.prog (sp_kv_KV_last real us) := sp_nil
noncomputable def g_kv_KV_last (F : Fs) (U : Us) : GLaw := fun l mm => match l, mm with
  | [.p 0 0 0, .s key], [.bk T0 [(n1, .vs [.mh 1])], .mp T2 .s (.sl (.t [.i, .s, .b])) M] => match Nat.beq T0 114, Nat.beq n1 1, Nat.beq T2 112 with
    | true, true, true => some ⟨U.okK M, [.ag 3 (.vs [.i (U.lN M key), .s (U.lV M key), .b (U.lG M key)])], [.bk 114 [(1, .vs [.mh 1])], .mp 112 .s (.sl (.t [.i, .s, .b])) M], []⟩
    | _, _, _ => none
  | _, _ => none
noncomputable def s_kv_KV_last (F : Fs) (U : Us) : Vc.Spec := gSpec 2 0 (g_kv_KV_last F U)
noncomputable def x_kv_KV_last (F : Fs) (U : Us) : Cx := ⟨Try.f59.ntmps, tt F, sp_kv_KV_last F U, [], [], [0, 1], []⟩
theorem c_kv_KV_last (key : List UInt8) (M : MD) (hc : us.okK M) : vc real (x_kv_KV_last real us) [] [] (Try.f59.body.getD .skip) ⟨zipSl 0 [.p 0 0 0, .s key], zipMe 0 [.bk 114 [(1, .vs [.mh 1])], .mp 112 .s (.sl (.t [.i, .s, .b])) M], 64⟩ (retGOk real (tt real) Try.f59.results.toList [.ag 3 (.vs [.i (us.lN M key), .s (us.lV M key), .b (us.lG M key)])] [.bk 114 [(1, .vs [.mh 1])], .mp 112 .s (.sl (.t [.i, .s, .b])) M] []) := by
  generalize hU : us = U
  generalize hF : real = F
  cbv
  repeat' first | apply And.intro | refine Classical.or_iff_not_imp_left.2 (fun _ => ?_) | exact trivial
  all_goals subst hF hU
  · have e := len0 (p_t (by assumption)); exact (last_0 e).1.symm
  · have e := len0 (p_t (by assumption)); exact (last_0 e).2.1.symm
  · have e := len0 (p_t (by assumption)); exact (last_0 e).2.2.symm
  · exact last_in (okK_vs hc key) (lenN (p_f (by assumption)))
  · exact congrArg (fun d => (D.fld d 0).gi) (last_at hc (lenN (p_f (by assumption))))
  · exact congrArg (fun d => (D.fld d 1).gs) (last_at hc (lenN (p_f (by assumption))))
  · exact congrArg (fun d => (D.fld d 2).gb) (last_at hc (lenN (p_f (by assumption))))
theorem k_kv_KV_last : SpecOK Try.prog 59 (s_kv_KV_last real us) := by
  refine g_sound (n := 2) (q := 0) (x := x_kv_KV_last real us) ⟨tt_ok, ok_kv_KV_last, Go.Vc.ks_nil⟩ mixed Try.func59 rfl rfl (by kernel_rfl) (by decide) (fun j hj => by simp [x_kv_KV_last]; omega) ?_
  intro l mm c rs ch news hg hl hc
  unfold g_kv_KV_last at hg
  split at hg
  · split at hg
    · rename_i h0 h1 h2
      have z0 := beq_nat h0
      have z1 := beq_nat h1
      have z2 := beq_nat h2
      subst z0
      subst z1
      subst z2
      cases hg
      exact ⟨Nat.le_of_ble_eq_true rfl, [], [], c_kv_KV_last _ _ hc⟩
    · cases hg
  · cases hg

theorem r_kv_KV_forgets : Ready Try.prog 61 := by unfold Ready; kernel_rfl
noncomputable def sp_kv_KV_forgets (F : Fs) (U : Us) : Specs := []
theorem ok_kv_KV_forgets : SpecsOK Try.prog (sp_kv_KV_forgets real us) := sp_nil
noncomputable def g_kv_KV_forgets (F : Fs) (U : Us) : GLaw := fun l mm => match l, mm with
  | [.p 0 0 0, .s key], [.bk T0 [(n1, .vs [.mh 1])], .mp T2 .s (.sl (.t [.i, .s, .b])) M] => match Nat.beq T0 114, Nat.beq n1 1, Nat.beq T2 112 with
    | true, true, true => some ⟨U.okK M, [.i (F.int (U.fg M key))], [.bk 114 [(1, .vs [.mh 1])], .mp 112 .s (.sl (.t [.i, .s, .b])) M], []⟩
    | _, _, _ => none
  | _, _ => none
noncomputable def s_kv_KV_forgets (F : Fs) (U : Us) : Vc.Spec := gSpec 2 0 (g_kv_KV_forgets F U)
noncomputable def x_kv_KV_forgets (F : Fs) (U : Us) : Cx := ⟨Try.f61.ntmps, tt F, sp_kv_KV_forgets F U, [], [], [0, 1], []⟩
theorem c_kv_KV_forgets (key : List UInt8) (M : MD) (hc : us.okK M) : vc real (x_kv_KV_forgets real us) [] [] (Try.f61.body.getD .skip) ⟨zipSl 0 [.p 0 0 0, .s key], zipMe 0 [.bk 114 [(1, .vs [.mh 1])], .mp 112 .s (.sl (.t [.i, .s, .b])) M], 64⟩ (retGOk real (tt real) Try.f61.results.toList [.i (real.int (us.fg M key))] [.bk 114 [(1, .vs [.mh 1])], .mp 112 .s (.sl (.t [.i, .s, .b])) M] []) := by
  generalize hU : us = U
  generalize hF : real = F
  cbv
  repeat' first | apply And.intro | refine Classical.or_iff_not_imp_left.2 (fun _ => ?_) | exact trivial
  subst hF hU
  have h1 := (okK_vs hc key).1
  show (if (0 : Int) > IntKind.i64.wrap (IntKind.i64.wrap (((u_vs M key).length : Int) - 3) + 1) then (0 : Int) else IntKind.i64.wrap (IntKind.i64.wrap (((u_vs M key).length : Int) - 3) + 1)) = (((u_vs M key).length - 2 : Nat) : Int)
  rw [wrap_sm (a := ((u_vs M key).length : Int) - 3) (by omega) (by omega), wrap_sm (by omega) (by omega)]
  split <;> omega
theorem k_kv_KV_forgets : SpecOK Try.prog 61 (s_kv_KV_forgets real us) := by
  refine g_sound (n := 2) (q := 0) (x := x_kv_KV_forgets real us) ⟨tt_ok, ok_kv_KV_forgets, Go.Vc.ks_nil⟩ mixed Try.func61 rfl rfl (by kernel_rfl) (by decide) (fun j hj => by simp [x_kv_KV_forgets]; omega) ?_
  intro l mm c rs ch news hg hl hc
  unfold g_kv_KV_forgets at hg
  split at hg
  · split at hg
    · rename_i h0 h1 h2
      have z0 := beq_nat h0
      have z1 := beq_nat h1
      have z2 := beq_nat h2
      subst z0
      subst z1
      subst z2
      cases hg
      exact ⟨Nat.le_of_ble_eq_true rfl, [], [], c_kv_KV_forgets _ _ hc⟩
    · cases hg
  · cases hg

theorem r_slices_Clone : Ready Try.prog 64 := by unfold Ready; kernel_rfl
noncomputable def sp_slices_Clone (F : Fs) (U : Us) : Specs := []
theorem ok_slices_Clone : SpecsOK Try.prog (sp_slices_Clone real us) := sp_nil
noncomputable def g_slices_Clone (F : Fs) (U : Us) : GLaw := fun l mm => match l, mm with
  | [.rb 3 (.ds (.t [.i, .s, .b]) l)], [] => some ⟨F.pLe (F.lenD l) 1000, [.rw 0], [], [.row 49 3 (.ds (.t [.i, .s, .b]) l)]⟩
  | _, _ => none
noncomputable def s_slices_Clone (F : Fs) (U : Us) : Vc.Spec := gSpec 0 1 (g_slices_Clone F U)
noncomputable def x_slices_Clone (F : Fs) (U : Us) : Cx := ⟨Try.f64.ntmps, tt F, sp_slices_Clone F U, [], [], [], []⟩
theorem c_slices_Clone (l : List D) (hc : real.pLe (real.lenD l) 1000) : vc real (x_slices_Clone real us) [] [] (Try.f64.body.getD .skip) ⟨zipSl 0 [.rb 3 (.ds (.t [.i, .s, .b]) l)], zipMe 0 [], 64⟩ (retGOk real (tt real) Try.f64.results.toList [.rw 0] [] [.row 49 3 (.ds (.t [.i, .s, .b]) l)]) := by
  generalize hU : us = U
  generalize hF : real = F
  cbv
  intro (z : Bool) hz
  cbv
  repeat' first | apply And.intro | refine Classical.or_iff_not_imp_left.2 (fun _ => ?_) | exact trivial
  all_goals subst hF hU
  · exact hz (p_t (by assumption))
  · have hc : l.length ≤ 1000 := hc
    show (0 + l.length) * 32 ≤ 140737488355328 ∧ 0 + l.length ≤ 4611686018427387904
    omega
  · rfl
theorem k_slices_Clone : SpecOK Try.prog 64 (s_slices_Clone real us) := by
  refine g_sound (n := 0) (q := 1) (x := x_slices_Clone real us) ⟨tt_ok, ok_slices_Clone, Go.Vc.ks_nil⟩ mixed Try.func64 rfl rfl (by kernel_rfl) (by decide) (fun j hj => by omega) ?_
  intro l mm c rs ch news hg hl hc
  unfold g_slices_Clone at hg
  split at hg
  · cases hg
    exact ⟨Nat.le_of_ble_eq_true rfl, [], [], c_slices_Clone _ hc⟩
  · cases hg

theorem r_kv_KV_Versions : Ready Try.prog 30 := by unfold Ready; kernel_rfl
noncomputable def sp_kv_KV_Versions (F : Fs) (U : Us) : Specs := [(64, s_slices_Clone F U)]
theorem ok_kv_KV_Versions : SpecsOK Try.prog (sp_kv_KV_Versions real us) := sp_cons r_slices_Clone k_slices_Clone sp_nil
noncomputable def g_kv_KV_Versions (F : Fs) (U : Us) : GLaw := fun l mm => match l, mm with
  | [.p 0 0 0, .s key], [.bk T0 [(n1, .vs [.mh 1])], .mp T2 .s (.sl (.t [.i, .s, .b])) M] => match Nat.beq T0 114, Nat.beq n1 1, Nat.beq T2 112 with
    | true, true, true => some ⟨U.okK M, [.rw 2], [.bk 114 [(1, .vs [.mh 1])], .mp 112 .s (.sl (.t [.i, .s, .b])) M], [.row 49 3 (.ds (.t [.i, .s, .b]) (U.vs M key))]⟩
    | _, _, _ => none
  | _, _ => none
noncomputable def s_kv_KV_Versions (F : Fs) (U : Us) : Vc.Spec := gSpec 2 1 (g_kv_KV_Versions F U)
noncomputable def x_kv_KV_Versions (F : Fs) (U : Us) : Cx := ⟨Try.f30.ntmps, tt F, sp_kv_KV_Versions F U, [], [], [0, 1], []⟩
theorem c_kv_KV_Versions (key : List UInt8) (M : MD) (hc : us.okK M) : vc real (x_kv_KV_Versions real us) [] [] (Try.f30.body.getD .skip) ⟨zipSl 0 [.p 0 0 0, .s key], zipMe 0 [.bk 114 [(1, .vs [.mh 1])], .mp 112 .s (.sl (.t [.i, .s, .b])) M], 64⟩ (retGOk real (tt real) Try.f30.results.toList [.rw 2] [.bk 114 [(1, .vs [.mh 1])], .mp 112 .s (.sl (.t [.i, .s, .b])) M] [.row 49 3 (.ds (.t [.i, .s, .b]) (us.vs M key))]) := by
  generalize hU : us = U
  generalize hF : real = F
  cbv
  repeat' first | apply And.intro | refine Classical.or_iff_not_imp_left.2 (fun _ => ?_) | exact trivial
  all_goals subst hF hU
  · have h1 := (okK_vs hc key).1
    show (u_vs M key).length ≤ 1000
    omega
  · rfl
theorem k_kv_KV_Versions : SpecOK Try.prog 30 (s_kv_KV_Versions real us) := by
  refine g_sound (n := 2) (q := 1) (x := x_kv_KV_Versions real us) ⟨tt_ok, ok_kv_KV_Versions, Go.Vc.ks_nil⟩ mixed Try.func30 rfl rfl (by kernel_rfl) (by decide) (fun j hj => by simp [x_kv_KV_Versions]; omega) ?_
  intro l mm c rs ch news hg hl hc
  unfold g_kv_KV_Versions at hg
  split at hg
  · split at hg
    · rename_i h0 h1 h2
      have z0 := beq_nat h0
      have z1 := beq_nat h1
      have z2 := beq_nat h2
      subst z0
      subst z1
      subst z2
      cases hg
      exact ⟨Nat.le_of_ble_eq_true rfl, [], [], c_kv_KV_Versions _ _ hc⟩
    · cases hg
  · cases hg

noncomputable def sp_law22_versions (F : Fs) (U : Us) : Specs := []
noncomputable def an_law22_versions (F : Fs) (U : Us) (a b : List D) : Anns := [(4, ⟨Nat, fun j => U.eqP a b j, fun j => F.subn (F.lenD a) j, fun j => ⟨[(0, .rb 3 (.ds (.t [.i, .s, .b]) a)), (1, .rb 3 (.ds (.t [.i, .s, .b]) b)), (5, .i (F.int j))], []⟩⟩)]
noncomputable def g_law22_versions (F : Fs) (U : Us) : Law
  | [.rb 3 (.ds (.t [.i, .s, .b]) a), .rb 3 (.ds (.t [.i, .s, .b]) b)] => some (F.pLe (F.lenD a) 1000000, [.val (.b (U.eqV a b))])
  | _ => none
noncomputable def s_law22_versions (F : Fs) (U : Us) : Vc.Spec := pureSpec F false [.row (.kD (.t [.i, .s, .b])), .row (.kD (.t [.i, .s, .b]))] (g_law22_versions F U)
noncomputable def x_law22_versions (F : Fs) (U : Us) : Cx := ⟨Try.f32.ntmps, tt F, sp_law22_versions F U, [], [(6, ([(6, [2, 3]), (7, [2, 3])], []))], [], []⟩
end Go.Proofs.Ythjlhookepchgaa
set_option linter.unusedVariables false
set_option linter.unusedSimpArgs false
set_option maxRecDepth 100000
set_option maxHeartbeats 2000000
namespace Go.Proofs.Ythjlhookepchgaa
open Go Go.Vc
noncomputable def s_kv_KV_last_ro (F : Fs) (U : Us) : Vc.Spec := roSpec (s_kv_KV_last F U)
theorem r_kv_KV_last_ro : Ready Try.prog 59 := r_kv_KV_last
theorem k_kv_KV_last_ro : SpecOK Try.prog 59 (s_kv_KV_last_ro real us) := ro_ok k_kv_KV_last
noncomputable def s_kv_KV_forgets_ro (F : Fs) (U : Us) : Vc.Spec := roSpec (s_kv_KV_forgets F U)
theorem r_kv_KV_forgets_ro : Ready Try.prog 61 := r_kv_KV_forgets
theorem k_kv_KV_forgets_ro : SpecOK Try.prog 61 (s_kv_KV_forgets_ro real us) := ro_ok k_kv_KV_forgets
/-- laid anew, and copied -/
theorem copyD (X : List D) (z : D) : real.splD (real.repD (real.nat (real.int (real.lenD X))) z) 0 (real.cutD X 0 (real.minn (real.lenD X) (real.lenD (real.repD (real.nat (real.int (real.lenD X))) z)))) = X := by
  show (List.replicate X.length z).take 0 ++ (X.drop 0).take (min X.length (List.replicate X.length z).length) ++ (List.replicate X.length z).drop (0 + ((X.drop 0).take (min X.length (List.replicate X.length z).length)).length) = X
  rw [List.length_replicate, Nat.min_self, List.drop_zero, List.take_length, List.drop_of_length_le (by rw [List.length_replicate]; omega)]
  simp
theorem cut_drop (l : List D) (f : Nat) : real.cutD l (real.nat (real.int f)) (real.subn (real.lenD l) (real.nat (real.int f))) = l.drop f := by
  show (l.drop f).take (l.length - f) = l.drop f
  rw [List.take_of_length_le (by rw [List.length_drop]; omega)]
theorem wr_no {M : MD} {key val : List UInt8} {cas : Int} (h : ¬ u_wrE M key cas val = 0) : real.int 0 = us.wrN M key cas val ∧ M = us.wrM M key cas val := by
  constructor
  · show (0 : Int) = u_wrN M key cas val
    unfold u_wrN; rw [if_neg h]
  · show M = u_wrM M key cas val
    unfold u_wrM; rw [if_neg h]
theorem okD_N {d : D} (h : okD d) : 0 ≤ (d.fld 0).gi ∧ (d.fld 0).gi ≤ 1000000000 := by
  obtain ⟨n, v, g, rfl, h1, h2, h3⟩ := h; exact ⟨h1, h2⟩
theorem okD_0 : okD dv0 := ⟨0, [], false, rfl, by decide, by decide, by decide⟩
theorem last_ok {M : MD} (h : u_okK M) (key : List UInt8) : okD (u_last M key) := by
  unfold u_last
  have h1 := (okK_vs h key).2
  by_cases h0 : (u_vs M key).length = 0
  · rw [List.eq_nil_of_length_eq_zero h0]; exact okD_0
  · rw [getLastD_eq h0, List.getD_eq_getElem?_getD, List.getElem?_eq_getElem (by omega)]
    exact h1 _ (List.getElem_mem _)
theorem lN_r {M : MD} (h : u_okK M) (key : List UInt8) : 0 ≤ u_lN M key ∧ u_lN M key ≤ 1000000000 := okD_N (last_ok h key)
theorem wr_N {M : MD} {key val : List UInt8} {cas : Int} (h : u_okK M) (e : u_wrE M key cas val = 0) : real.addi (us.lN M key) (real.int 1) = us.wrN M key cas val := by
  have h1 := lN_r h key
  show IntKind.i64.wrap (u_lN M key + 1) = u_wrN M key cas val
  unfold u_wrN
  rw [if_pos e, wrap_sm (by omega) (by omega)]
theorem wr_M {M : MD} {key val : List UInt8} {cas : Int} (h : u_okK M) (e : u_wrE M key cas val = 0) {X : List D} {a : Int} (hX : X = (u_vs M key).drop (u_fg M key)) (ha : a = u_lN M key + 1) : real.mset M (.s key) (.t (real.appD X [.t [.i a, .s val, .b false]])) = us.wrM M key cas val := by
  subst hX ha
  show M.set (.s key) (.t ((u_vs M key).drop (u_fg M key) ++ [dv (u_lN M key + 1) val false])) = u_wrM M key cas val
  unfold u_wrM
  rw [if_pos e]
theorem add1_N {M : MD} {key : List UInt8} (h : u_okK M) : real.addi (us.lN M key) (real.int 1) = u_lN M key + 1 := by
  have h1 := lN_r h key
  show IntKind.i64.wrap (u_lN M key + 1) = _
  rw [wrap_sm (by omega) (by omega)]
theorem wr_p1 {X Z : List D} (e : X = Z) (h : Z.length ≤ 100) : real.pLeI (real.int (real.lenD X)) (real.addi (real.int (real.lenD X)) (real.int 1)) := by
  subst e
  rw [addi1 (i := real.lenD X) (by show X.length ≤ _; omega)]
  show ((X.length : Nat) : Int) ≤ ((X.length + 1 : Nat) : Int)
  omega
theorem wr_p2 {X Z : List D} (e : X = Z) (h : Z.length ≤ 100) : real.pMk (real.addi (real.int (real.lenD X)) (real.int 1)) 32 := by
  subst e
  rw [addi1 (i := real.lenD X) (by show X.length ≤ _; omega)]
  show (0 : Int) ≤ ((X.length + 1 : Nat) : Int) ∧ ((X.length + 1 : Nat) : Int) * ((32 : Nat) : Int) ≤ 281474976710656 ∧ ((X.length + 1 : Nat) : Int) ≤ 4611686018427387904
  omega
theorem wr_p3 {X Z : List D} {d : D} (e : X = Z) (h : Z.length ≤ 100) : real.pCap (real.addn (real.lenD X) (real.lenD [d])) 32 := by
  subst e
  show (X.length + 1) * 32 ≤ 140737488355328 ∧ X.length + 1 ≤ 4611686018427387904
  omega
theorem r_kv_KV_Write : Ready Try.prog 24 := by unfold Ready; kernel_rfl
noncomputable def sp_kv_KV_Write (F : Fs) (U : Us) : Specs := [(59, s_kv_KV_last F U), (60, s_kv_isKey F U), (61, s_kv_KV_forgets_ro F U)]
theorem ok_kv_KV_Write : SpecsOK Try.prog (sp_kv_KV_Write real us) := sp_cons r_kv_KV_last k_kv_KV_last (sp_cons r_kv_isKey k_kv_isKey (sp_cons r_kv_KV_forgets_ro k_kv_KV_forgets_ro sp_nil))
noncomputable def g_kv_KV_Write (F : Fs) (U : Us) : GLaw := fun l mm => match l, mm with
  | [.p 0 0 0, .s key, .i cas, .s val], [.bk T0 [(n1, .vs [.mh 1])], .mp T2 .s (.sl (.t [.i, .s, .b])) M] => match Nat.beq T0 114, Nat.beq n1 1, Nat.beq T2 112 with
    | true, true, true => some ⟨U.okK M ∧ F.pLe (F.lenB key) 1000, [.i (U.wrN M key cas val), .i (U.wrE M key cas val)], [.bk 114 [(1, .vs [.mh 1])], .mp 112 .s (.sl (.t [.i, .s, .b])) (U.wrM M key cas val)], []⟩
    | _, _, _ => none
  | _, _ => none
noncomputable def s_kv_KV_Write (F : Fs) (U : Us) : Vc.Spec := gSpec 2 0 (g_kv_KV_Write F U)
noncomputable def x_kv_KV_Write (F : Fs) (U : Us) : Cx := ⟨Try.f24.ntmps, tt F, sp_kv_KV_Write F U, [], [(10, ([(8, [3, 5])], [])), (13, ([(3, [5400, 5432, 5448, 5480]), (7, [3]), (11, [3]), (12, [3])], [(12, [5400, 5432, 5448, 5480])]))], [0, 1], []⟩
theorem c_kv_KV_Write (key : List UInt8) (cas : Int) (val : List UInt8) (M : MD) (hc : us.okK M ∧ real.pLe (real.lenB key) 1000) : vc real (x_kv_KV_Write real us) [] [] (Try.f24.body.getD .skip) ⟨zipSl 0 [.p 0 0 0, .s key, .i cas, .s val], zipMe 0 [.bk 114 [(1, .vs [.mh 1])], .mp 112 .s (.sl (.t [.i, .s, .b])) M], 64⟩ (retGOk real (tt real) Try.f24.results.toList [.i (us.wrN M key cas val), .i (us.wrE M key cas val)] [.bk 114 [(1, .vs [.mh 1])], .mp 112 .s (.sl (.t [.i, .s, .b])) (us.wrM M key cas val)] []) := by
  generalize hU : us = U
  generalize hF : real = F
  obtain ⟨hc, hk⟩ := hc
  have hk : key.length ≤ 1000 := hk
  have hv := (okK_vs hc key).1
  have hf : u_fg M key ≤ (u_vs M key).length := Nat.sub_le _ _
  have hd : ((u_vs M key).drop (u_fg M key)).length ≤ 100 := by rw [List.length_drop]; omega
  have hX := cut_drop (u_vs M key) (u_fg M key)
  cbv
  repeat' first | apply And.intro | refine Classical.or_iff_not_imp_left.2 (fun _ => ?_) | exact trivial
  all_goals subst hF hU
  all_goals first
    | exact hc
    | exact Nat.le_trans hk (by decide)
    | exact Int.natCast_nonneg _
    | exact hf
    | (have key0 : u_wrE M key cas val = 12 := by ((try simp only [real, us, Nat.le_eq, Int.cast_ofNat_Int, decide_eq_false_iff_not, decide_eq_true_eq, Bool.not_eq_true, Bool.not_eq_false, Bool.not_eq_true', Bool.not_eq_false'] at *); unfold u_wrE; (repeat' split) <;> first | rfl | omega | (exfalso; simp_all; done) | (exfalso; simp_all; omega))
       first | exact key0.symm | exact (wr_no (by rw [key0]; decide)).1 | exact (wr_no (by rw [key0]; decide)).2)
    | (have key0 : u_wrE M key cas val = 11 := by ((try simp only [real, us, Nat.le_eq, Int.cast_ofNat_Int, decide_eq_false_iff_not, decide_eq_true_eq, Bool.not_eq_true, Bool.not_eq_false, Bool.not_eq_true', Bool.not_eq_false'] at *); unfold u_wrE; (repeat' split) <;> first | rfl | omega | (exfalso; simp_all; done) | (exfalso; simp_all; omega))
       first | exact key0.symm | exact (wr_no (by rw [key0]; decide)).1 | exact (wr_no (by rw [key0]; decide)).2)
    | (have key0 : u_wrE M key cas val = 220 := by ((try simp only [real, us, Nat.le_eq, Int.cast_ofNat_Int, decide_eq_false_iff_not, decide_eq_true_eq, Bool.not_eq_true, Bool.not_eq_false, Bool.not_eq_true', Bool.not_eq_false'] at *); unfold u_wrE; (repeat' split) <;> first | rfl | omega | (exfalso; simp_all; done) | (exfalso; simp_all; omega))
       first | exact key0.symm | exact (wr_no (by rw [key0]; decide)).1 | exact (wr_no (by rw [key0]; decide)).2)
    | (have key0 : u_wrE M key cas val = 102 := by ((try simp only [real, us, Nat.le_eq, Int.cast_ofNat_Int, decide_eq_false_iff_not, decide_eq_true_eq, Bool.not_eq_true, Bool.not_eq_false, Bool.not_eq_true', Bool.not_eq_false'] at *); unfold u_wrE; (repeat' split) <;> first | rfl | omega | (exfalso; simp_all; done) | (exfalso; simp_all; omega))
       first | exact key0.symm | exact (wr_no (by rw [key0]; decide)).1 | exact (wr_no (by rw [key0]; decide)).2)
    | (have key0 : u_wrE M key cas val = 0 := by ((try simp only [real, us, Nat.le_eq, Int.cast_ofNat_Int, decide_eq_false_iff_not, decide_eq_true_eq, Bool.not_eq_true, Bool.not_eq_false, Bool.not_eq_true', Bool.not_eq_false'] at *); unfold u_wrE; (repeat' split) <;> first | rfl | omega | (exfalso; simp_all; done) | (exfalso; simp_all; omega))
       first
         | exact key0.symm
         | exact wr_N hc key0
         | exact wr_M hc key0 ((copyD _ _).trans hX) (add1_N hc))
    | exact wr_p1 hX hd
    | exact wr_p2 hX hd
    | exact wr_p3 (d := dv0) ((copyD _ _).trans hX) hd
theorem k_kv_KV_Write : SpecOK Try.prog 24 (s_kv_KV_Write real us) := by
  refine g_sound (n := 2) (q := 0) (x := x_kv_KV_Write real us) ⟨tt_ok, ok_kv_KV_Write, Go.Vc.ks_nil⟩ mixed Try.func24 rfl rfl (by kernel_rfl) (by decide) (fun j hj => by simp [x_kv_KV_Write]; omega) ?_
  intro l mm c rs ch news hg hl hc
  unfold g_kv_KV_Write at hg
  split at hg
  · split at hg
    · rename_i h0 h1 h2
      have z0 := beq_nat h0
      have z1 := beq_nat h1
      have z2 := beq_nat h2
      subst z0
      subst z1
      subst z2
      cases hg
      exact ⟨Nat.le_of_ble_eq_true rfl, [], [], c_kv_KV_Write _ _ _ _ hc⟩
    · cases hg
  · cases hg

end Go.Proofs.Ythjlhookepchgaa
set_option linter.unusedVariables false
set_option linter.unusedSimpArgs false
set_option maxRecDepth 100000
set_option maxHeartbeats 2000000
namespace Go.Proofs.Ythjlhookepchgaa
open Go Go.Vc
theorem atB_of_mem : ∀ {l : List (Nat × D × D)} {b : Nat} {k d : D}, (l.map (·.1)).Nodup → (b, k, d) ∈ l → MD.atB l b = some (k, d)
  | [], b, k, d, h, hm => by simp at hm
  | (b', k', d') :: l, b, k, d, h, hm => by
    rw [List.map_cons, List.nodup_cons] at h
    simp only [MD.atB]
    rw [List.mem_cons] at hm
    rcases hm with hm | hm
    · cases hm; rw [if_pos rfl]
    · rw [if_neg (fun e => h.1 (List.mem_map.2 ⟨_, hm, e.symm⟩)), atB_of_mem h.2 hm]
theorem nodup_sub : ∀ (l m : List Nat), l.Nodup → (∀ x ∈ l, x ∈ m) → l.length ≤ m.length
  | [], m, _, _ => by simp
  | a :: l, m, h, hs => by
    rw [List.nodup_cons] at h
    have h1 : a ∈ m := hs a (List.mem_cons_self ..)
    have h2 := nodup_sub l (m.erase a) h.2 fun x hx => by
      have hxa : x ≠ a := fun e => h.1 (e ▸ hx)
      exact (List.mem_erase_of_ne hxa).2 (hs x (List.mem_cons_of_mem _ hx))
    rw [List.length_erase_of_mem h1] at h2
    have h3 := List.length_pos_of_mem h1
    simp only [List.length_cons]
    omega
theorem seen_0 (M : MD) : u_seenOk M [] := ⟨List.nodup_nil, fun b hb => by simp at hb⟩
theorem left_step {M : MD} {l : List Nat} {b : Nat} (hl : u_seenOk M l) (hb : M.left l b) : u_seenOk M (l ++ [b]) ∧ u_left M (l ++ [b]) < u_left M l := by
  have h1 : (l ++ [b]).Nodup := by
    rw [List.nodup_append]
    exact ⟨hl.1, by simp, fun x hx y hy => by simp at hy; subst hy; intro e; subst e; exact hb.2 hx⟩
  have h2 : ∀ x ∈ l ++ [b], x ∈ M.es.map (·.1) := by
    intro x hx
    simp only [List.mem_append, List.mem_singleton] at hx
    rcases hx with hx | rfl
    · exact hl.2 x hx
    · exact hb.1
  have h3 := nodup_sub _ _ h1 h2
  simp only [List.length_append, List.length_singleton, List.length_map] at h3
  refine ⟨⟨h1, h2⟩, ?_⟩
  unfold u_left
  simp only [List.length_append, List.length_singleton]
  omega
theorem rng_ent {M : MD} {c : Nat} {l : List Nat} {b : Nat} (hc : M.clock = c) (hb : M.left l b) : real.pEnt M c (real.appN l b) c := by
  refine ⟨hc, rfl, by simp [real], ?_⟩
  have e : (real.appN l b).getLastD 0 = b := by show (l ++ [b]).getLastD 0 = b; simp
  rw [e]; exact hb.1
theorem back_app (l : List Nat) (b : Nat) : real.backN (real.appN l b) = b := by show (l ++ [b]).getLastD 0 = b; simp
theorem okV_take {l : List D} (h : u_okV l) (f : Nat) : u_okV (real.cutD l 0 f) := by
  show u_okV ((l.drop 0).take f)
  rw [List.drop_zero]
  exact ⟨by rw [List.length_take]; have := h.1; omega, fun d hd => h.2 d (List.mem_of_mem_take hd)⟩
theorem by_le {l : List D} (h : u_okV l) : 0 ≤ u_by l ∧ u_by l ≤ 100000 := by
  have := byP_le h l.length
  rw [byP_e] at this; exact this
theorem by_take (M : MD) (key : List UInt8) : us.by_ (real.cutD (u_vs M key) 0 (real.nat (real.int (us.fg M key)))) = u_by ((u_vs M key).take (u_fg M key)) := by
  show u_by (((u_vs M key).drop 0).take (u_fg M key)) = _
  rw [List.drop_zero]
theorem co_b {M : MD} (h : u_okK M) (key : List UInt8) : 0 ≤ u_by ((u_vs M key).take (u_fg M key)) ∧ u_by ((u_vs M key).take (u_fg M key)) ≤ 100000 := by
  have := by_le (okV_take (okK_vs h key) (u_fg M key))
  rw [show real.cutD (u_vs M key) 0 (u_fg M key) = (u_vs M key).take (u_fg M key) by show ((u_vs M key).drop 0).take _ = _; rw [List.drop_zero]] at this
  exact this
theorem co_1 {M : MD} {key val : List UInt8} (h : u_okK M) (hk : key.length ≤ 1000) (hv : val.length ≤ 1000) (hh : M.has (.s key) = false) : real.addi (real.subi (real.int (real.lenB val)) (us.by_ (real.cutD (u_vs M key) 0 (real.nat (real.int (us.fg M key)))))) (real.int (real.lenB key)) = us.coN M key val := by
  rw [by_take]
  have h1 := co_b h key
  show IntKind.i64.wrap (IntKind.i64.wrap ((val.length : Int) - u_by ((u_vs M key).take (u_fg M key))) + (key.length : Int)) = u_coN M key val
  unfold u_coN u_has
  rw [hh, wrap_sm (a := (val.length : Int) - _) (by omega) (by omega), wrap_sm (by omega) (by omega)]
  rfl
theorem co_2 {M : MD} {key : List UInt8} (hh : M.has (.s key) = false) : real.int 1 = us.coE M key := by
  show (1 : Int) = u_coE M key
  unfold u_coE u_has
  rw [hh]; rfl
theorem co_3 {M : MD} {key val : List UInt8} (h : u_okK M) (hv : val.length ≤ 1000) (hh : M.has (.s key) = true) : real.subi (real.int (real.lenB val)) (us.by_ (real.cutD (u_vs M key) 0 (real.nat (real.int (us.fg M key))))) = us.coN M key val := by
  rw [by_take]
  have h1 := co_b h key
  show IntKind.i64.wrap ((val.length : Int) - u_by ((u_vs M key).take (u_fg M key))) = u_coN M key val
  unfold u_coN u_has
  rw [hh, wrap_sm (a := (val.length : Int) - _) (by omega) (by omega)]
  simp
theorem co_4 {M : MD} {key : List UInt8} (hh : M.has (.s key) = true) : real.int 0 = us.coE M key := by
  show (0 : Int) = u_coE M key
  unfold u_coE u_has
  rw [hh]; rfl
theorem dl_no {M : MD} {key : List UInt8} (h : ¬ u_dlE M key = 0) : real.int 0 = us.dlN M key ∧ M = us.dlM M key := by
  constructor
  · show (0 : Int) = u_dlN M key
    unfold u_dlN; rw [if_neg h]
  · show M = u_dlM M key
    unfold u_dlM; rw [if_neg h]
theorem dl_yes {M : MD} {key : List UInt8} (h : u_dlE M key = 0) : us.lN M key = us.dlN M key ∧ True := by
  refine ⟨?_, trivial⟩
  show u_lN M key = u_dlN M key
  unfold u_dlN; rw [if_pos h]
theorem lN_len {M : MD} {key : List UInt8} (h : ¬ u_lN M key = 0) : ¬ (u_vs M key).length = 0 := fun e => h (last_0 (List.eq_nil_of_length_eq_zero e)).1
theorem e_f {a : Int} (h : ¬ real.pB (real.eqi a (real.int 0)) true) : ¬ a = 0 := by
  intro e; subst e; exact h rfl
theorem last_lt {l : List D} (h : u_okV l) (h0 : ¬ l.length = 0) : real.pLt (real.nat (real.subi (real.int (real.lenD l)) (real.int 1))) (real.lenD l) := by
  rw [last_i h h0]
  show l.length - 1 < l.length
  omega
theorem dl_M {M : MD} {key : List UInt8} (h : u_okK M) (e : u_dlE M key = 0) : real.mset M (.s key) (.t (real.setD (u_vs M key) (real.nat (real.subi (real.int (real.lenD (u_vs M key))) (real.int 1))) (.t [.i (us.lN M key), .s [], .b true]))) = us.dlM M key := by
  have h0 : ¬ u_lN M key = 0 := fun e2 => by
    unfold u_dlE at e
    rw [if_pos (.inl e2)] at e; cases e
  rw [last_i (okK_vs h key) (lN_len h0)]
  show M.set (.s key) (.t ((u_vs M key).set ((u_vs M key).length - 1) (dv (u_lN M key) [] true))) = u_dlM M key
  unfold u_dlM
  rw [if_pos e]
/-! ## What there is -/
theorem szP_s (M : MD) (l : List Nat) (b : Nat) : u_szP M (l ++ [b]) = u_szP M l + (((M.keyB b).gs.length + ((M.valB b).gt.map fun d => (d.fld 1).gs.length).sum : Nat) : Int) := by
  unfold u_szP
  rw [List.map_append, List.sum_append]
  simp
theorem sz_ent {M : MD} (h : u_okK M) {l : List Nat} {b : Nat} (hb : M.left l b) : ∃ (k : List UInt8) (v : List D), M.keyB b = .s k ∧ M.valB b = .t v ∧ k.length ≤ 1000 ∧ u_okV v := by
  obtain ⟨e, he, rfl⟩ := List.mem_map.1 hb.1
  obtain ⟨b, kd, d⟩ := e
  obtain ⟨k, v, h1, h2, h3, h4⟩ := h.2.2 _ he
  have h1 : kd = .s k := h1
  have h3 : d = .t v := h3
  subst h1 h3
  have q := atB_of_mem h.1.2.1 he
  refine ⟨k, v, ?_, ?_, h2, h4⟩
  · unfold MD.keyB; rw [q]; rfl
  · unfold MD.valB; rw [q]; rfl
theorem sz_okV {M : MD} (h : u_okK M) {l : List Nat} {b : Nat} (hb : M.left l b) : us.okV (real.dT (real.mvalB M (real.backN (real.appN l b)))) := by
  rw [back_app]
  obtain ⟨k, v, h1, h2, h3, h4⟩ := sz_ent h hb
  show u_okV (M.valB b).gt
  rw [h2]; exact h4
theorem szP_le {M : MD} (h : u_okK M) : ∀ {l : List Nat}, (∀ b ∈ l, b ∈ M.es.map (·.1)) → 0 ≤ u_szP M l ∧ u_szP M l ≤ 101000 * (l.length : Int)
  | [], _ => by unfold u_szP; simp
  | b :: l, hb => by
    have ih := szP_le h (l := l) fun c hc => hb c (List.mem_cons_of_mem _ hc)
    have e : u_szP M (b :: l) = u_szP M l + (((M.keyB b).gs.length + ((M.valB b).gt.map fun d => (d.fld 1).gs.length).sum : Nat) : Int) := by
      unfold u_szP
      rw [List.map_cons, List.sum_cons]; omega
    obtain ⟨k, v, h1, h2, h3, h4⟩ := sz_ent h (l := []) (b := b) ⟨hb b (List.mem_cons_self ..), by simp⟩
    have h5 := by_le h4
    unfold u_by at h5
    rw [e, h1, h2]
    show 0 ≤ u_szP M l + ((k.length + (v.map fun d => (d.fld 1).gs.length).sum : Nat) : Int) ∧ _ ≤ _
    have e2 : u_szP M l + ((k.length + (v.map fun d => (d.fld 1).gs.length).sum : Nat) : Int) ≤ 101000 * ((l.length + 1 : Nat) : Int) := by omega
    exact ⟨by omega, e2⟩
theorem sz_step {M : MD} (h : u_okK M) (hm : M.es.length ≤ 1000) {l : List Nat} {b : Nat} (hl : u_seenOk M l) (hb : M.left l b) : real.addi (us.szP M l) (real.addi (real.int (real.lenB (real.dS (real.mkeyB M (real.backN (real.appN l b)))))) (us.by_ (real.dT (real.mvalB M (real.backN (real.appN l b)))))) = us.szP M (real.appN l b) := by
  rw [back_app]
  obtain ⟨k, v, h1, h2, h3, h4⟩ := sz_ent h hb
  have h5 := by_le h4
  have h6 := szP_le h hl.2
  have h7 := nodup_sub _ _ hl.1 hl.2
  rw [List.length_map] at h7
  have e := szP_s M l b
  rw [h1, h2] at e
  have e1 : real.dS (real.mkeyB M b) = k := by show (M.keyB b).gs = k; rw [h1]; rfl
  have e2 : real.dT (real.mvalB M b) = v := by show (M.valB b).gt = v; rw [h2]; rfl
  rw [e1, e2]
  show IntKind.i64.wrap (u_szP M l + IntKind.i64.wrap ((k.length : Int) + u_by v)) = u_szP M (l ++ [b])
  rw [e, wrap_sm (a := (k.length : Int) + u_by v) (by omega) (by omega), wrap_sm (by omega) (by omega)]
  unfold u_by
  show _ = u_szP M l + ((k.length + (v.map fun d => (d.fld 1).gs.length).sum : Nat) : Int)
  omega
theorem sz_end {M : MD} {l : List Nat} (hok : M.ok) (hl : u_seenOk M l) (hn : M.noLeft l) : us.szP M l = us.sz M := by
  show u_szP M l = u_sz M
  have hp : l.Perm (M.es.map (·.1)) := (List.perm_ext_iff_of_nodup hl.1 hok.2.1).2 fun a => ⟨hl.2 a, hn a⟩
  unfold u_szP u_sz
  rw [(hp.map _).sum_nat, List.map_map]
  congr 2
  refine List.map_congr_left fun e he => ?_
  obtain ⟨b, k, d⟩ := e
  have q := atB_of_mem hok.2.1 he
  show (M.keyB b).gs.length + _ = u_szE (b, k, d)
  unfold MD.keyB MD.valB u_szE
  rw [q]; rfl
theorem r_kv_KV_Cost : Ready Try.prog 29 := by unfold Ready; kernel_rfl
noncomputable def sp_kv_KV_Cost (F : Fs) (U : Us) : Specs := [(61, s_kv_KV_forgets_ro F U), (65, s_kv_bytes F U)]
theorem ok_kv_KV_Cost : SpecsOK Try.prog (sp_kv_KV_Cost real us) := sp_cons r_kv_KV_forgets_ro k_kv_KV_forgets_ro (sp_cons r_kv_bytes k_kv_bytes sp_nil)
noncomputable def g_kv_KV_Cost (F : Fs) (U : Us) : GLaw := fun l mm => match l, mm with
  | [.p 0 0 0, .s key, .s val], [.bk T0 [(n1, .vs [.mh 1])], .mp T2 .s (.sl (.t [.i, .s, .b])) M] => match Nat.beq T0 114, Nat.beq n1 1, Nat.beq T2 112 with
    | true, true, true => some ⟨U.okK M ∧ F.pLe (F.lenB key) 1000 ∧ F.pLe (F.lenB val) 1000, [.i (U.coN M key val), .i (U.coE M key)], [.bk 114 [(1, .vs [.mh 1])], .mp 112 .s (.sl (.t [.i, .s, .b])) M], []⟩
    | _, _, _ => none
  | _, _ => none
noncomputable def s_kv_KV_Cost (F : Fs) (U : Us) : Vc.Spec := gSpec 2 0 (g_kv_KV_Cost F U)
noncomputable def x_kv_KV_Cost (F : Fs) (U : Us) : Cx := ⟨Try.f29.ntmps, tt F, sp_kv_KV_Cost F U, [], [(1, ([(5, [1]), (7, [1]), (10, [1, 5, 7]), (11, [1]), (12, [1])], []))], [0, 1], []⟩
theorem c_kv_KV_Cost (key val : List UInt8) (M : MD) (hc : us.okK M ∧ real.pLe (real.lenB key) 1000 ∧ real.pLe (real.lenB val) 1000) : vc real (x_kv_KV_Cost real us) [] [] (Try.f29.body.getD .skip) ⟨zipSl 0 [.p 0 0 0, .s key, .s val], zipMe 0 [.bk 114 [(1, .vs [.mh 1])], .mp 112 .s (.sl (.t [.i, .s, .b])) M], 64⟩ (retGOk real (tt real) Try.f29.results.toList [.i (us.coN M key val), .i (us.coE M key)] [.bk 114 [(1, .vs [.mh 1])], .mp 112 .s (.sl (.t [.i, .s, .b])) M] []) := by
  generalize hU : us = U
  generalize hF : real = F
  obtain ⟨hc, hk, hv⟩ := hc
  have hk : key.length ≤ 1000 := hk
  have hv : val.length ≤ 1000 := hv
  have hf : u_fg M key ≤ (u_vs M key).length := Nat.sub_le _ _
  cbv
  repeat' first | apply And.intro | refine Classical.or_iff_not_imp_left.2 (fun _ => ?_) | exact trivial
  all_goals subst hF hU
  · exact hc
  · exact Int.natCast_nonneg _
  · exact hf
  · exact okV_take (okK_vs hc key) _
  · exact co_1 hc hk hv (n_t (by assumption))
  · exact co_2 (n_t (by assumption))
  · exact co_3 hc hv (n_f (by assumption))
  · exact co_4 (n_f (by assumption))
theorem k_kv_KV_Cost : SpecOK Try.prog 29 (s_kv_KV_Cost real us) := by
  refine g_sound (n := 2) (q := 0) (x := x_kv_KV_Cost real us) ⟨tt_ok, ok_kv_KV_Cost, Go.Vc.ks_nil⟩ mixed Try.func29 rfl rfl (by kernel_rfl) (by decide) (fun j hj => by simp [x_kv_KV_Cost]; omega) ?_
  intro l mm c rs ch news hg hl hc
  unfold g_kv_KV_Cost at hg
  split at hg
  · split at hg
    · rename_i h0 h1 h2
      have z0 := beq_nat h0
      have z1 := beq_nat h1
      have z2 := beq_nat h2
      subst z0
      subst z1
      subst z2
      cases hg
      exact ⟨Nat.le_of_ble_eq_true rfl, [], [], c_kv_KV_Cost _ _ _ hc⟩
    · cases hg
  · cases hg

theorem r_kv_KV_Delete : Ready Try.prog 27 := by unfold Ready; kernel_rfl
noncomputable def sp_kv_KV_Delete (F : Fs) (U : Us) : Specs := [(59, s_kv_KV_last F U), (64, s_slices_Clone F U)]
theorem ok_kv_KV_Delete : SpecsOK Try.prog (sp_kv_KV_Delete real us) := sp_cons r_kv_KV_last k_kv_KV_last (sp_cons r_slices_Clone k_slices_Clone sp_nil)
noncomputable def g_kv_KV_Delete (F : Fs) (U : Us) : GLaw := fun l mm => match l, mm with
  | [.p 0 0 0, .s key], [.bk T0 [(n1, .vs [.mh 1])], .mp T2 .s (.sl (.t [.i, .s, .b])) M] => match Nat.beq T0 114, Nat.beq n1 1, Nat.beq T2 112 with
    | true, true, true => some ⟨U.okK M, [.i (U.dlN M key), .i (U.dlE M key)], [.bk 114 [(1, .vs [.mh 1])], .mp 112 .s (.sl (.t [.i, .s, .b])) (U.dlM M key)], []⟩
    | _, _, _ => none
  | _, _ => none
noncomputable def s_kv_KV_Delete (F : Fs) (U : Us) : Vc.Spec := gSpec 2 0 (g_kv_KV_Delete F U)
noncomputable def x_kv_KV_Delete (F : Fs) (U : Us) : Cx := ⟨Try.f27.ntmps, tt F, sp_kv_KV_Delete F U, [], [], [0, 1], []⟩
theorem c_kv_KV_Delete (key : List UInt8) (M : MD) (hc : us.okK M) : vc real (x_kv_KV_Delete real us) [] [] (Try.f27.body.getD .skip) ⟨zipSl 0 [.p 0 0 0, .s key], zipMe 0 [.bk 114 [(1, .vs [.mh 1])], .mp 112 .s (.sl (.t [.i, .s, .b])) M], 64⟩ (retGOk real (tt real) Try.f27.results.toList [.i (us.dlN M key), .i (us.dlE M key)] [.bk 114 [(1, .vs [.mh 1])], .mp 112 .s (.sl (.t [.i, .s, .b])) (us.dlM M key)] []) := by
  generalize hU : us = U
  generalize hF : real = F
  cbv
  repeat' first | apply And.intro | refine Classical.or_iff_not_imp_left.2 (fun _ => ?_) | exact trivial
  all_goals subst hF hU
  all_goals first
    | exact hc
    | (have e0 : u_dlE M key = 100 := by ((try simp only [real, us, Int.cast_ofNat_Int, Bool.not_eq_true, Bool.not_eq_false, beq_iff_eq, beq_eq_false_iff_ne, ne_eq] at *); unfold u_dlE; (repeat' split) <;> first | rfl | omega | (exfalso; simp_all; done) | (exfalso; simp_all; omega))
       first | exact e0.symm | exact (dl_no (by rw [e0]; decide)).1 | exact (dl_no (by rw [e0]; decide)).2)
    | (have e0 : u_dlE M key = 0 := by ((try simp only [real, us, Int.cast_ofNat_Int, Bool.not_eq_true, Bool.not_eq_false, beq_iff_eq, beq_eq_false_iff_ne, ne_eq] at *); unfold u_dlE; (repeat' split) <;> first | rfl | omega | (exfalso; simp_all; done) | (exfalso; simp_all; omega))
       first | exact e0.symm | exact (dl_yes e0).1 | exact dl_M hc e0)
    | exact Nat.le_trans (okK_vs hc key).1 (by decide)
    | exact last_in (okK_vs hc key) (lN_len (e_f (by assumption)))
    | exact last_lt (okK_vs hc key) (lN_len (e_f (by assumption)))
theorem k_kv_KV_Delete : SpecOK Try.prog 27 (s_kv_KV_Delete real us) := by
  refine g_sound (n := 2) (q := 0) (x := x_kv_KV_Delete real us) ⟨tt_ok, ok_kv_KV_Delete, Go.Vc.ks_nil⟩ mixed Try.func27 rfl rfl (by kernel_rfl) (by decide) (fun j hj => by simp [x_kv_KV_Delete]; omega) ?_
  intro l mm c rs ch news hg hl hc
  unfold g_kv_KV_Delete at hg
  split at hg
  · split at hg
    · rename_i h0 h1 h2
      have z0 := beq_nat h0
      have z1 := beq_nat h1
      have z2 := beq_nat h2
      subst z0
      subst z1
      subst z2
      cases hg
      exact ⟨Nat.le_of_ble_eq_true rfl, [], [], c_kv_KV_Delete _ _ hc⟩
    · cases hg
  · cases hg

theorem r_kv_KV_Size : Ready Try.prog 28 := by unfold Ready; kernel_rfl
noncomputable def sp_kv_KV_Size (F : Fs) (U : Us) : Specs := [(65, s_kv_bytes F U)]
theorem ok_kv_KV_Size : SpecsOK Try.prog (sp_kv_KV_Size real us) := sp_cons r_kv_bytes k_kv_bytes sp_nil
noncomputable def an_kv_KV_Size (F : Fs) (U : Us) (M : MD) : Anns := [(3, ⟨List Nat, fun l => U.seenOk M l, fun l => U.left M l, fun l => ⟨[(0, .p 0 0 0), (4, .i (U.szP M l)), (11, .p 4 0 0)], [(999, 0, .bk 114 [(1, .vs [.mh 1])]), (999, 1, .mp 112 .s (.sl (.t [.i, .s, .b])) M), (11, 4, .it 1 (F.mclk M) l (F.mclk M))]⟩⟩)]
noncomputable def g_kv_KV_Size (F : Fs) (U : Us) : GLaw := fun l mm => match l, mm with
  | [.p 0 0 0], [.bk T0 [(n1, .vs [.mh 1])], .mp T2 .s (.sl (.t [.i, .s, .b])) M] => match Nat.beq T0 114, Nat.beq n1 1, Nat.beq T2 112 with
    | true, true, true => some ⟨U.okK M ∧ F.pLe (F.mlen M) 1000, [.i (U.sz M), .i (F.int (F.mlen M))], [.bk 114 [(1, .vs [.mh 1])], .mp 112 .s (.sl (.t [.i, .s, .b])) M], []⟩
    | _, _, _ => none
  | _, _ => none
noncomputable def s_kv_KV_Size (F : Fs) (U : Us) : Vc.Spec := gSpec 2 0 (g_kv_KV_Size F U)
noncomputable def x_kv_KV_Size (F : Fs) (U : Us) : Cx := ⟨Try.f28.ntmps, tt F, sp_kv_KV_Size F U, [], [], [0, 1], []⟩
theorem c_kv_KV_Size (M : MD) (hc : us.okK M ∧ real.pLe (real.mlen M) 1000) : vc real (x_kv_KV_Size real us) (an_kv_KV_Size real us M) [] (Try.f28.body.getD .skip) ⟨zipSl 0 [.p 0 0 0], zipMe 0 [.bk 114 [(1, .vs [.mh 1])], .mp 112 .s (.sl (.t [.i, .s, .b])) M], 64⟩ (retGOk real (tt real) Try.f28.results.toList [.i (us.sz M), .i (real.int (real.mlen M))] [.bk 114 [(1, .vs [.mh 1])], .mp 112 .s (.sl (.t [.i, .s, .b])) M] []) := by
  generalize hU : us = U
  generalize hF : real = F
  obtain ⟨hc, hm⟩ := hc
  have hm : M.es.length ≤ 1000 := hm
  cbv
  repeat' first | apply And.intro | refine Classical.or_iff_not_imp_left.2 (fun _ => ?_) | exact trivial
  · refine ⟨([] : List Nat), ?_⟩
    cbv
    subst hF hU
    exact ⟨seen_0 M, ⟨rfl, trivial⟩, trivial⟩
  · intro (l : List Nat) hl
    replace hl : U.seenOk M l := hl
    cbv
    repeat' first | apply And.intro | refine Classical.or_iff_not_imp_left.2 (fun _ => ?_) | exact trivial
    · subst hF hU; exact ⟨rfl, rfl⟩
    · intro hok hno
      cbv
      subst hF hU
      exact ⟨⟨sz_end hok hl hno, trivial⟩, trivial⟩
    · intro b hok hb
      cbv
      repeat' first | apply And.intro | refine Classical.or_iff_not_imp_left.2 (fun _ => ?_) | exact trivial
      · subst hF hU; exact rng_ent rfl hb
      · subst hF hU; exact sz_okV hc hb
      · refine ⟨(F.appN l b : List Nat), ?_⟩
        cbv
        subst hF hU
        have hs := left_step hl hb
        exact ⟨hs.1, hs.2, ⟨sz_step hc hm hl hb, trivial⟩, trivial⟩
theorem k_kv_KV_Size : SpecOK Try.prog 28 (s_kv_KV_Size real us) := by
  refine g_sound (n := 2) (q := 0) (x := x_kv_KV_Size real us) ⟨tt_ok, ok_kv_KV_Size, Go.Vc.ks_nil⟩ mixed Try.func28 rfl rfl (by kernel_rfl) (by decide) (fun j hj => by simp [x_kv_KV_Size]; omega) ?_
  intro l mm c rs ch news hg hl hc
  unfold g_kv_KV_Size at hg
  split at hg
  · split at hg
    · rename_i h0 h1 h2
      have z0 := beq_nat h0
      have z1 := beq_nat h1
      have z2 := beq_nat h2
      subst z0
      subst z1
      subst z2
      cases hg
      exact ⟨Nat.le_of_ble_eq_true rfl, an_kv_KV_Size real us _, [], c_kv_KV_Size _ hc⟩
    · cases hg
  · cases hg

end Go.Proofs.Ythjlhookepchgaa
