/- A part of the proof of given statements: a verified condition generator for the model, and contracts of the program's functions. No condition. -/
import Derived.WalkKit
import Derived.Orders
namespace Go.Vc
open Go Go.RowKit

/-! ## Abstract values -/
mutual
inductive AV where
  | u
  | i (n : Int)
  | w8 (x : UInt8)
  | w16 (x : UInt16)
  | w32 (x : UInt32)
  | w64 (x : UInt64)
  | b (x : Bool)
  | kb (x : Bool)
  | s (x : List UInt8)
  | ag (n : Nat) (c : AC)
  | tup (l : List AV)
  | p (k g o : Nat)
  | pe (k g o e i : Nat)
  | pr (a : AV)
  | sl (k g o e a n : Nat)
  | rb (e : Nat) (c : AC)
  | rw (k : Nat)
  | nl
  | pn
inductive AC where
  | bt (xs : List UInt8)
  | wh (xs : List UInt16)
  | wd (xs : List UInt32)
  | ww (xs : List UInt64)
  | is (xs : List Int)
  | ss (xs : List (List UInt8))
  | vs (l : List AV)
  | fn (e n : Nat) (f : Nat → AV)
end

abbrev E8 (x : UInt8) : Value := .int .u8 (x.toNat : Int)
abbrev E16 (x : UInt16) : Value := .int .u16 (x.toNat : Int)
abbrev E32 (x : UInt32) : Value := .int .u32 (x.toNat : Int)
abbrev E64 (x : UInt64) : Value := .int .u64 (x.toNat : Int)
abbrev EI (x : Int) : Value := .int .i64 x
abbrev ES (x : List UInt8) : Value := .string ⟨x.toArray⟩

/-- the block that a handle leads to -/
def blk : Value → Option Nat
  | .pointer (some a) => some a.block
  | .slice (some a) _ _ => some a.block
  | .map (some r) => some r
  | _ => none

/-- names and what they lead to; which blocks may be counted on to stay as they are -/
structure Hd where
  mu : Nat → Option Value
  ok : Nat → Prop
instance : CoeFun Hd (fun _ => Nat → Option Value) := ⟨Hd.mu⟩

def Stable (m : Hd) (w : World) (b : Nat) : Prop := b < w.heap.size ∧ m.ok b ∧ ∀ k v, m k = some v → blk v ≠ some b
def StableAt (m : Hd) (w : World) (ad : Addr) (ds : List Value) : Prop :=
  Stable m w ad.block ∧ ∀ j x, ds[j]? = some x → w.cell? (ad.add j) = some x

mutual
def CR (m : Hd) (w : World) : AV → List Value → Prop
  | .u, cs => ∃ v, cs = [v] ∧ v.oneCell' = true
  | .i n, cs => cs = [.int .i64 n]
  | .w8 x, cs => cs = [.int .u8 (x.toNat : Int)]
  | .w16 x, cs => cs = [.int .u16 (x.toNat : Int)]
  | .w32 x, cs => cs = [.int .u32 (x.toNat : Int)]
  | .w64 x, cs => cs = [.int .u64 (x.toNat : Int)]
  | .b x, cs => cs = [.bool x]
  | .kb x, cs => cs = [.bool x]
  | .s x, cs => cs = [.string ⟨x.toArray⟩]
  | .ag n c, cs => cs.length = n ∧ RC m w c cs
  | .tup _, _ => False
  | .p k _ o, cs => ∃ g, m k = some (.pointer (some ⟨g, 0, none⟩)) ∧ cs = [.pointer (some ⟨g, o, none⟩)]
  | .pe k _ o e i, cs => ∃ v g, m k = some v ∧ blk v = some g ∧ cs = [.pointer (some ⟨g, o + i * e, none⟩)]
  | .pr a, cs => ∃ ad ds, cs = [.pointer (some ad)] ∧ CR m w a ds ∧ StableAt m w ad ds
  | .sl k _ o e a n, cs => ∃ v ad cap, m k = some v ∧ cs = [.slice ad n cap] ∧ n ≤ cap ∧ (0 < n → ∃ g, blk v = some g ∧ ad = some ⟨g, o + a * e, none⟩)
  | .rb e c, cs => ∃ ad n cap ds, cs = [.slice ad n cap] ∧ RC m w c ds ∧ ds.length = n * e ∧ n ≤ cap ∧ (0 < n → ∃ a, ad = some a ∧ StableAt m w a ds)
  | .rw k, cs => ∃ v, m k = some v ∧ cs = [v] ∧ v.oneCell' = true
  | .nl, cs => cs = [.slice none 0 0]
  | .pn, cs => cs = [.pointer none]
def RC (m : Hd) (w : World) : AC → List Value → Prop
  | .bt xs, cs => cs = xs.map E8
  | .wh xs, cs => cs = xs.map E16
  | .wd xs, cs => cs = xs.map E32
  | .ww xs, cs => cs = xs.map E64
  | .is xs, cs => cs = xs.map EI
  | .ss xs, cs => cs = xs.map ES
  | .vs l, cs => LR m w l cs
  | .fn e n f, cs => ∃ css : List (List Value), css.length = n ∧ cs = css.flatten ∧ ∀ j d, css[j]? = some d → d.length = e ∧ CR m w (f j) d
def LR (m : Hd) (w : World) : List AV → List Value → Prop
  | [], cs => cs = []
  | a :: l, cs => ∃ c1 c2, cs = c1 ++ c2 ∧ CR m w a c1 ∧ LR m w l c2
end

structure Pres (m : Hd) (w : World) (m' : Hd) (w' : World) : Prop where
  mu : ∀ k v, m k = some v → m' k = some v
  stab : ∀ b, Stable m w b → w'.heap[b]? = w.heap[b]? ∧ Stable m' w' b

theorem Pres.refl (m : Hd) (w : World) : Pres m w m w := ⟨fun _ _ h => h, fun _ h => ⟨rfl, h⟩⟩
theorem Pres.trans {m m' m'' : Hd} {w w' w'' : World} (h : Pres m w m' w') (g : Pres m' w' m'' w'') : Pres m w m'' w'' :=
  ⟨fun k v hk => g.mu k v (h.mu k v hk), fun b hb => ⟨(g.stab b (h.stab b hb).2).1.trans (h.stab b hb).1, (g.stab b (h.stab b hb).2).2⟩⟩

theorem add_block (a : Addr) (n : Nat) : (a.add n).block = a.block := by unfold Addr.add; split <;> rfl

theorem Pres.at_ {m m' : Hd} {w w' : World} (h : Pres m w m' w') {ad : Addr} {ds : List Value} (hs : StableAt m w ad ds) : StableAt m' w' ad ds := by
  obtain ⟨h1, h2⟩ := hs
  obtain ⟨h3, h4⟩ := h.stab _ h1
  refine ⟨h4, fun j x hx => ?_⟩
  rw [← h2 j x hx]
  exact World.cell?_of_block (by rw [add_block]; exact h3)

mutual
theorem CR_mono {m m' : Hd} {w w' : World} (h : Pres m w m' w') : ∀ (a : AV) (cs : List Value), CR m w a cs → CR m' w' a cs
  | .u, cs, hc => by simpa [CR] using hc
  | .i n, cs, hc => by simpa [CR] using hc
  | .w8 x, cs, hc => by simpa [CR] using hc
  | .w16 x, cs, hc => by simpa [CR] using hc
  | .w32 x, cs, hc => by simpa [CR] using hc
  | .w64 x, cs, hc => by simpa [CR] using hc
  | .b x, cs, hc => by simpa [CR] using hc
  | .kb x, cs, hc => by simpa [CR] using hc
  | .s x, cs, hc => by simpa [CR] using hc
  | .ag n c, cs, hc => by simp only [CR] at hc ⊢; exact ⟨hc.1, RC_mono h c cs hc.2⟩
  | .tup l, cs, hc => by simp [CR] at hc
  | .p k g o, cs, hc => by simp only [CR] at hc ⊢; obtain ⟨g, h1, h2⟩ := hc; exact ⟨g, h.mu _ _ h1, h2⟩
  | .pe k g o e i, cs, hc => by simp only [CR] at hc ⊢; obtain ⟨v, g, h1, h2⟩ := hc; exact ⟨v, g, h.mu _ _ h1, h2⟩
  | .pr a, cs, hc => by simp only [CR] at hc ⊢; obtain ⟨ad, ds, h1, h2, h3⟩ := hc; exact ⟨ad, ds, h1, CR_mono h a ds h2, h.at_ h3⟩
  | .sl k g o e a n, cs, hc => by simp only [CR] at hc ⊢; obtain ⟨v, ad, cap, h1, h2⟩ := hc; exact ⟨v, ad, cap, h.mu _ _ h1, h2⟩
  | .rb e c, cs, hc => by
    simp only [CR] at hc ⊢
    obtain ⟨ad, n, cap, ds, h1, h2, h3, h4, h5⟩ := hc
    exact ⟨ad, n, cap, ds, h1, RC_mono h c ds h2, h3, h4, fun hn => let ⟨a, ha, hs⟩ := h5 hn; ⟨a, ha, h.at_ hs⟩⟩
  | .rw k, cs, hc => by simp only [CR] at hc ⊢; obtain ⟨v, h1, h2⟩ := hc; exact ⟨v, h.mu _ _ h1, h2⟩
  | .nl, cs, hc => by simpa [CR] using hc
  | .pn, cs, hc => by simpa [CR] using hc
theorem RC_mono {m m' : Hd} {w w' : World} (h : Pres m w m' w') : ∀ (c : AC) (cs : List Value), RC m w c cs → RC m' w' c cs
  | .bt xs, cs, hc => by simpa [RC] using hc
  | .wh xs, cs, hc => by simpa [RC] using hc
  | .wd xs, cs, hc => by simpa [RC] using hc
  | .ww xs, cs, hc => by simpa [RC] using hc
  | .is xs, cs, hc => by simpa [RC] using hc
  | .ss xs, cs, hc => by simpa [RC] using hc
  | .vs l, cs, hc => by simp only [RC] at hc ⊢; exact LR_mono h l cs hc
  | .fn e n f, cs, hc => by
    simp only [RC] at hc ⊢
    obtain ⟨css, h1, h2, h3⟩ := hc
    exact ⟨css, h1, h2, fun j d hd => ⟨(h3 j d hd).1, CR_mono h (f j) d (h3 j d hd).2⟩⟩
theorem LR_mono {m m' : Hd} {w w' : World} (h : Pres m w m' w') : ∀ (l : List AV) (cs : List Value), LR m w l cs → LR m' w' l cs
  | [], cs, hc => by simpa [LR] using hc
  | a :: l, cs, hc => by
    simp only [LR] at hc ⊢
    obtain ⟨c1, c2, h1, h2, h3⟩ := hc
    exact ⟨c1, c2, h1, CR_mono h a c1 h2, LR_mono h l c2 h3⟩
end

/-! ## A slot's value -/
mutual
def RV (m : Hd) (w : World) : AV → Value → Prop
  | .u, _ => True
  | .ag n c, v => ∃ cs, v = .agg cs.toArray ∧ cs.length = n ∧ RC m w c cs
  | .tup l, v => ∃ vs, v = .tuple vs.toArray ∧ RVs m w l vs
  | .i n, v => CR m w (.i n) [v]
  | .w8 x, v => CR m w (.w8 x) [v]
  | .w16 x, v => CR m w (.w16 x) [v]
  | .w32 x, v => CR m w (.w32 x) [v]
  | .w64 x, v => CR m w (.w64 x) [v]
  | .b x, v => CR m w (.b x) [v]
  | .kb x, v => CR m w (.kb x) [v]
  | .s x, v => CR m w (.s x) [v]
  | .p k g o, v => CR m w (.p k g o) [v]
  | .pe k g o e i, v => CR m w (.pe k g o e i) [v]
  | .pr a, v => CR m w (.pr a) [v]
  | .sl k g o e a n, v => CR m w (.sl k g o e a n) [v]
  | .rb e c, v => CR m w (.rb e c) [v]
  | .rw k, v => CR m w (.rw k) [v]
  | .nl, v => CR m w .nl [v]
  | .pn, v => CR m w .pn [v]
def RVs (m : Hd) (w : World) : List AV → List Value → Prop
  | [], vs => vs = []
  | a :: l, vs => ∃ v r, vs = v :: r ∧ RV m w a v ∧ RVs m w l r
end

mutual
theorem RV_mono {m m' : Hd} {w w' : World} (h : Pres m w m' w') : ∀ (a : AV) (v : Value), RV m w a v → RV m' w' a v
  | .u, v, _ => by simp [RV]
  | .ag n c, v, hv => by simp only [RV] at hv ⊢; obtain ⟨cs, h1, h2, h3⟩ := hv; exact ⟨cs, h1, h2, RC_mono h c cs h3⟩
  | .tup l, v, hv => by simp only [RV] at hv ⊢; obtain ⟨vs, h1, h2⟩ := hv; exact ⟨vs, h1, RVs_mono h l vs h2⟩
  | .i n, v, hv => by simp only [RV] at hv ⊢; exact CR_mono h _ _ hv
  | .w8 x, v, hv => by simp only [RV] at hv ⊢; exact CR_mono h _ _ hv
  | .w16 x, v, hv => by simp only [RV] at hv ⊢; exact CR_mono h _ _ hv
  | .w32 x, v, hv => by simp only [RV] at hv ⊢; exact CR_mono h _ _ hv
  | .w64 x, v, hv => by simp only [RV] at hv ⊢; exact CR_mono h _ _ hv
  | .b x, v, hv => by simp only [RV] at hv ⊢; exact CR_mono h _ _ hv
  | .kb x, v, hv => by simp only [RV] at hv ⊢; exact CR_mono h _ _ hv
  | .s x, v, hv => by simp only [RV] at hv ⊢; exact CR_mono h _ _ hv
  | .p k g o, v, hv => by simp only [RV] at hv ⊢; exact CR_mono h _ _ hv
  | .pe k g o e i, v, hv => by simp only [RV] at hv ⊢; exact CR_mono h _ _ hv
  | .pr a, v, hv => by simp only [RV] at hv ⊢; exact CR_mono h _ _ hv
  | .sl k g o e a n, v, hv => by simp only [RV] at hv ⊢; exact CR_mono h _ _ hv
  | .rb e c, v, hv => by simp only [RV] at hv ⊢; exact CR_mono h _ _ hv
  | .rw k, v, hv => by simp only [RV] at hv ⊢; exact CR_mono h _ _ hv
  | .nl, v, hv => by simp only [RV] at hv ⊢; exact CR_mono h _ _ hv
  | .pn, v, hv => by simp only [RV] at hv ⊢; exact CR_mono h _ _ hv
theorem RVs_mono {m m' : Hd} {w w' : World} (h : Pres m w m' w') : ∀ (l : List AV) (vs : List Value), RVs m w l vs → RVs m' w' l vs
  | [], vs, hv => by simpa [RVs] using hv
  | a :: l, vs, hv => by
    simp only [RVs] at hv ⊢
    obtain ⟨v, r, h1, h2, h3⟩ := hv
    exact ⟨v, r, h1, RV_mono h a v h2, RVs_mono h l r h3⟩
end

/-! ## Blocks of the call's own, and memory -/
abbrev Seg := Nat × AC
inductive AB where
  | dead
  | bk (T : Nat) (segs : List Seg)
  | row (T : Nat) (e : Nat) (c : AC)
abbrev Mem := List (Nat × AB)

def mlook : Mem → Nat → Option AB
  | [], _ => none
  | (k, a) :: r, t => match Nat.beq k t with
    | true => some a
    | false => mlook r t

def SegsR (m : Hd) (w : World) : List Seg → List Value → Prop
  | [], cs => cs = []
  | (n, c) :: l, cs => ∃ c1 c2, cs = c1 ++ c2 ∧ c1.length = n ∧ RC m w c c1 ∧ SegsR m w l c2
theorem SegsR_mono {m m' : Hd} {w w' : World} (h : Pres m w m' w') : ∀ (l : List Seg) (cs : List Value), SegsR m w l cs → SegsR m' w' l cs
  | [], cs, hc => by simpa [SegsR] using hc
  | (n, c) :: l, cs, hc => by
    simp only [SegsR] at hc ⊢
    obtain ⟨c1, c2, h1, h2, h3, h4⟩ := hc
    exact ⟨c1, c2, h1, h2, RC_mono h c c1 h3, SegsR_mono h l c2 h4⟩

/-- no cell of a block of this size is frozen -/
def Thawed (fz : Nat × Nat) (size : Nat) : Prop := ∀ j, j < size → ¬ (fz.1 ≤ j ∧ j < fz.2)

/-- a slice value that owns its array from the array's head on -/
def OwnRow (w : World) (T e : Nat) (v : Value) (n : Nat) (cs : List Value) : Prop :=
  cs.length = n * e ∧
  ((v = .slice none 0 0 ∧ n = 0) ∨
   ∃ g cap cur fz, v = .slice (some ⟨g, 0, none⟩) n cap ∧ w.heap[g]? = some (.cells cur T fz) ∧ Thawed fz cur.size ∧ n ≤ cap ∧ cap ≤ maxLen ∧ cur.size = cap * e ∧ cur.toList.take (n * e) = cs)

def ABR (m : Hd) (w : World) (k : Nat) : AB → Prop
  | .dead => True
  | .bk T segs => ∃ g cs fz, m k = some (.pointer (some ⟨g, 0, none⟩)) ∧ w.heap[g]? = some (.cells cs T fz) ∧ Thawed fz cs.size ∧ SegsR m w segs cs.toList
  | .row T e c => ∃ v n cs, m k = some v ∧ OwnRow w T e v n cs ∧ RC m w c cs

def AB.live : AB → Bool
  | .dead => false
  | _ => true

structure MemR (m : Hd) (w : World) (me : Mem) : Prop where
  at_ : ∀ k ab, mlook me k = some ab → ABR m w k ab
  apart : ∀ k k' ab ab' v v' b, mlook me k = some ab → mlook me k' = some ab' → ab.live = true → ab'.live = true → k ≠ k' → m k = some v → m k' = some v' → blk v = some b → blk v' ≠ some b

end Go.Vc
