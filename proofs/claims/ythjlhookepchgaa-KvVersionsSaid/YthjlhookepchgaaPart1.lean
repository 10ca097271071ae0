/- A part of the proof of given statements: a verified condition generator for the model, and contracts of the program's functions. No condition. -/
import Derived.WalkKit
import Derived.Orders
set_option linter.unusedVariables false
set_option linter.unusedSimpArgs false
set_option linter.constructorNameAsVariable false
namespace Go.Vc
open Go Go.RowKit

/-! ## Data without memory, and their shapes -/
inductive D where
  | i (n : Int)
  | w8 (x : UInt8)
  | w32 (x : UInt32)
  | w64 (x : UInt64)
  | b (x : Bool)
  | s (x : List UInt8)
  | l8 (x : List UInt8)
  | ss (x : List (List UInt8))
  | t (l : List D)
inductive Sh where
  | i
  | w8
  | w32
  | w64
  | b
  | s
  | l8 (n : Nat)
  | ss
  | t (l : List Sh)
  | sl (sh : Sh)
  | bs
mutual
def Sh.cells : Sh → Nat
  | .l8 n => n
  | .t l => Sh.lcells l
  | _ => 1
def Sh.lcells : List Sh → Nat
  | [] => 0
  | a :: r => a.cells + Sh.lcells r
end
def D.gi : D → Int
  | .i n => n
  | _ => 0
def D.g8 : D → UInt8
  | .w8 x => x
  | _ => 0
def D.g32 : D → UInt32
  | .w32 x => x
  | _ => 0
def D.g64 : D → UInt64
  | .w64 x => x
  | _ => 0
def D.gb : D → Bool
  | .b x => x
  | _ => false
def D.gs : D → List UInt8
  | .s x => x
  | _ => []
def D.gl8 : D → List UInt8
  | .l8 x => x
  | _ => []
def D.gss : D → List (List UInt8)
  | .ss x => x
  | _ => []
def D.gt : D → List D
  | .t l => l
  | _ => []
def D.no : D := .t []
def D.fld (d : D) (j : Nat) : D := d.gt.getD j D.no
/-- a map: when each entry was made, its key, its value; how many were made -/
structure MD where
  es : List (Nat × D × D)
  clock : Nat
/-- the kinds of keys -/
inductive KK where
  | i
  | s
  | l8 (n : Nat)

/-! ## Abstract values -/
mutual
inductive AV where
  | u
  | i (n : Int)
  | w8 (x : UInt8)
  | w16 (x : UInt16)
  | w32 (x : UInt32)
  | w64 (x : UInt64)
  | b (x : Bool)
  | kb (x : Bool)
  | s (x : List UInt8)
  | ag (n : Nat) (c : AC)
  | tup (l : List AV)
  | p (k g o : Nat)
  | pe (k g o e i : Nat)
  | pr (a : AV)
  | sl (k g o e a n : Nat)
  | rb (e : Nat) (c : AC)
  | rw (k : Nat)
  | nl
  | pn
  | cl (k : Nat)
  | z
  | mh (k : Nat)
  | mn
  | fv (f : Nat) (l : List AV)
  | pf (k g o e i j c : Nat)
inductive AC where
  | bt (xs : List UInt8)
  | wh (xs : List UInt16)
  | wd (xs : List UInt32)
  | ww (xs : List UInt64)
  | is (xs : List Int)
  | ss (xs : List (List UInt8))
  | vs (l : List AV)
  | fn (e n : Nat) (f : Nat → AV)
  | ds (sh : Sh) (xs : List D)
end

abbrev E8 (x : UInt8) : Value := .int .u8 (x.toNat : Int)
abbrev E16 (x : UInt16) : Value := .int .u16 (x.toNat : Int)
abbrev E32 (x : UInt32) : Value := .int .u32 (x.toNat : Int)
abbrev E64 (x : UInt64) : Value := .int .u64 (x.toNat : Int)
abbrev EI (x : Int) : Value := .int .i64 x
abbrev ES (x : List UInt8) : Value := .string ⟨x.toArray⟩

/-- the block that a handle leads to -/
def blk : Value → Option Nat
  | .pointer (some a) => some a.block
  | .slice (some a) _ (_ + 1) => some a.block
  | .map (some r) => some r
  | _ => none
theorem blk_slice {a : Addr} {n c : Nat} (h : 0 < c) : blk (.slice (some a) n c) = some a.block := by
  cases c with
  | zero => omega
  | succ c => rfl
theorem blk_slice0 {ad : Option Addr} {n : Nat} : blk (.slice ad n 0) = none := by
  cases ad <;> rfl
/-- where in it a handle begins -/
def bof : Value → Nat
  | .slice (some a) _ _ => a.off
  | _ => 0
/-- how much room a slice has -/
def capOf : Value → Option Nat
  | .slice _ _ c => some c
  | _ => none
def clipV : Value → Value
  | .slice ad n _ => .slice ad n n
  | v => v

/-- names and what they lead to; which blocks may be counted on to stay as they are -/
structure Hd where
  mu : Nat → Option Value
  ok : Nat → Prop
  pub : Nat → Prop
instance : CoeFun Hd (fun _ => Nat → Option Value) := ⟨Hd.mu⟩

def Stable (m : Hd) (w : World) (b : Nat) : Prop := b < w.heap.size ∧ m.ok b ∧ (m.pub b ∨ ∀ k v, m k = some v → blk v ≠ some b)
def StableAt (m : Hd) (w : World) (ad : Addr) (ds : List Value) : Prop :=
  Stable m w ad.block ∧ ∀ j x, ds[j]? = some x → w.cell? (ad.add j) = some x

mutual
/-- data in cells -/
def DR (m : Hd) (w : World) : Sh → D → List Value → Prop
  | .i, d, cs => cs = [.int .i64 d.gi]
  | .w8, d, cs => cs = [.int .u8 (d.g8.toNat : Int)]
  | .w32, d, cs => cs = [.int .u32 (d.g32.toNat : Int)]
  | .w64, d, cs => cs = [.int .u64 (d.g64.toNat : Int)]
  | .b, d, cs => cs = [.bool d.gb]
  | .s, d, cs => cs = [.string ⟨d.gs.toArray⟩]
  | .l8 n, d, cs => cs.length = n ∧ cs = d.gl8.map E8
  | .ss, d, cs => ∃ ad n cap ds, cs = [.slice ad n cap] ∧ ds = d.gss.map ES ∧ ds.length = n * 1 ∧ n ≤ cap ∧ (0 < n → ∃ a, ad = some a ∧ StableAt m w a ds)
  | .bs, d, cs => ∃ ad n cap ds, cs = [.slice ad n cap] ∧ ds = d.gl8.map E8 ∧ ds.length = n * 1 ∧ n ≤ cap ∧ (0 < n → ∃ a, ad = some a ∧ StableAt m w a ds)
  | .t l, d, cs => DRs m w l d 0 cs
  | .sl sh, d, cs => ∃ ad n cap ds, cs = [.slice ad n cap] ∧ (∃ css : List (List Value), css.length = d.gt.length ∧ ds = css.flatten ∧ ∀ (j : Nat) (x : List Value) (y : D), css[j]? = some x → d.gt[j]? = some y → x.length = sh.cells ∧ DR m w sh y x) ∧ ds.length = n * sh.cells ∧ n ≤ cap ∧ (0 < n → ∃ a, ad = some a ∧ StableAt m w a ds)
def DRs (m : Hd) (w : World) : List Sh → D → Nat → List Value → Prop
  | [], _, _, cs => cs = []
  | a :: l, d, j, cs => ∃ c1 c2, cs = c1 ++ c2 ∧ DR m w a (d.fld j) c1 ∧ DRs m w l d (j + 1) c2
end
mutual
def CR (m : Hd) (w : World) : AV → List Value → Prop
  | .u, cs => ∃ v, cs = [v] ∧ v.oneCell' = true
  | .i n, cs => cs = [.int .i64 n]
  | .w8 x, cs => cs = [.int .u8 (x.toNat : Int)]
  | .w16 x, cs => cs = [.int .u16 (x.toNat : Int)]
  | .w32 x, cs => cs = [.int .u32 (x.toNat : Int)]
  | .w64 x, cs => cs = [.int .u64 (x.toNat : Int)]
  | .b x, cs => cs = [.bool x]
  | .kb x, cs => cs = [.bool x]
  | .s x, cs => cs = [.string ⟨x.toArray⟩]
  | .ag n c, cs => cs.length = n ∧ RC m w c cs
  | .tup _, _ => False
  | .p k _ o, cs => ∃ g, m k = some (.pointer (some ⟨g, 0, none⟩)) ∧ cs = [.pointer (some ⟨g, o, none⟩)]
  | .pe k _ o e i, cs => ∃ v g, m k = some v ∧ blk v = some g ∧ cs = [.pointer (some ⟨g, bof v + (o + i * e), none⟩)]
  | .pr a, cs => ∃ ad ds, cs = [.pointer (some ad)] ∧ CR m w a ds ∧ StableAt m w ad ds
  | .sl k _ o e a n, cs => ∃ v ad cap, m k = some v ∧ cs = [.slice ad n cap] ∧ n ≤ cap ∧ (0 < cap → ∃ g, blk v = some g ∧ ad = some ⟨g, bof v + (o + a * e), none⟩) ∧ ∀ c, capOf v = some c → a + cap ≤ c
  | .rb e c, cs => ∃ ad n cap ds, cs = [.slice ad n cap] ∧ RC m w c ds ∧ ds.length = n * e ∧ n ≤ cap ∧ (0 < n → ∃ a, ad = some a ∧ StableAt m w a ds)
  | .rw k, cs => ∃ v, m k = some v ∧ cs = [v] ∧ v.oneCell' = true
  | .nl, cs => cs = [.slice none 0 0]
  | .pn, cs => cs = [.pointer none]
  | .cl k, cs => ∃ v, m k = some v ∧ cs = [clipV v] ∧ v.oneCell' = true
  | .z, cs => ∃ ad, cs = [.slice ad 0 0]
  | .mh k, cs => ∃ v, m k = some v ∧ cs = [v] ∧ v.oneCell' = true
  | .mn, cs => cs = [.map none]
  | .pf k _ o e i _ c, cs => ∃ v g, m k = some v ∧ blk v = some g ∧ cs = [.pointer (some ⟨g, bof v + (o + i * e) + c, none⟩)]
  | .fv f l, cs => ∃ vs : List Value, cs = [.func (.func f) #[] vs.toArray] ∧ LR m w l vs
def RC (m : Hd) (w : World) : AC → List Value → Prop
  | .bt xs, cs => cs = xs.map E8
  | .wh xs, cs => cs = xs.map E16
  | .wd xs, cs => cs = xs.map E32
  | .ww xs, cs => cs = xs.map E64
  | .is xs, cs => cs = xs.map EI
  | .ss xs, cs => cs = xs.map ES
  | .vs l, cs => LR m w l cs
  | .fn e n f, cs => ∃ css : List (List Value), css.length = n ∧ cs = css.flatten ∧ ∀ j d, css[j]? = some d → d.length = e ∧ CR m w (f j) d
  | .ds sh xs, cs => ∃ css : List (List Value), css.length = xs.length ∧ cs = css.flatten ∧ ∀ (j : Nat) (x : List Value) (y : D), css[j]? = some x → xs[j]? = some y → x.length = sh.cells ∧ DR m w sh y x
def LR (m : Hd) (w : World) : List AV → List Value → Prop
  | [], cs => cs = []
  | a :: l, cs => ∃ c1 c2, cs = c1 ++ c2 ∧ CR m w a c1 ∧ LR m w l c2
end

structure Pres (m : Hd) (w : World) (m' : Hd) (w' : World) : Prop where
  mu : ∀ k v, m k = some v → m' k = some v
  stab : ∀ b, Stable m w b → w'.heap[b]? = w.heap[b]? ∧ Stable m' w' b

theorem Pres.refl (m : Hd) (w : World) : Pres m w m w := ⟨fun _ _ h => h, fun _ h => ⟨rfl, h⟩⟩
theorem Pres.trans {m m' m'' : Hd} {w w' w'' : World} (h : Pres m w m' w') (g : Pres m' w' m'' w'') : Pres m w m'' w'' :=
  ⟨fun k v hk => g.mu k v (h.mu k v hk), fun b hb => ⟨(g.stab b (h.stab b hb).2).1.trans (h.stab b hb).1, (g.stab b (h.stab b hb).2).2⟩⟩

theorem add_block (a : Addr) (n : Nat) : (a.add n).block = a.block := by unfold Addr.add; split <;> rfl

theorem Pres.at_ {m m' : Hd} {w w' : World} (h : Pres m w m' w') {ad : Addr} {ds : List Value} (hs : StableAt m w ad ds) : StableAt m' w' ad ds := by
  obtain ⟨h1, h2⟩ := hs
  obtain ⟨h3, h4⟩ := h.stab _ h1
  refine ⟨h4, fun j x hx => ?_⟩
  rw [← h2 j x hx]
  exact World.cell?_of_block (by rw [add_block]; exact h3)

mutual
theorem DR_mono {m m' : Hd} {w w' : World} (h : Pres m w m' w') : ∀ (sh : Sh) (d : D) (cs : List Value), DR m w sh d cs → DR m' w' sh d cs
  | .i, d, cs, hc => by simpa [DR] using hc
  | .w8, d, cs, hc => by simpa [DR] using hc
  | .w32, d, cs, hc => by simpa [DR] using hc
  | .w64, d, cs, hc => by simpa [DR] using hc
  | .b, d, cs, hc => by simpa [DR] using hc
  | .s, d, cs, hc => by simpa [DR] using hc
  | .l8 n, d, cs, hc => by simpa [DR] using hc
  | .ss, d, cs, hc => by
    simp only [DR] at hc ⊢
    obtain ⟨ad, n, cap, ds, h1, h2, h3, h4, h5⟩ := hc
    exact ⟨ad, n, cap, ds, h1, h2, h3, h4, fun hn => let ⟨a, ha, hs⟩ := h5 hn; ⟨a, ha, h.at_ hs⟩⟩
  | .bs, d, cs, hc => by
    simp only [DR] at hc ⊢
    obtain ⟨ad, n, cap, ds, h1, h2, h3, h4, h5⟩ := hc
    exact ⟨ad, n, cap, ds, h1, h2, h3, h4, fun hn => let ⟨a, ha, hs⟩ := h5 hn; ⟨a, ha, h.at_ hs⟩⟩
  | .t l, d, cs, hc => by simp only [DR] at hc ⊢; exact DRs_mono h l d 0 cs hc
  | .sl sh, d, cs, hc => by
    simp only [DR] at hc ⊢
    obtain ⟨ad, n, cap, ds, h1, ⟨css, g1, g2, g3⟩, h3, h4, h5⟩ := hc
    exact ⟨ad, n, cap, ds, h1, ⟨css, g1, g2, fun j x y hx hy => ⟨(g3 j x y hx hy).1, DR_mono h sh y x (g3 j x y hx hy).2⟩⟩, h3, h4, fun hn => let ⟨a, ha, hs⟩ := h5 hn; ⟨a, ha, h.at_ hs⟩⟩
theorem DRs_mono {m m' : Hd} {w w' : World} (h : Pres m w m' w') : ∀ (l : List Sh) (d : D) (j : Nat) (cs : List Value), DRs m w l d j cs → DRs m' w' l d j cs
  | [], d, j, cs, hc => by simpa [DRs] using hc
  | a :: l, d, j, cs, hc => by
    simp only [DRs] at hc ⊢
    obtain ⟨c1, c2, h1, h2, h3⟩ := hc
    exact ⟨c1, c2, h1, DR_mono h a _ c1 h2, DRs_mono h l d (j + 1) c2 h3⟩
end
mutual
theorem CR_mono {m m' : Hd} {w w' : World} (h : Pres m w m' w') : ∀ (a : AV) (cs : List Value), CR m w a cs → CR m' w' a cs
  | .u, cs, hc => by simpa [CR] using hc
  | .i n, cs, hc => by simpa [CR] using hc
  | .w8 x, cs, hc => by simpa [CR] using hc
  | .w16 x, cs, hc => by simpa [CR] using hc
  | .w32 x, cs, hc => by simpa [CR] using hc
  | .w64 x, cs, hc => by simpa [CR] using hc
  | .b x, cs, hc => by simpa [CR] using hc
  | .kb x, cs, hc => by simpa [CR] using hc
  | .s x, cs, hc => by simpa [CR] using hc
  | .ag n c, cs, hc => by simp only [CR] at hc ⊢; exact ⟨hc.1, RC_mono h c cs hc.2⟩
  | .tup l, cs, hc => by simp [CR] at hc
  | .p k g o, cs, hc => by simp only [CR] at hc ⊢; obtain ⟨g, h1, h2⟩ := hc; exact ⟨g, h.mu _ _ h1, h2⟩
  | .pe k g o e i, cs, hc => by simp only [CR] at hc ⊢; obtain ⟨v, g, h1, h2⟩ := hc; exact ⟨v, g, h.mu _ _ h1, h2⟩
  | .pr a, cs, hc => by simp only [CR] at hc ⊢; obtain ⟨ad, ds, h1, h2, h3⟩ := hc; exact ⟨ad, ds, h1, CR_mono h a ds h2, h.at_ h3⟩
  | .sl k g o e a n, cs, hc => by simp only [CR] at hc ⊢; obtain ⟨v, ad, cap, h1, h2⟩ := hc; exact ⟨v, ad, cap, h.mu _ _ h1, h2⟩
  | .rb e c, cs, hc => by
    simp only [CR] at hc ⊢
    obtain ⟨ad, n, cap, ds, h1, h2, h3, h4, h5⟩ := hc
    exact ⟨ad, n, cap, ds, h1, RC_mono h c ds h2, h3, h4, fun hn => let ⟨a, ha, hs⟩ := h5 hn; ⟨a, ha, h.at_ hs⟩⟩
  | .rw k, cs, hc => by simp only [CR] at hc ⊢; obtain ⟨v, h1, h2⟩ := hc; exact ⟨v, h.mu _ _ h1, h2⟩
  | .nl, cs, hc => by simpa [CR] using hc
  | .pn, cs, hc => by simpa [CR] using hc
  | .cl k, cs, hc => by simp only [CR] at hc ⊢; obtain ⟨v, h1, h2⟩ := hc; exact ⟨v, h.mu _ _ h1, h2⟩
  | .z, cs, hc => by simpa [CR] using hc
  | .mh k, cs, hc => by simp only [CR] at hc ⊢; obtain ⟨v, h1, h2⟩ := hc; exact ⟨v, h.mu _ _ h1, h2⟩
  | .mn, cs, hc => by simpa [CR] using hc
  | .pf k g o e i j c, cs, hc => by simp only [CR] at hc ⊢; obtain ⟨v, g, h1, h2⟩ := hc; exact ⟨v, g, h.mu _ _ h1, h2⟩
  | .fv f l, cs, hc => by simp only [CR] at hc ⊢; obtain ⟨vs, h1, h2⟩ := hc; exact ⟨vs, h1, LR_mono h l vs h2⟩
theorem RC_mono {m m' : Hd} {w w' : World} (h : Pres m w m' w') : ∀ (c : AC) (cs : List Value), RC m w c cs → RC m' w' c cs
  | .bt xs, cs, hc => by simpa [RC] using hc
  | .wh xs, cs, hc => by simpa [RC] using hc
  | .wd xs, cs, hc => by simpa [RC] using hc
  | .ww xs, cs, hc => by simpa [RC] using hc
  | .is xs, cs, hc => by simpa [RC] using hc
  | .ss xs, cs, hc => by simpa [RC] using hc
  | .vs l, cs, hc => by simp only [RC] at hc ⊢; exact LR_mono h l cs hc
  | .fn e n f, cs, hc => by
    simp only [RC] at hc ⊢
    obtain ⟨css, h1, h2, h3⟩ := hc
    exact ⟨css, h1, h2, fun j d hd => ⟨(h3 j d hd).1, CR_mono h (f j) d (h3 j d hd).2⟩⟩
  | .ds sh xs, cs, hc => by
    simp only [RC] at hc ⊢
    obtain ⟨css, h1, h2, h3⟩ := hc
    exact ⟨css, h1, h2, fun j x y hx hy => ⟨(h3 j x y hx hy).1, DR_mono h sh y x (h3 j x y hx hy).2⟩⟩
theorem LR_mono {m m' : Hd} {w w' : World} (h : Pres m w m' w') : ∀ (l : List AV) (cs : List Value), LR m w l cs → LR m' w' l cs
  | [], cs, hc => by simpa [LR] using hc
  | a :: l, cs, hc => by
    simp only [LR] at hc ⊢
    obtain ⟨c1, c2, h1, h2, h3⟩ := hc
    exact ⟨c1, c2, h1, CR_mono h a c1 h2, LR_mono h l c2 h3⟩
end

/-! ## A slot's value -/
mutual
def RV (m : Hd) (w : World) : AV → Value → Prop
  | .u, _ => True
  | .ag n c, v => ∃ cs, v = .agg cs.toArray ∧ cs.length = n ∧ RC m w c cs
  | .tup l, v => ∃ vs, v = .tuple vs.toArray ∧ RVs m w l vs
  | .i n, v => CR m w (.i n) [v]
  | .w8 x, v => CR m w (.w8 x) [v]
  | .w16 x, v => CR m w (.w16 x) [v]
  | .w32 x, v => CR m w (.w32 x) [v]
  | .w64 x, v => CR m w (.w64 x) [v]
  | .b x, v => CR m w (.b x) [v]
  | .kb x, v => CR m w (.kb x) [v]
  | .s x, v => CR m w (.s x) [v]
  | .p k g o, v => CR m w (.p k g o) [v]
  | .pe k g o e i, v => CR m w (.pe k g o e i) [v]
  | .pr a, v => CR m w (.pr a) [v]
  | .sl k g o e a n, v => CR m w (.sl k g o e a n) [v]
  | .rb e c, v => CR m w (.rb e c) [v]
  | .rw k, v => CR m w (.rw k) [v]
  | .nl, v => CR m w .nl [v]
  | .pn, v => CR m w .pn [v]
  | .cl k, v => CR m w (.cl k) [v]
  | .z, v => CR m w .z [v]
  | .mh k, v => CR m w (.mh k) [v]
  | .mn, v => CR m w .mn [v]
  | .fv f l, v => CR m w (.fv f l) [v]
  | .pf k g o e i j c, v => CR m w (.pf k g o e i j c) [v]
def RVs (m : Hd) (w : World) : List AV → List Value → Prop
  | [], vs => vs = []
  | a :: l, vs => ∃ v r, vs = v :: r ∧ RV m w a v ∧ RVs m w l r
end

mutual
theorem RV_mono {m m' : Hd} {w w' : World} (h : Pres m w m' w') : ∀ (a : AV) (v : Value), RV m w a v → RV m' w' a v
  | .u, v, _ => by simp [RV]
  | .ag n c, v, hv => by simp only [RV] at hv ⊢; obtain ⟨cs, h1, h2, h3⟩ := hv; exact ⟨cs, h1, h2, RC_mono h c cs h3⟩
  | .tup l, v, hv => by simp only [RV] at hv ⊢; obtain ⟨vs, h1, h2⟩ := hv; exact ⟨vs, h1, RVs_mono h l vs h2⟩
  | .i n, v, hv => by simp only [RV] at hv ⊢; exact CR_mono h _ _ hv
  | .w8 x, v, hv => by simp only [RV] at hv ⊢; exact CR_mono h _ _ hv
  | .w16 x, v, hv => by simp only [RV] at hv ⊢; exact CR_mono h _ _ hv
  | .w32 x, v, hv => by simp only [RV] at hv ⊢; exact CR_mono h _ _ hv
  | .w64 x, v, hv => by simp only [RV] at hv ⊢; exact CR_mono h _ _ hv
  | .b x, v, hv => by simp only [RV] at hv ⊢; exact CR_mono h _ _ hv
  | .kb x, v, hv => by simp only [RV] at hv ⊢; exact CR_mono h _ _ hv
  | .s x, v, hv => by simp only [RV] at hv ⊢; exact CR_mono h _ _ hv
  | .p k g o, v, hv => by simp only [RV] at hv ⊢; exact CR_mono h _ _ hv
  | .pe k g o e i, v, hv => by simp only [RV] at hv ⊢; exact CR_mono h _ _ hv
  | .pr a, v, hv => by simp only [RV] at hv ⊢; exact CR_mono h _ _ hv
  | .sl k g o e a n, v, hv => by simp only [RV] at hv ⊢; exact CR_mono h _ _ hv
  | .rb e c, v, hv => by simp only [RV] at hv ⊢; exact CR_mono h _ _ hv
  | .rw k, v, hv => by simp only [RV] at hv ⊢; exact CR_mono h _ _ hv
  | .nl, v, hv => by simp only [RV] at hv ⊢; exact CR_mono h _ _ hv
  | .pn, v, hv => by simp only [RV] at hv ⊢; exact CR_mono h _ _ hv
  | .cl k, v, hv => by simp only [RV] at hv ⊢; exact CR_mono h _ _ hv
  | .z, v, hv => by simp only [RV] at hv ⊢; exact CR_mono h _ _ hv
  | .mh k, v, hv => by simp only [RV] at hv ⊢; exact CR_mono h _ _ hv
  | .mn, v, hv => by simp only [RV] at hv ⊢; exact CR_mono h _ _ hv
  | .pf k g o e i j c, v, hv => by simp only [RV] at hv ⊢; exact CR_mono h _ _ hv
  | .fv f l, v, hv => by simp only [RV] at hv ⊢; exact CR_mono h _ _ hv
theorem RVs_mono {m m' : Hd} {w w' : World} (h : Pres m w m' w') : ∀ (l : List AV) (vs : List Value), RVs m w l vs → RVs m' w' l vs
  | [], vs, hv => by simpa [RVs] using hv
  | a :: l, vs, hv => by
    simp only [RVs] at hv ⊢
    obtain ⟨v, r, h1, h2, h3⟩ := hv
    exact ⟨v, r, h1, RV_mono h a v h2, RVs_mono h l r h3⟩
end

/-! ## Blocks of the call's own, and memory -/
abbrev Seg := Nat × AC
inductive AB where
  | dead
  | bk (T : Nat) (segs : List Seg)
  | row (T : Nat) (e : Nat) (c : AC)
  | mp (T : Nat) (kk : KK) (vs : Sh) (M : MD)
  | it (k since : Nat) (seen : List Nat) (last : Nat)
abbrev Mem := List (Nat × AB)

def mlook : Mem → Nat → Option AB
  | [], _ => none
  | (k, a) :: r, t => match Nat.beq k t with
    | true => some a
    | false => mlook r t

def SegsR (m : Hd) (w : World) : List Seg → List Value → Prop
  | [], cs => cs = []
  | (n, c) :: l, cs => ∃ c1 c2, cs = c1 ++ c2 ∧ c1.length = n ∧ RC m w c c1 ∧ SegsR m w l c2
theorem SegsR_mono {m m' : Hd} {w w' : World} (h : Pres m w m' w') : ∀ (l : List Seg) (cs : List Value), SegsR m w l cs → SegsR m' w' l cs
  | [], cs, hc => by simpa [SegsR] using hc
  | (n, c) :: l, cs, hc => by
    simp only [SegsR] at hc ⊢
    obtain ⟨c1, c2, h1, h2, h3, h4⟩ := hc
    exact ⟨c1, c2, h1, h2, RC_mono h c c1 h3, SegsR_mono h l c2 h4⟩

/-- no cell of a block of this size is frozen -/
def Thawed (fz : Nat × Nat) (size : Nat) : Prop := fz.1 = fz.2 ∨ size ≤ fz.1
theorem Thawed.no {fz : Nat × Nat} {size j : Nat} (h : Thawed fz size) (hj : j < size) : ¬ (fz.1 ≤ j ∧ j < fz.2) := by
  rcases h with h | h <;> omega
theorem Thawed.len {fz : Nat × Nat} {a b : Nat} (h : Thawed fz a) (e : b ≤ a) : Thawed fz b := by
  rcases h with h | h
  · exact .inl h
  · exact .inr (Nat.le_trans e h)

/-- a slice value that owns its array from the array's head on -/
def OwnRow (w : World) (T e : Nat) (v : Value) (n : Nat) (cs : List Value) : Prop :=
  cs.length = n * e ∧
  ((∃ ad, v = .slice ad 0 0 ∧ n = 0) ∨
   ∃ g o cap cur fz, v = .slice (some ⟨g, o, none⟩) n cap ∧ w.heap[g]? = some (.cells cur T fz) ∧ Thawed fz cur.size ∧ n ≤ cap ∧ 0 < cap ∧ cap ≤ maxLen ∧ o + cap * e ≤ cur.size ∧ (cur.toList.drop o).take (n * e) = cs)
/-- a key -/
def KR : KK → D → Value → Prop
  | .i, d, v => ∃ n, d = .i n ∧ v = .int .i64 n
  | .s, d, v => ∃ x, d = .s x ∧ v = .string ⟨x.toArray⟩
  | .l8 n, d, v => ∃ x : List UInt8, d = .l8 x ∧ x.length = n ∧ v = .agg (x.map E8).toArray
/-- several cells, or one -/
def Sh.isAgg : Sh → Bool
  | .l8 _ => true
  | .t _ => true
  | _ => false
/-- data as a value -/
def DV (m : Hd) (w : World) (sh : Sh) (d : D) (v : Value) : Prop := ∃ cs, DR m w sh d cs ∧ match sh.isAgg with
  | true => v = .agg cs.toArray
  | false => cs = [v]
def ER (m : Hd) (w : World) (kk : KK) (vs : Sh) : List (Nat × D × D) → List MapEntry → Prop
  | [], es => es = []
  | (b, k, d) :: l, es => ∃ e r, es = e :: r ∧ e.born = b ∧ KR kk k e.key ∧ DV m w vs d e.val ∧ ER m w kk vs l r
def MD.ok (M : MD) : Prop := (M.es.map (·.2.1)).Nodup ∧ (M.es.map (·.1)).Nodup ∧ ∀ e ∈ M.es, e.1 < M.clock
theorem DV_mono {m m' : Hd} {w w' : World} (h : Pres m w m' w') {sh : Sh} {d : D} {v : Value} (hd : DV m w sh d v) : DV m' w' sh d v :=
  let ⟨cs, h1, h2⟩ := hd; ⟨cs, DR_mono h sh d cs h1, h2⟩
theorem ER_mono {m m' : Hd} {w w' : World} (h : Pres m w m' w') {kk : KK} {vs : Sh} : ∀ (l : List (Nat × D × D)) (es : List MapEntry), ER m w kk vs l es → ER m' w' kk vs l es
  | [], es, he => he
  | (b, k, d) :: l, es, he => by
    obtain ⟨e, r, h1, h2, h3, h4, h5⟩ := he
    exact ⟨e, r, h1, h2, h3, DV_mono h h4, ER_mono h l r h5⟩

def ABR (m : Hd) (w : World) (k : Nat) : AB → Prop
  | .dead => True
  | .bk T segs => ∃ g cs fz, m k = some (.pointer (some ⟨g, 0, none⟩)) ∧ w.heap[g]? = some (.cells cs T fz) ∧ Thawed fz cs.size ∧ SegsR m w segs cs.toList
  | .row T e c => ∃ v n cs, m k = some v ∧ OwnRow w T e v n cs ∧ RC m w c cs
  | .mp T kk vs M => ∃ r es, m k = some (.map (some r)) ∧ w.heap[r]? = some (.map es M.clock) ∧ ER m w kk vs M.es es.toList ∧ M.ok
  | .it k0 since seen last => ∃ r rm, m k = some (.pointer (some ⟨r, 0, none⟩)) ∧ m k0 = some (.map (some rm)) ∧ w.heap[r]? = some (.mapIter (some rm) since seen.toArray last)

def AB.live : AB → Bool
  | .dead => false
  | _ => true

structure MemR (m : Hd) (w : World) (me : Mem) : Prop where
  at_ : ∀ k ab, mlook me k = some ab → ABR m w k ab
  apart : ∀ k k' ab ab' v v' b, mlook me k = some ab → mlook me k' = some ab' → ab.live = true → ab'.live = true → k ≠ k' → m k = some v → m k' = some v' → blk v = some b → blk v' ≠ some b
  pubs : ∀ b, m.pub b → b < w.heap.size
  live : ∀ k ab v b, mlook me k = some ab → ab.live = true → m k = some v → blk v = some b → ¬ m.pub b
  okl : ∀ k ab v b, mlook me k = some ab → ab.live = true → m k = some v → blk v = some b → m.ok b
  okn : ∀ b, w.heap.size ≤ b → m.ok b

end Go.Vc
set_option linter.unusedVariables false
namespace Go.Vc
open Go Go.RowKit

/-! ## The plain functions, behind one name: 'cbv' does not look into a variable -/
structure Fs where
  addi : Int → Int → Int
  subi : Int → Int → Int
  muli : Int → Int → Int
  quoi : Int → Int → Int
  remi : Int → Int → Int
  negi : Int → Int
  bits : BinOp → Int → Int → Int
  shli : Int → Int → Int
  shri : Int → Int → Int
  mini : Int → Int → Int
  maxi : Int → Int → Int
  lti : Int → Int → Bool
  lei : Int → Int → Bool
  eqi : Int → Int → Bool
  wrapi : Int → Int
  add8 : UInt8 → UInt8 → UInt8
  sub8 : UInt8 → UInt8 → UInt8
  mul8 : UInt8 → UInt8 → UInt8
  and8 : UInt8 → UInt8 → UInt8
  or8 : UInt8 → UInt8 → UInt8
  xor8 : UInt8 → UInt8 → UInt8
  quo8 : UInt8 → UInt8 → UInt8
  rem8 : UInt8 → UInt8 → UInt8
  andn8 : UInt8 → UInt8 → UInt8
  not8 : UInt8 → UInt8
  neg8 : UInt8 → UInt8
  shl8 : UInt8 → Int → UInt8
  shr8 : UInt8 → Int → UInt8
  lt8 : UInt8 → UInt8 → Bool
  le8 : UInt8 → UInt8 → Bool
  eq8 : UInt8 → UInt8 → Bool
  min8 : UInt8 → UInt8 → UInt8
  max8 : UInt8 → UInt8 → UInt8
  ofI8 : Int → UInt8
  toI8 : UInt8 → Int
  add16 : UInt16 → UInt16 → UInt16
  sub16 : UInt16 → UInt16 → UInt16
  mul16 : UInt16 → UInt16 → UInt16
  and16 : UInt16 → UInt16 → UInt16
  or16 : UInt16 → UInt16 → UInt16
  xor16 : UInt16 → UInt16 → UInt16
  quo16 : UInt16 → UInt16 → UInt16
  rem16 : UInt16 → UInt16 → UInt16
  andn16 : UInt16 → UInt16 → UInt16
  not16 : UInt16 → UInt16
  neg16 : UInt16 → UInt16
  shl16 : UInt16 → Int → UInt16
  shr16 : UInt16 → Int → UInt16
  lt16 : UInt16 → UInt16 → Bool
  le16 : UInt16 → UInt16 → Bool
  eq16 : UInt16 → UInt16 → Bool
  min16 : UInt16 → UInt16 → UInt16
  max16 : UInt16 → UInt16 → UInt16
  ofI16 : Int → UInt16
  toI16 : UInt16 → Int
  add32 : UInt32 → UInt32 → UInt32
  sub32 : UInt32 → UInt32 → UInt32
  mul32 : UInt32 → UInt32 → UInt32
  and32 : UInt32 → UInt32 → UInt32
  or32 : UInt32 → UInt32 → UInt32
  xor32 : UInt32 → UInt32 → UInt32
  quo32 : UInt32 → UInt32 → UInt32
  rem32 : UInt32 → UInt32 → UInt32
  andn32 : UInt32 → UInt32 → UInt32
  not32 : UInt32 → UInt32
  neg32 : UInt32 → UInt32
  shl32 : UInt32 → Int → UInt32
  shr32 : UInt32 → Int → UInt32
  lt32 : UInt32 → UInt32 → Bool
  le32 : UInt32 → UInt32 → Bool
  eq32 : UInt32 → UInt32 → Bool
  min32 : UInt32 → UInt32 → UInt32
  max32 : UInt32 → UInt32 → UInt32
  ofI32 : Int → UInt32
  toI32 : UInt32 → Int
  add64 : UInt64 → UInt64 → UInt64
  sub64 : UInt64 → UInt64 → UInt64
  mul64 : UInt64 → UInt64 → UInt64
  and64 : UInt64 → UInt64 → UInt64
  or64 : UInt64 → UInt64 → UInt64
  xor64 : UInt64 → UInt64 → UInt64
  quo64 : UInt64 → UInt64 → UInt64
  rem64 : UInt64 → UInt64 → UInt64
  andn64 : UInt64 → UInt64 → UInt64
  not64 : UInt64 → UInt64
  neg64 : UInt64 → UInt64
  shl64 : UInt64 → Int → UInt64
  shr64 : UInt64 → Int → UInt64
  lt64 : UInt64 → UInt64 → Bool
  le64 : UInt64 → UInt64 → Bool
  eq64 : UInt64 → UInt64 → Bool
  min64 : UInt64 → UInt64 → UInt64
  max64 : UInt64 → UInt64 → UInt64
  ofI64 : Int → UInt64
  toI64 : UInt64 → Int
  notb : Bool → Bool
  andb : Bool → Bool → Bool
  eqb : Bool → Bool → Bool
  cond : Bool → Bool → Bool → Bool
  nat : Int → Nat
  int : Nat → Int
  addn : Nat → Nat → Nat
  subn : Nat → Nat → Nat
  muln : Nat → Nat → Nat
  minn : Nat → Nat → Nat
  pIn : Int → Nat → Prop
  pLe : Nat → Nat → Prop
  pLt : Nat → Nat → Prop
  p0 : Int → Prop
  pLeI : Int → Int → Prop
  pNe : Int → Prop
  pCap : Nat → Nat → Prop
  pMk : Int → Nat → Prop
  ofS : ByteArray → List UInt8
  pB : Bool → Bool → Prop
  nint : Nat → Int
  pNeN : Nat → Prop
  ltS : List UInt8 → List UInt8 → Bool
  lenB : List UInt8 → Nat
  getB : List UInt8 → Nat → UInt8
  setB : List UInt8 → Nat → UInt8 → List UInt8
  cutB : List UInt8 → Nat → Nat → List UInt8
  appB : List UInt8 → List UInt8 → List UInt8
  repB : Nat → List UInt8
  eqB : List UInt8 → List UInt8 → Bool
  splB : List UInt8 → Nat → List UInt8 → List UInt8
  lenH : List UInt16 → Nat
  getH : List UInt16 → Nat → UInt16
  setH : List UInt16 → Nat → UInt16 → List UInt16
  cutH : List UInt16 → Nat → Nat → List UInt16
  appH : List UInt16 → List UInt16 → List UInt16
  repH : Nat → List UInt16
  eqH : List UInt16 → List UInt16 → Bool
  splH : List UInt16 → Nat → List UInt16 → List UInt16
  lenW : List UInt32 → Nat
  getW : List UInt32 → Nat → UInt32
  setW : List UInt32 → Nat → UInt32 → List UInt32
  cutW : List UInt32 → Nat → Nat → List UInt32
  appW : List UInt32 → List UInt32 → List UInt32
  repW : Nat → List UInt32
  eqW : List UInt32 → List UInt32 → Bool
  splW : List UInt32 → Nat → List UInt32 → List UInt32
  lenQ : List UInt64 → Nat
  getQ : List UInt64 → Nat → UInt64
  setQ : List UInt64 → Nat → UInt64 → List UInt64
  cutQ : List UInt64 → Nat → Nat → List UInt64
  appQ : List UInt64 → List UInt64 → List UInt64
  repQ : Nat → List UInt64
  eqQ : List UInt64 → List UInt64 → Bool
  splQ : List UInt64 → Nat → List UInt64 → List UInt64
  lenI : List Int → Nat
  getI : List Int → Nat → Int
  setI : List Int → Nat → Int → List Int
  cutI : List Int → Nat → Nat → List Int
  appI : List Int → List Int → List Int
  repI : Nat → List Int
  eqI : List Int → List Int → Bool
  splI : List Int → Nat → List Int → List Int
  lenS : List (List UInt8) → Nat
  getS : List (List UInt8) → Nat → (List UInt8)
  setS : List (List UInt8) → Nat → (List UInt8) → List (List UInt8)
  cutS : List (List UInt8) → Nat → Nat → List (List UInt8)
  appS : List (List UInt8) → List (List UInt8) → List (List UInt8)
  repS : Nat → List (List UInt8)
  eqS : List (List UInt8) → List (List UInt8) → Bool
  splS : List (List UInt8) → Nat → List (List UInt8) → List (List UInt8)
  dI : D → Int
  d8 : D → UInt8
  d32 : D → UInt32
  d64 : D → UInt64
  dB : D → Bool
  dS : D → List UInt8
  dL8 : D → List UInt8
  dSS : D → List (List UInt8)
  dT : D → List D
  dF : D → Nat → D
  lenD : List D → Nat
  getD : List D → Nat → D
  setD : List D → Nat → D → List D
  cutD : List D → Nat → Nat → List D
  appD : List D → List D → List D
  repD : Nat → D → List D
  splD : List D → Nat → List D → List D
  dz : Sh → D
  mget : MD → D → D → D
  mhas : MD → D → Bool
  mset : MD → D → D → MD
  mdel : MD → D → MD
  mlen : MD → Nat
  mclr : MD → MD
  pEqN : Nat → Nat → Prop
  pPos : Nat → Prop
  mclk : MD → Nat
  mkeyB : MD → Nat → D
  mvalB : MD → Nat → D
  pLeft : MD → List Nat → Nat → Prop
  pNoLeft : MD → List Nat → Prop
  pRng : MD → Nat → Nat → Prop
  appN : List Nat → Nat → List Nat
  backN : List Nat → Nat
  pEnt : MD → Nat → List Nat → Nat → Prop
  pOk : MD → Prop
  keysI : MD → List Int
  keysS : MD → List (List UInt8)
  pKeyI : MD → Prop
  pKeyS : MD → Prop

mutual
/-- nought -/
def Sh.zero : Sh → D
  | .i => .i 0
  | .w8 => .w8 0
  | .w32 => .w32 0
  | .w64 => .w64 0
  | .b => .b false
  | .s => .s []
  | .l8 n => .l8 (List.replicate n 0)
  | .ss => .ss []
  | .bs => .l8 []
  | .t l => .t (Sh.zeros l)
  | .sl _ => .t []
def Sh.zeros : List Sh → List D
  | [] => []
  | a :: l => a.zero :: Sh.zeros l
end
mutual
def D.beq : D → D → Bool
  | .i x, .i y => x == y
  | .w8 x, .w8 y => x == y
  | .w32 x, .w32 y => x == y
  | .w64 x, .w64 y => x == y
  | .b x, .b y => x == y
  | .s x, .s y => x == y
  | .l8 x, .l8 y => x == y
  | .ss x, .ss y => x == y
  | .t x, .t y => D.beqs x y
  | _, _ => false
def D.beqs : List D → List D → Bool
  | [], [] => true
  | x :: l, y :: r => D.beq x y && D.beqs l r
  | _, _ => false
end
mutual
theorem D.beq_eq : ∀ (x y : D), (D.beq x y = true) ↔ x = y
  | .i x, y => by cases y <;> simp [D.beq]
  | .w8 x, y => by cases y <;> simp [D.beq]
  | .w32 x, y => by cases y <;> simp [D.beq]
  | .w64 x, y => by cases y <;> simp [D.beq]
  | .b x, y => by cases y <;> simp [D.beq]
  | .s x, y => by cases y <;> simp [D.beq]
  | .l8 x, y => by cases y <;> simp [D.beq]
  | .ss x, y => by cases y <;> simp [D.beq]
  | .t x, y => by cases y <;> simp [D.beq, D.beqs_eq]
theorem D.beqs_eq : ∀ (x y : List D), (D.beqs x y = true) ↔ x = y
  | [], y => by cases y <;> simp [D.beqs]
  | x :: l, y => by cases y <;> simp [D.beqs, D.beq_eq x, D.beqs_eq l]
end
instance : DecidableEq D := fun a b => decidable_of_iff _ (D.beq_eq a b)
def MD.find (l : List (Nat × D × D)) (k : D) : Option D := match l with
  | [] => none
  | (_, k', d) :: r => if k' = k then some d else MD.find r k
def MD.get (M : MD) (k z : D) : D := (MD.find M.es k).getD z
def MD.has (M : MD) (k : D) : Bool := (MD.find M.es k).isSome
def MD.upd (l : List (Nat × D × D)) (k d : D) : List (Nat × D × D) := match l with
  | [] => []
  | (b, k', d') :: r => if k' = k then (b, k', d) :: r else (b, k', d') :: MD.upd r k d
def MD.set (M : MD) (k d : D) : MD := if M.has k then ⟨MD.upd M.es k d, M.clock⟩ else ⟨M.es ++ [(M.clock, k, d)], M.clock + 1⟩
def MD.rem (l : List (Nat × D × D)) (k : D) : List (Nat × D × D) := match l with
  | [] => []
  | (b, k', d') :: r => if k' = k then r else (b, k', d') :: MD.rem r k
def MD.del (M : MD) (k : D) : MD := ⟨MD.rem M.es k, M.clock⟩
/-- the entry of a stamp -/
def MD.atB (l : List (Nat × D × D)) (b : Nat) : Option (D × D) := match l with
  | [] => none
  | (b', k, d) :: r => if b' = b then some (k, d) else MD.atB r b
def MD.keyB (M : MD) (b : Nat) : D := ((MD.atB M.es b).getD (D.no, D.no)).1
def MD.valB (M : MD) (b : Nat) : D := ((MD.atB M.es b).getD (D.no, D.no)).2
def MD.left (M : MD) (l : List Nat) (b : Nat) : Prop := b ∈ M.es.map (·.1) ∧ b ∉ l
def MD.noLeft (M : MD) (l : List Nat) : Prop := ∀ b ∈ M.es.map (·.1), b ∈ l
def MD.entOk (M : MD) (s : Nat) (seen : List Nat) (l : Nat) : Prop := M.clock = s ∧ l = s ∧ seen ≠ [] ∧ seen.getLastD 0 ∈ M.es.map (·.1)
/-- the keys in order -/
def MD.keysI (M : MD) : List Int := (M.es.map fun e => e.2.1.gi).mergeSort fun x y => decide (x ≤ y)
def MD.keysS (M : MD) : List (List UInt8) := (M.es.map fun e => e.2.1.gs).mergeSort fun x y => decide (x ≤ y)
def MD.keyOkI (M : MD) : Prop := M.es.length ≤ 1000000 ∧ ∀ e ∈ M.es, -9223372036854775808 ≤ e.2.1.gi ∧ e.2.1.gi ≤ 9223372036854775807
def MD.keyOkS (M : MD) : Prop := M.es.length ≤ 1000000 ∧ ∀ e ∈ M.es, e.2.1.gs.length ≤ 1000000
/-- bit operations on int -/
def ibits (o : BinOp) (a b : Int) : Int :=
  match o with
  | .and => IntKind.i64.wrap ((BitVec.ofInt 64 a &&& BitVec.ofInt 64 b).toNat)
  | .or => IntKind.i64.wrap ((BitVec.ofInt 64 a ||| BitVec.ofInt 64 b).toNat)
  | .xor => IntKind.i64.wrap ((BitVec.ofInt 64 a ^^^ BitVec.ofInt 64 b).toNat)
  | .andNot => IntKind.i64.wrap ((BitVec.ofInt 64 a &&& ~~~BitVec.ofInt 64 b).toNat)
  | _ => 0
def real : Fs where
  addi := fun a b => IntKind.i64.wrap (a + b)
  subi := fun a b => IntKind.i64.wrap (a - b)
  muli := fun a b => IntKind.i64.wrap (a * b)
  quoi := fun a b => IntKind.i64.wrap (a.tdiv b)
  remi := fun a b => a.tmod b
  negi := fun a => IntKind.i64.wrap (0 - a)
  bits := fun o a b => ibits o a b
  shli := fun a s => IntKind.i64.wrap (a * 2 ^ (min s.toNat 64))
  shri := fun a s => a.fdiv (2 ^ (min s.toNat 64))
  mini := fun x y => if y < x then y else x
  maxi := fun x y => if y > x then y else x
  lti := fun a b => decide (a < b)
  lei := fun a b => decide (a ≤ b)
  eqi := fun a b => a == b
  wrapi := fun a => IntKind.i64.wrap a
  add8 := fun a b => a + b
  sub8 := fun a b => a - b
  mul8 := fun a b => a * b
  and8 := fun a b => a &&& b
  or8 := fun a b => a ||| b
  xor8 := fun a b => a ^^^ b
  quo8 := fun a b => a / b
  rem8 := fun a b => a % b
  andn8 := fun a b => a &&& ~~~b
  not8 := fun a => ~~~a
  neg8 := fun a => 0 - a
  shl8 := fun a s => UInt8.ofNat (a.toNat * 2 ^ (min s.toNat 8))
  shr8 := fun a s => UInt8.ofNat (a.toNat / 2 ^ (min s.toNat 8))
  lt8 := fun a b => decide (a.toNat < b.toNat)
  le8 := fun a b => decide (a.toNat ≤ b.toNat)
  eq8 := fun a b => a == b
  min8 := fun x y => if y.toNat < x.toNat then y else x
  max8 := fun x y => if y.toNat > x.toNat then y else x
  ofI8 := fun a => UInt8.ofNat (a % 2 ^ 8).toNat
  toI8 := fun a => (a.toNat : Int)
  add16 := fun a b => a + b
  sub16 := fun a b => a - b
  mul16 := fun a b => a * b
  and16 := fun a b => a &&& b
  or16 := fun a b => a ||| b
  xor16 := fun a b => a ^^^ b
  quo16 := fun a b => a / b
  rem16 := fun a b => a % b
  andn16 := fun a b => a &&& ~~~b
  not16 := fun a => ~~~a
  neg16 := fun a => 0 - a
  shl16 := fun a s => UInt16.ofNat (a.toNat * 2 ^ (min s.toNat 16))
  shr16 := fun a s => UInt16.ofNat (a.toNat / 2 ^ (min s.toNat 16))
  lt16 := fun a b => decide (a.toNat < b.toNat)
  le16 := fun a b => decide (a.toNat ≤ b.toNat)
  eq16 := fun a b => a == b
  min16 := fun x y => if y.toNat < x.toNat then y else x
  max16 := fun x y => if y.toNat > x.toNat then y else x
  ofI16 := fun a => UInt16.ofNat (a % 2 ^ 16).toNat
  toI16 := fun a => (a.toNat : Int)
  add32 := fun a b => a + b
  sub32 := fun a b => a - b
  mul32 := fun a b => a * b
  and32 := fun a b => a &&& b
  or32 := fun a b => a ||| b
  xor32 := fun a b => a ^^^ b
  quo32 := fun a b => a / b
  rem32 := fun a b => a % b
  andn32 := fun a b => a &&& ~~~b
  not32 := fun a => ~~~a
  neg32 := fun a => 0 - a
  shl32 := fun a s => UInt32.ofNat (a.toNat * 2 ^ (min s.toNat 32))
  shr32 := fun a s => UInt32.ofNat (a.toNat / 2 ^ (min s.toNat 32))
  lt32 := fun a b => decide (a.toNat < b.toNat)
  le32 := fun a b => decide (a.toNat ≤ b.toNat)
  eq32 := fun a b => a == b
  min32 := fun x y => if y.toNat < x.toNat then y else x
  max32 := fun x y => if y.toNat > x.toNat then y else x
  ofI32 := fun a => UInt32.ofNat (a % 2 ^ 32).toNat
  toI32 := fun a => (a.toNat : Int)
  add64 := fun a b => a + b
  sub64 := fun a b => a - b
  mul64 := fun a b => a * b
  and64 := fun a b => a &&& b
  or64 := fun a b => a ||| b
  xor64 := fun a b => a ^^^ b
  quo64 := fun a b => a / b
  rem64 := fun a b => a % b
  andn64 := fun a b => a &&& ~~~b
  not64 := fun a => ~~~a
  neg64 := fun a => 0 - a
  shl64 := fun a s => UInt64.ofNat (a.toNat * 2 ^ (min s.toNat 64))
  shr64 := fun a s => UInt64.ofNat (a.toNat / 2 ^ (min s.toNat 64))
  lt64 := fun a b => decide (a.toNat < b.toNat)
  le64 := fun a b => decide (a.toNat ≤ b.toNat)
  eq64 := fun a b => a == b
  min64 := fun x y => if y.toNat < x.toNat then y else x
  max64 := fun x y => if y.toNat > x.toNat then y else x
  ofI64 := fun a => UInt64.ofNat (a % 2 ^ 64).toNat
  toI64 := fun a => (a.toNat : Int)
  notb := fun a => !a
  andb := fun a b => a && b
  eqb := fun a b => a == b
  cond := fun c a b => cond c a b
  nat := Int.toNat
  int := fun n => (n : Int)
  addn := fun a b => a + b
  subn := fun a b => a - b
  muln := fun a b => a * b
  minn := fun a b => min a b
  pIn := fun i n => 0 ≤ i ∧ i < (n : Int)
  pLe := fun a b => a ≤ b
  pLt := fun a b => a < b
  p0 := fun a => 0 ≤ a
  pLeI := fun a b => a ≤ b
  pNe := fun a => a ≠ 0
  pCap := fun n b => n * b ≤ 140737488355328 ∧ n ≤ 4611686018427387904
  pMk := fun n b => 0 ≤ n ∧ n * (b : Int) ≤ 281474976710656 ∧ n ≤ 4611686018427387904
  ofS := fun s => s.data.toList
  pB := fun a b => a = b
  nint := fun n => Int.negSucc n
  pNeN := fun a => a ≠ 0
  ltS := fun a b => Op.bytesLess a b
  lenB := List.length
  getB := fun xs i => xs.getD i 0
  setB := fun xs i x => xs.set i x
  cutB := fun xs a n => (xs.drop a).take n
  appB := fun xs ys => xs ++ ys
  repB := fun n => List.replicate n 0
  eqB := fun a b => a == b
  splB := fun xs a ys => xs.take a ++ ys ++ xs.drop (a + ys.length)
  lenH := List.length
  getH := fun xs i => xs.getD i 0
  setH := fun xs i x => xs.set i x
  cutH := fun xs a n => (xs.drop a).take n
  appH := fun xs ys => xs ++ ys
  repH := fun n => List.replicate n 0
  eqH := fun a b => a == b
  splH := fun xs a ys => xs.take a ++ ys ++ xs.drop (a + ys.length)
  lenW := List.length
  getW := fun xs i => xs.getD i 0
  setW := fun xs i x => xs.set i x
  cutW := fun xs a n => (xs.drop a).take n
  appW := fun xs ys => xs ++ ys
  repW := fun n => List.replicate n 0
  eqW := fun a b => a == b
  splW := fun xs a ys => xs.take a ++ ys ++ xs.drop (a + ys.length)
  lenQ := List.length
  getQ := fun xs i => xs.getD i 0
  setQ := fun xs i x => xs.set i x
  cutQ := fun xs a n => (xs.drop a).take n
  appQ := fun xs ys => xs ++ ys
  repQ := fun n => List.replicate n 0
  eqQ := fun a b => a == b
  splQ := fun xs a ys => xs.take a ++ ys ++ xs.drop (a + ys.length)
  lenI := List.length
  getI := fun xs i => xs.getD i 0
  setI := fun xs i x => xs.set i x
  cutI := fun xs a n => (xs.drop a).take n
  appI := fun xs ys => xs ++ ys
  repI := fun n => List.replicate n 0
  eqI := fun a b => a == b
  splI := fun xs a ys => xs.take a ++ ys ++ xs.drop (a + ys.length)
  lenS := List.length
  getS := fun xs i => xs.getD i []
  setS := fun xs i x => xs.set i x
  cutS := fun xs a n => (xs.drop a).take n
  appS := fun xs ys => xs ++ ys
  repS := fun n => List.replicate n []
  eqS := fun a b => a == b
  splS := fun xs a ys => xs.take a ++ ys ++ xs.drop (a + ys.length)
  dI := D.gi
  d8 := D.g8
  d32 := D.g32
  d64 := D.g64
  dB := D.gb
  dS := D.gs
  dL8 := D.gl8
  dSS := D.gss
  dT := D.gt
  dF := D.fld
  lenD := List.length
  getD := fun xs i => xs.getD i D.no
  setD := fun xs i x => xs.set i x
  cutD := fun xs a n => (xs.drop a).take n
  appD := fun xs ys => xs ++ ys
  repD := fun n d => List.replicate n d
  splD := fun xs a ys => xs.take a ++ ys ++ xs.drop (a + ys.length)
  dz := Sh.zero
  mget := MD.get
  mhas := MD.has
  mset := MD.set
  mdel := MD.del
  mlen := fun M => M.es.length
  mclr := fun M => ⟨[], M.clock⟩
  pEqN := fun a b => a = b
  pPos := fun a => 0 < a
  mclk := fun M => M.clock
  mkeyB := MD.keyB
  mvalB := MD.valB
  pLeft := MD.left
  pNoLeft := MD.noLeft
  pRng := fun M s l => M.clock = s ∧ l = s
  appN := fun l b => l ++ [b]
  backN := fun l => l.getLastD 0
  pEnt := MD.entOk
  pOk := MD.ok
  keysI := MD.keysI
  keysS := MD.keysS
  pKeyI := MD.keyOkI
  pKeyS := MD.keyOkS

/-! ## Data as values, and back -/
mutual
def Sh.beq : Sh → Sh → Bool
  | .i, .i => true
  | .w8, .w8 => true
  | .w32, .w32 => true
  | .w64, .w64 => true
  | .b, .b => true
  | .s, .s => true
  | .l8 n, .l8 m => Nat.beq n m
  | .ss, .ss => true
  | .bs, .bs => true
  | .t x, .t y => Sh.beqs x y
  | .sl x, .sl y => Sh.beq x y
  | _, _ => false
def Sh.beqs : List Sh → List Sh → Bool
  | [], [] => true
  | x :: l, y :: r => match Sh.beq x y with
    | true => Sh.beqs l r
    | false => false
  | _, _ => false
end
mutual
theorem Sh.beq_eq : ∀ (x y : Sh), Sh.beq x y = true → x = y
  | .i, y, h => by cases y <;> first | rfl | (simp [Sh.beq] at h)
  | .w8, y, h => by cases y <;> first | rfl | (simp [Sh.beq] at h)
  | .w32, y, h => by cases y <;> first | rfl | (simp [Sh.beq] at h)
  | .w64, y, h => by cases y <;> first | rfl | (simp [Sh.beq] at h)
  | .b, y, h => by cases y <;> first | rfl | (simp [Sh.beq] at h)
  | .s, y, h => by cases y <;> first | rfl | (simp [Sh.beq] at h)
  | .l8 n, y, h => by
    cases y <;> simp only [Sh.beq, Bool.false_eq_true] at h
    rw [Nat.eq_of_beq_eq_true h]
  | .ss, y, h => by cases y <;> first | rfl | (simp [Sh.beq] at h)
  | .bs, y, h => by cases y <;> first | rfl | (simp [Sh.beq] at h)
  | .t l, y, h => by
    cases y <;> simp only [Sh.beq, Bool.false_eq_true] at h
    rw [Sh.beqs_eq l _ h]
  | .sl x, y, h => by
    cases y <;> simp only [Sh.beq, Bool.false_eq_true] at h
    rw [Sh.beq_eq x _ h]
theorem Sh.beqs_eq : ∀ (x y : List Sh), Sh.beqs x y = true → x = y
  | [], y, h => by cases y <;> first | rfl | (simp [Sh.beqs] at h)
  | x :: l, y, h => by
    cases y with
    | nil => simp [Sh.beqs] at h
    | cons y r =>
      simp only [Sh.beqs] at h
      split at h
      · rename_i ha
        rw [Sh.beq_eq x y ha, Sh.beqs_eq l r h]
      · cases h
end
mutual
def Sh.av (F : Fs) : Sh → D → AV
  | .i, d => .i (F.dI d)
  | .w8, d => .w8 (F.d8 d)
  | .w32, d => .w32 (F.d32 d)
  | .w64, d => .w64 (F.d64 d)
  | .b, d => .b (F.dB d)
  | .s, d => .s (F.dS d)
  | .l8 n, d => .ag n (.bt (F.dL8 d))
  | .ss, d => .rb 1 (.ss (F.dSS d))
  | .bs, d => .rb 1 (.bt (F.dL8 d))
  | .t l, d => .ag (Sh.lcells l) (.vs (Sh.avs F l d 0))
  | .sl sh, d => .rb sh.cells (.ds sh (F.dT d))
def Sh.avs (F : Fs) : List Sh → D → Nat → List AV
  | [], _, _ => []
  | a :: l, d, j => a.av F (F.dF d j) :: Sh.avs F l d (Nat.succ j)
end
def dofL8 (n : Nat) : AV → Option D
  | .ag k (.bt xs) => match Nat.beq n k with
    | true => some (.l8 xs)
    | false => none
  | _ => none
def dofSS : AV → Option D
  | .rb 1 (.ss xs) => some (.ss xs)
  | .nl => some (.ss [])
  | .z => some (.ss [])
  | _ => none
def dofBS : AV → Option D
  | .rb 1 (.bt xs) => some (.l8 xs)
  | .nl => some (.l8 [])
  | .z => some (.l8 [])
  | _ => none
def dofSL (sh : Sh) : AV → Option D
  | .rb e (.ds sh' xs) => match Sh.beq sh sh', Nat.beq e sh.cells with
    | true, true => some (.t xs)
    | _, _ => none
  | .nl => some (.t [])
  | .z => some (.t [])
  | _ => none
def agvs : AV → Option (List AV)
  | .ag _ (.vs as) => some as
  | _ => none
mutual
def dof : Sh → AV → Option D
  | .i, .i n => some (.i n)
  | .w8, .w8 x => some (.w8 x)
  | .w32, .w32 x => some (.w32 x)
  | .w64, .w64 x => some (.w64 x)
  | .b, .b x => some (.b x)
  | .b, .kb x => some (.b x)
  | .s, .s x => some (.s x)
  | .l8 n, a => dofL8 n a
  | .ss, a => dofSS a
  | .bs, a => dofBS a
  | .t l, a => match agvs a with
    | some as => match dofs l as with
      | some ds => some (.t ds)
      | none => none
    | none => none
  | .sl sh, a => dofSL sh a
  | _, _ => none
def dofs : List Sh → List AV → Option (List D)
  | [], [] => some []
  | a :: l, x :: xs => match dof a x, dofs l xs with
    | some d, some ds => some (d :: ds)
    | _, _ => none
  | _, _ => none
end
def KK.av (F : Fs) : KK → D → AV
  | .i, d => .i (F.dI d)
  | .s, d => .s (F.dS d)
  | .l8 n, d => .ag n (.bt (F.dL8 d))
def keyOfV : KK → AV → Option D
  | .i, .i n => some (.i n)
  | .s, .s x => some (.s x)
  | .l8 n, .ag k (.bt xs) => match Nat.beq n k with
    | true => some (.l8 xs)
    | false => none
  | _, _ => none

/-! ## Contents -/
/-- no aggregate, no tuple: one cell -/
def AV.one : AV → Bool
  | .ag _ _ => false
  | .tup _ => false
  | .u => false
  | _ => true
def llen : List AV → Nat
  | [] => 0
  | _ :: r => Nat.succ (llen r)
def lget : List AV → Nat → AV
  | [], _ => .u
  | a :: _, 0 => a
  | _ :: r, i + 1 => lget r i
def lset : List AV → Nat → AV → List AV
  | [], _, _ => []
  | _ :: r, 0, x => x :: r
  | a :: r, i + 1, x => a :: lset r i x

def AC.len (F : Fs) : AC → Nat
  | .bt xs => F.lenB xs
  | .wh xs => F.lenH xs
  | .wd xs => F.lenW xs
  | .ww xs => F.lenQ xs
  | .is xs => F.lenI xs
  | .ss xs => F.lenS xs
  | .vs l => llen l
  | .fn _ n _ => n
  | .ds _ xs => F.lenD xs
def AC.get (F : Fs) (i : Nat) : AC → Option AV
  | .bt xs => some (.w8 (F.getB xs i))
  | .wh xs => some (.w16 (F.getH xs i))
  | .wd xs => some (.w32 (F.getW xs i))
  | .ww xs => some (.w64 (F.getQ xs i))
  | .is xs => some (.i (F.getI xs i))
  | .ss xs => some (.s (F.getS xs i))
  | .vs _ => none
  | .fn _ _ f => some (f i)
  | .ds sh xs => some (sh.av F (F.getD xs i))
def AC.esz : AC → Option Nat
  | .bt _ => some 1
  | .wh _ => some 1
  | .wd _ => some 1
  | .ww _ => some 1
  | .is _ => some 1
  | .ss _ => some 1
  | .vs _ => none
  | .fn e _ _ => some e
  | .ds sh _ => some sh.cells
/-- one cell an element, and the element one cell -/
def AC.get1 (F : Fs) (i : Nat) (c : AC) : Option AV :=
  match c.esz with
  | some 1 => match c.get F i with
    | some a => match a.one with
      | true => some a
      | false => none
    | none => none
  | _ => none
/-- elements of e cells, e not nought -/
def AC.isE (e : Nat) (c : AC) : Bool :=
  match c.esz with
  | some k => match Nat.beq e k with
    | true => Nat.blt 0 e
    | false => false
  | none => false
def AC.getE (F : Fs) (e i : Nat) (c : AC) : Option AV :=
  match c.isE e with
  | true => c.get F i
  | false => none
def AC.lenE (F : Fs) (e : Nat) (c : AC) : Option Nat :=
  match c.isE e with
  | true => some (c.len F)
  | false => none
def AC.set (F : Fs) (i : Nat) (x : AV) : AC → Option AC
  | .bt xs => match x with | .w8 y => some (.bt (F.setB xs i y)) | _ => none
  | .wh xs => match x with | .w16 y => some (.wh (F.setH xs i y)) | _ => none
  | .wd xs => match x with | .w32 y => some (.wd (F.setW xs i y)) | _ => none
  | .ww xs => match x with | .w64 y => some (.ww (F.setQ xs i y)) | _ => none
  | .is xs => match x with | .i y => some (.is (F.setI xs i y)) | _ => none
  | .ss xs => match x with | .s y => some (.ss (F.setS xs i y)) | _ => none
  | .vs _ => none
  | .fn _ _ _ => none
  | .ds sh xs => match dof sh x with
    | some d => some (.ds sh (F.setD xs i d))
    | none => none
def AC.cut (F : Fs) (a n : Nat) : AC → Option AC
  | .bt xs => some (.bt (F.cutB xs a n))
  | .wh xs => some (.wh (F.cutH xs a n))
  | .wd xs => some (.wd (F.cutW xs a n))
  | .ww xs => some (.ww (F.cutQ xs a n))
  | .is xs => some (.is (F.cutI xs a n))
  | .ss xs => some (.ss (F.cutS xs a n))
  | .vs _ => none
  | .fn e _ f => some (.fn e n (fun j => f (F.addn a j)))
  | .ds sh xs => some (.ds sh (F.cutD xs a n))
def AC.cutE (F : Fs) (e a n : Nat) (c : AC) : Option AC :=
  match c.isE e with
  | true => c.cut F a n
  | false => none
def AC.app (F : Fs) : AC → AC → Option AC
  | .bt xs, .bt ys => some (.bt (F.appB xs ys))
  | .wh xs, .wh ys => some (.wh (F.appH xs ys))
  | .wd xs, .wd ys => some (.wd (F.appW xs ys))
  | .ww xs, .ww ys => some (.ww (F.appQ xs ys))
  | .is xs, .is ys => some (.is (F.appI xs ys))
  | .ss xs, .ss ys => some (.ss (F.appS xs ys))
  | .ds sh xs, .ds sh2 ys => match Sh.beq sh sh2 with
    | true => some (.ds sh (F.appD xs ys))
    | false => none
  | _, _ => none
def AC.eqv (F : Fs) : AC → AC → Option Bool
  | .bt xs, .bt ys => some (F.eqB xs ys)
  | .wh xs, .wh ys => some (F.eqH xs ys)
  | .wd xs, .wd ys => some (F.eqW xs ys)
  | .ww xs, .ww ys => some (F.eqQ xs ys)
  | .is xs, .is ys => some (F.eqI xs ys)
  | _, _ => none
/-- the source laid over the content from element a on -/
def AC.splice (F : Fs) (a : Nat) : AC → AC → Option AC
  | .bt xs, .bt ys => some (.bt (F.splB xs a ys))
  | .wh xs, .wh ys => some (.wh (F.splH xs a ys))
  | .wd xs, .wd ys => some (.wd (F.splW xs a ys))
  | .ww xs, .ww ys => some (.ww (F.splQ xs a ys))
  | .is xs, .is ys => some (.is (F.splI xs a ys))
  | .ss xs, .ss ys => some (.ss (F.splS xs a ys))
  | .ds sh xs, .ds sh2 ys => match Sh.beq sh sh2 with
    | true => some (.ds sh (F.splD xs a ys))
    | false => none
  | _, _ => none
/-- the kinds of elements -/
inductive EK where
  | kB | kH | kW | kQ | kI | kS | kD (sh : Sh)
def EK.rep (F : Fs) (n : Nat) : EK → AC
  | .kB => .bt (F.repB n)
  | .kH => .wh (F.repH n)
  | .kW => .wd (F.repW n)
  | .kQ => .ww (F.repQ n)
  | .kI => .is (F.repI n)
  | .kS => .ss (F.repS n)
  | .kD sh => .ds sh (F.repD n (F.dz sh))
def EK.esz : EK → Nat
  | .kD sh => sh.cells
  | _ => 1
def EK.nil : EK → AC
  | .kB => .bt []
  | .kH => .wh []
  | .kW => .wd []
  | .kQ => .ww []
  | .kI => .is []
  | .kS => .ss []
  | .kD sh => .ds sh []
def EK.cons : EK → AV → AC → Option AC
  | .kB, .w8 x, .bt xs => some (.bt (x :: xs))
  | .kH, .w16 x, .wh xs => some (.wh (x :: xs))
  | .kW, .w32 x, .wd xs => some (.wd (x :: xs))
  | .kQ, .w64 x, .ww xs => some (.ww (x :: xs))
  | .kI, .i x, .is xs => some (.is (x :: xs))
  | .kS, .s x, .ss xs => some (.ss (x :: xs))
  | .kD sh, x, .ds sh2 xs => match Sh.beq sh sh2, dof sh x with
    | true, some d => some (.ds sh (d :: xs))
    | _, _ => none
  | _, _, _ => none
def EK.ofAVs (k : EK) : List AV → Option AC
  | [] => some k.nil
  | a :: r => match EK.ofAVs k r with
    | some c => k.cons a c
    | none => none

/-! ## Types -/
inductive Lay where
  | one (z : AV)
  | arr (n : Nat) (z : AC)
  | st (l : List Lay)
mutual
def Lay.segs : Lay → List Seg
  | .one z => [(1, .vs [z])]
  | .arr n z => [(n, z)]
  | .st l => lsegs l
def lsegs : List Lay → List Seg
  | [] => []
  | a :: r => a.segs ++ lsegs r
end
mutual
def Lay.cells : Lay → Nat
  | .one _ => 1
  | .arr n _ => n
  | .st l => lcells l
def lcells : List Lay → Nat
  | [] => 0
  | a :: r => a.cells + lcells r
end
mutual
/-- the value that lies in segments -/
def Lay.take : Lay → List Seg → Option (AV × List Seg)
  | .one _, s => match s with
    | (1, .vs [a]) :: r => match a.one with
      | true => some (a, r)
      | false => none
    | _ => none
  | .arr n _, s => match s with
    | (k, c) :: r => match Nat.beq n k with
      | true => some (.ag n c, r)
      | false => none
    | [] => none
  | .st l, s => match ltake l s with
    | some (as, r) => some (.ag (lcells l) (.vs as), r)
    | none => none
def ltake : List Lay → List Seg → Option (List AV × List Seg)
  | [], s => some ([], s)
  | a :: l, s => match a.take s with
    | none => none
    | some (x, r) => match ltake l r with
      | none => none
      | some (xs, r2) => some (x :: xs, r2)
end
mutual
/-- a value's segments -/
def Lay.put : Lay → AV → Option (List Seg)
  | .one _, a => match a.one with
    | true => some [(1, .vs [a])]
    | false => none
  | .arr n _, a => match a with
    | .ag k c => match Nat.beq n k with
      | true => some [(n, c)]
      | false => none
    | _ => none
  | .st l, a => match a with
    | .ag k (.vs as) => match Nat.beq (lcells l) k with
      | true => lput l as
      | false => none
    | _ => none
def lput : List Lay → List AV → Option (List Seg)
  | [], as => match as with
    | [] => some []
    | _ => none
  | a :: l, as => match as with
    | x :: xs => match a.put x with
      | none => none
      | some s => match lput l xs with
        | none => none
        | some s2 => some (s ++ s2)
    | [] => none
end

inductive TK where
  | int (k : IntKind) | bool | str
  | slice (e : Nat) | ptr (e : Nat) | arr (n e : Nat)
  | st (fields : List (Nat × Nat × Nat))      -- type, segments ahead, cells ahead
  | map (k : Nat) (kk : KK) (e : Nat) (sh : Sh)
  | fn
  | other
structure TI where
  k : TK
  sz : Nat
  bytes : Nat
  lay : Lay
  ek : Option EK
abbrev TT := List (Nat × TI)
def tlook : TT → Nat → Option TI
  | [], _ => none
  | (k, a) :: r, t => match Nat.beq k t with
    | true => some a
    | false => tlook r t

/-! ## Effects -/
structure Eff where
  c : Prop
  v : AV
  puts : Mem
inductive Look where
  | no
  | ret (e : Eff)
  | look (k : Nat) (f : AB → Look)
def Look.run (me : Mem) : Look → Option Eff
  | .no => none
  | .ret e => some e
  | .look k f => match mlook me k with
    | some ab => (f ab).run me
    | none => none
def pure1 (c : Prop) (v : AV) : Look := .ret ⟨c, v, []⟩
/-- one thing more is asked -/
def Look.more (c : Prop) : Look → Look
  | .no => .no
  | .ret e => .ret ⟨c ∧ e.c, e.v, e.puts⟩
  | .look k f => .look k fun ab => (f ab).more c

/-- the content of a slice's elements of e cells -/
def withContent (F : Fs) (x : AV) (e : Nat) (K : AC → Look) : Look :=
  match x with
  | .rb e' c => match Nat.beq e e', c.isE e with
    | true, true => K c
    | _, _ => .no
  | .rw k => .look k fun
    | .row _ e' c => match Nat.beq e e', c.isE e with
      | true, true => K c
      | _, _ => .no
    | _ => .no
  | .sl k g o e' a n => match Nat.beq e e' with
    | true => .look k fun
      | .row _ e2 c => match g, o, Nat.beq e e2 with
        | 0, 0, true => match c.cutE F e a n with
          | some d => .more (F.pLe (F.addn a n) (c.len F)) (K d)
          | none => .no
        | _, _, _ => .no
      | .bk _ segs => match segAt g o segs, e with
        | some (_, c), 1 => match c.cutE F 1 a n with
          | some d => .more (F.pLe (F.addn a n) (c.len F)) (K d)
          | none => .no
        | _, _ => .no
      | _ => .no
    | false => .no
  | _ => .no
where
  segAt : Nat → Nat → List Seg → Option Seg
    | 0, 0, s :: _ => some s
    | g + 1, o, (n, _) :: r => match Nat.ble n o with
      | true => segAt g (o - n) r
      | false => none
    | _, _, _ => none


/-! ## Operations -/
def intEv (F : Fs) (op : BinOp) (a b : Int) : Option (Prop × AV) :=
  match op with
  | .add => some (True, .i (F.addi a b))
  | .sub => some (True, .i (F.subi a b))
  | .mul => some (True, .i (F.muli a b))
  | .quo => some (F.pNe b, .i (F.quoi a b))
  | .rem => some (F.pNe b, .i (F.remi a b))
  | .and => some (True, .i (F.bits .and a b))
  | .or => some (True, .i (F.bits .or a b))
  | .xor => some (True, .i (F.bits .xor a b))
  | .andNot => some (True, .i (F.bits .andNot a b))
  | .eql => some (True, .b (F.eqi a b))
  | .neq => some (True, .b (F.notb (F.eqi a b)))
  | .lss => some (True, .b (F.lti a b))
  | .leq => some (True, .b (F.lei a b))
  | .gtr => some (True, .b (F.lti b a))
  | .geq => some (True, .b (F.lei b a))
  | _ => none
def w8Ev (F : Fs) (op : BinOp) (a b : UInt8) : Option (Prop × AV) :=
  match op with
  | .add => some (True, .w8 (F.add8 a b))
  | .sub => some (True, .w8 (F.sub8 a b))
  | .mul => some (True, .w8 (F.mul8 a b))
  | .and => some (True, .w8 (F.and8 a b))
  | .or => some (True, .w8 (F.or8 a b))
  | .xor => some (True, .w8 (F.xor8 a b))
  | .andNot => some (True, .w8 (F.andn8 a b))
  | .quo => some (F.pNe (F.toI8 b), .w8 (F.quo8 a b))
  | .rem => some (F.pNe (F.toI8 b), .w8 (F.rem8 a b))
  | .eql => some (True, .b (F.eq8 a b))
  | .neq => some (True, .b (F.notb (F.eq8 a b)))
  | .lss => some (True, .b (F.lt8 a b))
  | .leq => some (True, .b (F.le8 a b))
  | .gtr => some (True, .b (F.lt8 b a))
  | .geq => some (True, .b (F.le8 b a))
  | _ => none
def w16Ev (F : Fs) (op : BinOp) (a b : UInt16) : Option (Prop × AV) :=
  match op with
  | .add => some (True, .w16 (F.add16 a b))
  | .sub => some (True, .w16 (F.sub16 a b))
  | .mul => some (True, .w16 (F.mul16 a b))
  | .and => some (True, .w16 (F.and16 a b))
  | .or => some (True, .w16 (F.or16 a b))
  | .xor => some (True, .w16 (F.xor16 a b))
  | .andNot => some (True, .w16 (F.andn16 a b))
  | .quo => some (F.pNe (F.toI16 b), .w16 (F.quo16 a b))
  | .rem => some (F.pNe (F.toI16 b), .w16 (F.rem16 a b))
  | .eql => some (True, .b (F.eq16 a b))
  | .neq => some (True, .b (F.notb (F.eq16 a b)))
  | .lss => some (True, .b (F.lt16 a b))
  | .leq => some (True, .b (F.le16 a b))
  | .gtr => some (True, .b (F.lt16 b a))
  | .geq => some (True, .b (F.le16 b a))
  | _ => none
def w32Ev (F : Fs) (op : BinOp) (a b : UInt32) : Option (Prop × AV) :=
  match op with
  | .add => some (True, .w32 (F.add32 a b))
  | .sub => some (True, .w32 (F.sub32 a b))
  | .mul => some (True, .w32 (F.mul32 a b))
  | .and => some (True, .w32 (F.and32 a b))
  | .or => some (True, .w32 (F.or32 a b))
  | .xor => some (True, .w32 (F.xor32 a b))
  | .andNot => some (True, .w32 (F.andn32 a b))
  | .quo => some (F.pNe (F.toI32 b), .w32 (F.quo32 a b))
  | .rem => some (F.pNe (F.toI32 b), .w32 (F.rem32 a b))
  | .eql => some (True, .b (F.eq32 a b))
  | .neq => some (True, .b (F.notb (F.eq32 a b)))
  | .lss => some (True, .b (F.lt32 a b))
  | .leq => some (True, .b (F.le32 a b))
  | .gtr => some (True, .b (F.lt32 b a))
  | .geq => some (True, .b (F.le32 b a))
  | _ => none
def w64Ev (F : Fs) (op : BinOp) (a b : UInt64) : Option (Prop × AV) :=
  match op with
  | .add => some (True, .w64 (F.add64 a b))
  | .sub => some (True, .w64 (F.sub64 a b))
  | .mul => some (True, .w64 (F.mul64 a b))
  | .and => some (True, .w64 (F.and64 a b))
  | .or => some (True, .w64 (F.or64 a b))
  | .xor => some (True, .w64 (F.xor64 a b))
  | .andNot => some (True, .w64 (F.andn64 a b))
  | .quo => some (F.pNe (F.toI64 b), .w64 (F.quo64 a b))
  | .rem => some (F.pNe (F.toI64 b), .w64 (F.rem64 a b))
  | .eql => some (True, .b (F.eq64 a b))
  | .neq => some (True, .b (F.notb (F.eq64 a b)))
  | .lss => some (True, .b (F.lt64 a b))
  | .leq => some (True, .b (F.le64 a b))
  | .gtr => some (True, .b (F.lt64 b a))
  | .geq => some (True, .b (F.le64 b a))
  | _ => none
def strEv (F : Fs) (op : BinOp) (a b : List UInt8) : Option (Prop × AV) :=
  match op with
  | .add => some (F.pCap (F.addn (F.lenB a) (F.lenB b)) 1, .s (F.appB a b))
  | .eql => some (True, .b (F.eqB a b))
  | .neq => some (True, .b (F.notb (F.eqB a b)))
  | .lss => some (True, .b (F.ltS a b))
  | .leq => some (True, .b (F.notb (F.ltS b a)))
  | .gtr => some (True, .b (F.ltS b a))
  | .geq => some (True, .b (F.notb (F.ltS a b)))
  | _ => none
/-- a whole number of whatever kind -/
def AV.num (F : Fs) : AV → Option Int
  | .i n => some n
  | .w8 x => some (F.toI8 x)
  | .w16 x => some (F.toI16 x)
  | .w32 x => some (F.toI32 x)
  | .w64 x => some (F.toI64 x)
  | _ => none
def binEv2 (F : Fs) (op : BinOp) (x y : AV) : Option (Prop × AV) :=
  match x, y with
  | .i a, .i b => intEv F op a b
  | .w8 a, .w8 b => w8Ev F op a b
  | .w16 a, .w16 b => w16Ev F op a b
  | .w32 a, .w32 b => w32Ev F op a b
  | .w64 a, .w64 b => w64Ev F op a b
  | .s a, .s b => strEv F op a b
  | _, _ => none
def isBool : AV → Option Bool
  | .b x => some x
  | .kb x => some x
  | _ => none
def binEv (F : Fs) (op : BinOp) (x y : AV) : Option (Prop × AV) :=
  match op with
  | .shl => match y.num F with
    | none => none
    | some s => match x with
      | .i a => some (F.p0 s, .i (F.shli a s))
      | .w8 a => some (F.p0 s, .w8 (F.shl8 a s))
      | .w16 a => some (F.p0 s, .w16 (F.shl16 a s))
      | .w32 a => some (F.p0 s, .w32 (F.shl32 a s))
      | .w64 a => some (F.p0 s, .w64 (F.shl64 a s))
      | _ => none
  | .shr => match y.num F with
    | none => none
    | some s => match x with
      | .i a => some (F.p0 s, .i (F.shri a s))
      | .w8 a => some (F.p0 s, .w8 (F.shr8 a s))
      | .w16 a => some (F.p0 s, .w16 (F.shr16 a s))
      | .w32 a => some (F.p0 s, .w32 (F.shr32 a s))
      | .w64 a => some (F.p0 s, .w64 (F.shr64 a s))
      | _ => none
  | op => binEv2 F op x y
def unEv (F : Fs) (op : UnOp) (x : AV) : Option (Prop × AV) :=
  match op, x with
  | .not, .b a => some (True, .b (F.notb a))
  | .not, .kb true => some (True, .kb false)
  | .not, .kb false => some (True, .kb true)
  | .neg, .i a => some (True, .i (F.negi a))
  | .neg, .w8 a => some (True, .w8 (F.neg8 a))
  | .neg, .w16 a => some (True, .w16 (F.neg16 a))
  | .neg, .w32 a => some (True, .w32 (F.neg32 a))
  | .neg, .w64 a => some (True, .w64 (F.neg64 a))
  | .xor, .w8 a => some (True, .w8 (F.not8 a))
  | .xor, .w16 a => some (True, .w16 (F.not16 a))
  | .xor, .w32 a => some (True, .w32 (F.not32 a))
  | .xor, .w64 a => some (True, .w64 (F.not64 a))
  | _, _ => none
def intTo (F : Fs) (k : IntKind) (n : Int) : Option AV :=
  match k with
  | .i64 => some (.i (F.wrapi n))
  | .u8 => some (.w8 (F.ofI8 n))
  | .u16 => some (.w16 (F.ofI16 n))
  | .u32 => some (.w32 (F.ofI32 n))
  | .u64 => some (.w64 (F.ofI64 n))
  | _ => none
def ofNatK (F : Fs) (k : IntKind) (n : Nat) : AV :=
  match k with
  | .u8 => if n < 256 then .w8 (F.ofI8 (F.int n)) else .u
  | .u16 => if n < 65536 then .w16 (F.ofI16 (F.int n)) else .u
  | .u32 => if n < 4294967296 then .w32 (F.ofI32 (F.int n)) else .u
  | .u64 => if n < 18446744073709551616 then .w64 (F.ofI64 (F.int n)) else .u
  | .i64 => .i (F.int n)
  | _ => .u
def ofValue (F : Fs) : Value → AV
  | .int k n => match n with
    | .ofNat j => ofNatK F k j
    | .negSucc j => match k with
      | .i64 => .i (F.nint j)
      | _ => .u
  | .bool x => .kb x
  | .string x => .s (F.ofS x)
  | .slice none 0 0 => .nl
  | .pointer none => .pn
  | _ => .u
def sget : List (Nat × AV) → Nat → AV
  | [], _ => .u
  | (k, a) :: r, t => match Nat.beq k t with
    | true => a
    | false => sget r t
def oget (F : Fs) (sl : List (Nat × AV)) : Operand → AV
  | .tmp t => sget sl t
  | .const v => ofValue F v
  | _ => .u
def oneEff (r : Option (Prop × AV)) : Look := match r with
  | some (c, v) => pure1 c v
  | none => .no
/-- a slice's or a string's length, with what is asked -/
def withLen (F : Fs) (a : AV) (K : Nat → Look) : Look :=
  match a with
  | .s x => K (F.lenB x)
  | .rb e c => match c.lenE F e with
    | some n => K n
    | none => .no
  | .sl _ _ _ _ _ n => K n
  | .nl => K 0
  | .rw k => .look k fun
    | .row _ e c => match c.lenE F e with
      | some n => K n
      | none => .no
    | _ => .no
  | .cl k => .look k fun
    | .row _ e c => match c.lenE F e with
      | some n => K n
      | none => .no
    | _ => .no
  | .z => K 0
  | _ => .no
/-- the three bounds of a slice expression over n elements: what is asked, from, to -/
def bounds (F : Fs) (n : Nat) (lo hi mx : Option AV) : Option (Prop × Nat × Nat) :=
  match optNum lo, optNum hi, optNum mx with
  | some l, some h, some m =>
    let li := match l with
      | some x => F.nat x
      | none => 0
    let hj := match h with
      | some x => F.nat x
      | none => n
    let cl := match l with
      | some x => F.p0 x ∧ F.pLe (F.nat x) hj
      | none => True
    let ch := match h with
      | some x => F.p0 x ∧ F.pLe (F.nat x) n
      | none => True
    let cm := match m, h with
      | some x, some _ => F.p0 x ∧ F.pLe hj (F.nat x) ∧ F.pLe (F.nat x) n
      | some _, none => False
      | none, _ => True
    some (cl ∧ ch ∧ cm, li, hj)
  | _, _, _ => none
where optNum : Option AV → Option (Option Int)
  | none => some none
  | some a => match a.num F with
    | some n => some (some n)
    | none => none
def sub0 (F : Fs) (h : Nat) : Nat → Nat
  | 0 => h
  | l => F.subn h l
/-- the difference; from nought on it is the end itself -/
def span (F : Fs) (lo : Option AV) (l h : Nat) : Nat :=
  match lo with
  | none => h
  | some _ => F.subn h l
def sliceEv (F : Fs) (tt : TT) (T : Nat) (x : AV) (lo hi mx : Option AV) : Look :=
  match x with
  | .s xs => match mx with
    | some _ => .no
    | none => match tlook tt T with
      | some ⟨.str, _, _, _, _⟩ => match bounds F (F.lenB xs) lo hi none with
        | some (c, l, h) => pure1 c (.s (F.cutB xs l (span F lo l h)))
        | none => .no
      | _ => .no
  | .rb e d => match tlook tt T with
    | some ⟨.slice te, _, _, _, _⟩ => match tlook tt te with
      | some ⟨_, es, _, _, _⟩ => match Nat.beq e es with
        | true => match d.lenE F e with
          | some n => match bounds F n lo hi mx with
            | some (c, l, h) => match d.cut F l (span F lo l h) with
              | some d' => pure1 c (.rb e d')
              | none => .no
            | none => .no
          | none => .no
        | false => .no
      | none => .no
    | _ => .no
  | .rw k => match tlook tt T with
    | some ⟨.slice te, _, _, _, _⟩ => match tlook tt te with
      | some ⟨_, es, _, _, _⟩ => .look k fun
        | .row _ e d => match Nat.beq e es with
          | true => match d.lenE F e with
            | some n => match bounds F n lo hi mx with
              | some (c, l, h) => match lo, hi, mx with
                | none, some _, some m => match m.num F with
                  | some q => pure1 (c ∧ F.pEqN h n ∧ F.pEqN (F.nat q) n) (.cl k)
                  | none => .no
                | _, _, _ => pure1 c (.sl k 0 0 e l (span F lo l h))
              | none => .no
            | none => .no
          | false => .no
        | _ => .no
      | none => .no
    | _ => .no
  | .sl k g o e a n => match tlook tt T with
    | some ⟨.slice te, _, _, _, _⟩ => match tlook tt te with
      | some ⟨_, es, _, _, _⟩ => match Nat.beq e es with
        | true => match bounds F n lo hi mx with
          | some (c, l, h) => pure1 c (.sl k g o e (match lo with | none => a | some _ => F.addn a l) (span F lo l h))
          | none => .no
        | false => .no
      | none => .no
    | _ => .no
  | .p k g o => match tlook tt T with
    | some ⟨.arr n te, _, _, _, _⟩ => match tlook tt te with
      | some ⟨_, es, _, _, _⟩ => match bounds F n lo hi mx with
        | some (c, l, h) => pure1 c (.sl k g o es l (span F lo l h))
        | none => .no
      | none => .no
    | _ => .no
  | .pe k g o e i => match tlook tt T with
    | some ⟨.arr n te, _, _, _, _⟩ => match tlook tt te with
      | some ⟨_, es, _, _, _⟩ => match Nat.beq (Nat.mul n es) e with
        | true => match bounds F n lo hi mx with
          | some (c, l, h) => .look k fun
            | .bk _ _ => pure1 c (.sl k g o es (match lo with | none => F.muln i n | some _ => F.addn (F.muln i n) l) (span F lo l h))
            | _ => .no
          | none => .no
        | false => .no
      | none => .no
    | _ => .no
  | .nl => match tlook tt T with
    | some ⟨.slice te, _, _, _, _⟩ => match tlook tt te with
      | some ⟨_, es, _, _, _⟩ => match bounds F 0 lo hi mx with
        | some (c, _, _) => pure1 c .nl
        | none => .no
      | none => .no
    | _ => .no
  | _ => .no
/-- s[:0:0] -/
def slice0Ev (tt : TT) (T : Nat) (x : AV) : Look :=
  match tlook tt T with
  | some ⟨.slice te, _, _, _, _⟩ => match tlook tt te with
    | some _ => match x with
      | .rb _ _ => pure1 True .z
      | .rw k => .look k fun
        | .row _ _ _ => pure1 True .z
        | _ => .no
      | .sl _ _ _ _ _ _ => pure1 True .z
      | .nl => pure1 True .z
      | .z => pure1 True .z
      | .cl k => .look k fun
        | .row _ _ _ => pure1 True .z
        | _ => .no
      | _ => .no
    | none => .no
  | _ => .no
def idxAddrEv (F : Fs) (tt : TT) (T : Nat) (x ix : AV) : Look :=
  match ix.num F with
  | none => .no
  | some i => match tlook tt T with
    | some ⟨.arr n te, _, _, _, _⟩ => match tlook tt te with
      | some ⟨_, es, _, _, _⟩ => match x with
        | .p k g o => pure1 (F.pIn i n) (.pe k g o es (F.nat i))
        | .pe k g o e j => match Nat.beq (Nat.mul n es) e with
          | true => pure1 (F.pIn i n) (.pe k g o es (F.addn (F.muln j n) (F.nat i)))
          | false => .no
        | _ => .no
      | none => .no
    | some ⟨.slice te, _, _, _, _⟩ => match tlook tt te with
      | some ⟨_, es, _, _, _⟩ => match x with
        | .rb e c => match Nat.beq e es with
          | true => match c.getE F e (F.nat i) with
            | some a => pure1 (F.pIn i (c.len F)) (.pr a)
            | none => .no
          | false => .no
        | .sl k g o e a n => match Nat.beq e es with
          | true => pure1 (F.pIn i n) (.pe k g o e (F.addn a (F.nat i)))
          | false => .no
        | .rw k => .look k fun
          | .row _ e c => match Nat.beq e es with
            | true => match c.lenE F e with
              | some n => pure1 (F.pIn i n) (.pe k 0 0 e (F.nat i))
              | none => .no
            | false => .no
          | _ => .no
        | _ => .no
      | none => .no
    | _ => .no
def idxEv (F : Fs) (tt : TT) (T : Nat) (x ix : AV) : Look :=
  match ix.num F with
  | none => .no
  | some i => match x with
    | .s xs => match tlook tt T with
      | some ⟨.str, _, _, _, _⟩ => pure1 (F.pIn i (F.lenB xs)) (.w8 (F.getB xs (F.nat i)))
      | _ => .no
    | .ag m c => match tlook tt T with
      | some ⟨.arr n te, _, _, _, _⟩ => match tlook tt te with
        | some ⟨_, es, _, .one _, _⟩ => match Nat.beq n m, Nat.beq es 1 with
          | true, true => match c.get1 F (F.nat i) with
            | some a => pure1 (F.pIn i n) a
            | none => .no
          | _, _ => .no
        | _ => .no
      | _ => .no
    | _ => .no
/-- n segments on -/
def segDrop : Nat → Nat → List Seg → Option (List Seg)
  | 0, 0, s => some s
  | g + 1, o, (n, _) :: r => match Nat.ble n o with
    | true => segDrop g (o - n) r
    | false => none
  | _, _, _ => none
def segPut : Nat → Nat → List Seg → List Seg → Option (List Seg)
  | 0, 0, new, s => over new s
  | g + 1, o, new, (n, c) :: r => match Nat.ble n o with
    | true => match segPut g (o - n) new r with
      | some r' => some ((n, c) :: r')
      | none => none
    | false => none
  | _, _, _, _ => none
where over : List Seg → List Seg → Option (List Seg)
  | [], s => some s
  | (n, c) :: new, (k, _) :: s => match Nat.beq n k with
    | true => match over new s with
      | some r => some ((n, c) :: r)
      | none => none
    | false => none
  | _, _ => none
/-- does a value fit a layout -/
def fits1 (lay : Lay) (a : AV) : Bool :=
  match lay, a with
  | .one _, .ag _ _ => false
  | .one _, .tup _ => false
  | .one _, .u => false
  | .one _, _ => true
  | .arr n _, .ag k _ => Nat.beq n k
  | .st l, .ag k _ => Nat.beq (lcells l) k
  | _, _ => false
/-- how many cells a value has -/
def AV.wid : AV → Nat
  | .ag n _ => n
  | _ => 1
/-- the j-th field, if so many cells stand ahead of it -/
def fieldAt : Nat → Nat → List AV → Option AV
  | 0, 0, a :: _ => some a
  | j + 1, c, a :: r => match Nat.ble a.wid c with
    | true => fieldAt j (c - a.wid) r
    | false => none
  | _, _, _ => none
/-- how many elements a segment has -/
def clen (F : Fs) (e n : Nat) (c : AC) : Nat :=
  match e with
  | 1 => n
  | _ => c.len F
def loadEv (F : Fs) (tt : TT) (T : Nat) (x : AV) : Look :=
  match tlook tt T with
  | some ⟨_, _, _, lay, _⟩ => match x with
    | .pr a => match lay, a with
      | .one _, .ag _ _ => .no
      | .one _, a => pure1 True a
      | .arr n _, .ag k c => match Nat.beq n k with
        | true => pure1 True (.ag k c)
        | false => .no
      | .st l, .ag k c => match Nat.beq (lcells l) k with
        | true => pure1 True (.ag k c)
        | false => .no
      | _, _ => .no
    | .p k g o => .look k fun
      | .bk _ segs => match segDrop g o segs with
        | some s => match lay.take s with
          | some (a, _) => pure1 True a
          | none => .no
        | none => .no
      | _ => .no
    | .pe k g o e i => match Nat.beq lay.cells e with
      | true => .look k fun
        | .bk _ segs => match withContent.segAt g o segs with
          | some (n, c) => match c.getE F e i with
            | some a => match fits1 lay a with
              | true => pure1 (F.pLt i (clen F e n c)) a
              | false => .no
            | none => match lay, c.cutE F 1 (F.muln i e) e with
              | .arr _ _, some d => pure1 (F.pLe (F.addn (F.muln i e) e) (c.len F)) (.ag e d)
              | _, _ => .no
          | none => .no
        | .row _ e2 c => match g, o, Nat.beq e e2 with
          | 0, 0, true => match c.getE F e i with
            | some a => match fits1 lay a with
              | true => pure1 (F.pLt i (c.len F)) a
              | false => .no
            | none => .no
          | _, _, _ => .no
        | _ => .no
      | false => .no
    | .pf k g o e i j cc => .look k fun
      | .row _ e2 c => match g, o, Nat.beq e e2 with
        | 0, 0, true => match c.getE F e i with
          | some (.ag _ (.vs l)) => match fieldAt j cc l with
            | some a => match fits1 lay a with
              | true => pure1 (F.pLt i (c.len F)) a
              | false => .no
            | none => .no
          | _ => .no
        | _, _, _ => .no
      | _ => .no
    | _ => .no
  | none => .no
/-- a stretch of a row of the call's own, laid where the row's handle lay: the stretch is the row from now on -/
def reown (F : Fs) (kb k B g o : Nat) (segs : List Seg) (v : AV) : Option Look :=
  match v with
  | .sl k2 g2 o2 e a n => match withContent.segAt g o segs with
    | some (_, .vs [.rw k3]) => match Nat.beq k2 k3, Nat.beq k2 k, g2, o2 with
      | true, false, 0, 0 => some (.look k2 fun
        | .row T2 e2 c => match Nat.beq e e2 with
          | true => match c.cutE F e a n with
            | some d => match segPut g o [(1, .vs [.rw kb])] segs with
              | some segs' => .ret ⟨F.pLe (F.addn a n) (c.len F), .u, [(k, .bk B segs'), (kb, .row T2 e d), (k2, .dead)]⟩
              | none => .no
            | none => .no
          | false => .no
        | _ => .no)
      | _, _, _, _ => none
    | _ => none
  | _ => none
def Lay.is1 : Lay → Bool
  | .one _ => true
  | _ => false
def storeN (lay : Lay) (k B g o : Nat) (segs : List Seg) (v : AV) : Look :=
  match lay.put v with
  | some new => match segPut g o new segs with
    | some segs' => .ret ⟨True, .u, [(k, .bk B segs')]⟩
    | none => .no
  | none => .no
def storeEv (F : Fs) (tt : TT) (kb T : Nat) (x v : AV) : Look :=
  match tlook tt T with
  | some ⟨_, _, _, lay, _⟩ => match x with
    | .p k g o => .look k fun
      | .bk B segs => match lay.is1 with
        | true => match reown F kb k B g o segs v with
          | some l => l
          | none => storeN lay k B g o segs v
        | false => storeN lay k B g o segs v
      | _ => .no
    | .pe k g o e i => match Nat.beq lay.cells e, fits1 lay v with
      | true, true => .look k fun
        | .bk B segs => match withContent.segAt g o segs with
          | some (n, c) => match c.isE e, c.set F i v with
            | true, some c' => match segPut g o [(n, c')] segs with
              | some segs' => .ret ⟨F.pLt i (clen F e n c), .u, [(k, .bk B segs')]⟩
              | none => .no
            | _, _ => .no
          | none => .no
        | .row B e2 c => match g, o, Nat.beq e e2, c.isE e with
          | 0, 0, true, true => match c.set F i v with
            | some c' => .ret ⟨F.pLt i (c.len F), .u, [(k, .row B e c')]⟩
            | none => .no
          | _, _, _, _ => .no
        | _ => .no
      | _, _ => .no
    | _ => .no
  | none => .no
def fieldAddrEv (tt : TT) (T : Nat) (x : AV) (f : Nat) : Look :=
  match tlook tt T with
  | some ⟨.st fs, _, _, _, _⟩ => match fget fs f with
    | some (_, gs, cs) => match x with
      | .p k g o => pure1 True (.p k (g + gs) (o + cs))
      | .pe k g o e i => pure1 True (.pf k g o e i f cs)
      | .pr (.ag _ (.vs l)) => match fieldAt f cs l with
        | some a => pure1 True (.pr a)
        | none => .no
      | _ => .no
    | none => .no
  | _ => .no
where fget : List (Nat × Nat × Nat) → Nat → Option (Nat × Nat × Nat)
  | [], _ => none
  | a :: _, 0 => some a
  | _ :: r, i + 1 => fget r i
/-- a field of a value -/
def fieldEv (tt : TT) (T : Nat) (x : AV) (f : Nat) : Look :=
  match tlook tt T with
  | some ⟨.st fs, _, _, _, _⟩ => match fieldAddrEv.fget fs f with
    | some (ft, _, cs) => match x with
      | .ag _ (.vs l) => match tlook tt ft with
        | some ⟨_, _, _, lay, _⟩ => match fieldAt f cs l with
          | some a => match fits1 lay a with
            | true => pure1 True a
            | false => .no
          | none => .no
        | none => .no
      | _ => .no
    | none => .no
  | _ => .no
def allocEv (tt : TT) (kb T : Nat) : Look :=
  match tlook tt T with
  | some ⟨_, _, _, lay, _⟩ => .ret ⟨True, .p kb 0 0, [(kb, .bk T lay.segs)]⟩
  | none => .no
def boxEv (tt : TT) (kb T : Nat) (x : AV) : Look :=
  match tlook tt T with
  | some ⟨_, _, _, lay, _⟩ => match lay.put x with
    | some s => .ret ⟨True, .p kb 0 0, [(kb, .bk T s)]⟩
    | none => .no
  | none => .no
def setParts (F : Fs) (lay : Lay) : AC → List (Nat × AV) → Option AC
  | c, [] => some c
  | c, (i, v) :: r => match fits1 lay v, c.isE 1 with
    | true, true => match c.set F i v with
      | some c' => setParts F lay c' r
      | none => none
    | _, _ => none
/-- parts of a list of one-cell elements: all there, in order -/
def inOrder : Nat → List (Nat × AV) → Option (List AV)
  | _, [] => some []
  | i, (j, v) :: r => match Nat.beq i j with
    | true => match inOrder (Nat.succ i) r with
      | some l => some (v :: l)
      | none => none
    | false => none
mutual
def Lay.zav : Lay → AV
  | .one z => z
  | .arr n z => .ag n z
  | .st l => .ag (lcells l) (.vs (lzavs l))
def lzavs : List Lay → List AV
  | [] => []
  | a :: r => a.zav :: lzavs r
end
/-- parts of a struct, each of which fits -/
def stParts (lays : List Lay) : List AV → List (Nat × AV) → Option (List AV)
  | l, [] => some l
  | l, (i, v) :: r => match nth lays i with
    | some lay => match fits1 lay v with
      | true => stParts lays (lset l i v) r
      | false => none
    | none => none
where nth : List Lay → Nat → Option Lay
  | [], _ => none
  | a :: _, 0 => some a
  | _ :: r, i + 1 => nth r i
def allFit (lay : Lay) : List AV → Bool
  | [] => true
  | a :: r => match fits1 lay a with
    | true => allFit lay r
    | false => false
def buildEv (F : Fs) (tt : TT) (T : Nat) (parts : List (Nat × AV)) : Look :=
  match tlook tt T with
  | some ⟨.arr n te, _, _, .arr k z, _⟩ => match tlook tt te with
    | some ⟨_, es, _, lay, ek⟩ => match es with
      | 1 => match Nat.beq n k with
        | true => match Nat.beq (plen parts) n with
          | true => match inOrder 0 parts with
            | some l => match allFit lay l with
              | true => match ofK ek l with
                | some c => pure1 True (.ag n c)
                | none => .no
              | false => .no
            | none => .no
          | false => match setParts F lay z parts with
            | some c => pure1 (allLt F n parts) (.ag n c)
            | none => .no
        | false => .no
      | es => match Nat.blt 0 es, Nat.beq (n * es) k, Nat.beq (plen parts) n with
        | true, true, true => match inOrder 0 parts with
          | some l => match allFit lay l with
            | true => pure1 True (.ag k (.fn es n (fun j => lget l j)))
            | false => .no
          | none => .no
        | _, _, _ => .no
    | _ => .no
  | some ⟨.st _, _, _, .st lays, _⟩ => match stParts lays (lzavs lays) parts with
    | some l => pure1 True (.ag (lcells lays) (.vs l))
    | none => .no
  | _ => .no
where
  ofK : Option EK → List AV → Option AC
    | some ek, l => ek.ofAVs l
    | none, _ => none
  plen : List (Nat × AV) → Nat
    | [] => 0
    | _ :: r => Nat.succ (plen r)
  allLt (F : Fs) (n : Nat) : List (Nat × AV) → Prop
    | [] => True
    | (i, _) :: r => F.pLt i n ∧ allLt F n r
def buildSliceEv (tt : TT) (kb T len : Nat) (parts : List (Nat × AV)) : Look :=
  match tlook tt T with
  | some ⟨.slice te, _, _, _, _⟩ => match tlook tt te with
    | some ⟨_, es, _, lay, some ek⟩ => match Nat.beq (buildEv.plen parts) len, Nat.ble (len * es) 16777216, Nat.beq es ek.esz, Nat.blt 0 es with
      | true, true, true, true => match inOrder 0 parts with
        | some l => match ek.ofAVs l, allFit lay l with
          | some c, true => .ret ⟨True, .rw kb, [(kb, .row te es c)]⟩
          | _, _ => .no
        | none => .no
      | _, _, _, _ => .no
    | _ => .no
  | _ => .no
def makeSliceEv (F : Fs) (tt : TT) (kb T : Nat) (n m : AV) : Look :=
  match n, m with
  | .i a, .i b => match tlook tt T with
    | some ⟨.slice te, _, _, _, _⟩ => match tlook tt te with
      | some ⟨_, es, by_, _, some ek⟩ => match Nat.beq es ek.esz, Nat.blt 0 es with
        | true, true => .ret ⟨F.p0 a ∧ F.pLeI a b ∧ F.pMk b by_, .rw kb, [(kb, .row te es (ek.rep F (F.nat a)))]⟩
        | _, _ => .no
      | _ => .no
    | _ => .no
  | _, _ => .no
/-- surely not empty: known of lists of structs alone -/
def AC.some1 : AC → Bool
  | .ds _ (_ :: _) => true
  | _ => false
def appendK (F : Fs) (kb te es by_ : Nat) (s : AV) (d : AC) : Look :=
  match s with
  | .nl => match d.isE es with
    | true => .ret ⟨F.pCap (d.len F) by_, .rw kb, [(kb, .row te es d)]⟩
    | false => .no
  | .z => match d.isE es with
    | true => .ret ⟨F.pCap (d.len F) by_, .rw kb, [(kb, .row te es d)]⟩
    | false => .no
  | .cl k => .look k fun
    | .row te' e2 c => match Nat.beq te te', Nat.beq es e2, d.isE es, c.isE es with
      | true, true, true, true => match c.app F d, d.some1 with
        | some c', true => .ret ⟨F.pCap (F.addn (c.len F) (d.len F)) by_ ∧ F.pPos (d.len F), .rw kb, [(kb, .row te es c')]⟩
        | some c', false => .ret ⟨F.pCap (F.addn (c.len F) (d.len F)) by_, .rw kb, [(kb, .row te es c'), (k, .dead)]⟩
        | none, _ => .no
      | _, _, _, _ => .no
    | _ => .no
  | .rw k => .look k fun
    | .row te' e2 c => match Nat.beq te te', Nat.beq es e2, d.isE es, c.isE es with
      | true, true, true, true => match c.app F d with
        | some c' => .ret ⟨F.pCap (F.addn (c.len F) (d.len F)) by_, .rw kb, [(kb, .row te es c'), (k, .dead)]⟩
        | none => .no
      | _, _, _, _ => .no
    | _ => .no
  | _ => .no
def appendEv (F : Fs) (tt : TT) (kb T : Nat) (s x : AV) : Look :=
  match tlook tt T with
  | some ⟨.slice te, _, _, _, _⟩ => match tlook tt te with
    | some ⟨_, es, by_, _, some ek⟩ => match x with
      | .s xs => match ek, es with
        | .kB, 1 => appendK F kb te es by_ s (.bt xs)
        | _, _ => .no
      | .nl => match Nat.beq es ek.esz with
        | true => appendK F kb te es by_ s ek.nil
        | false => .no
      | .z => match Nat.beq es ek.esz with
        | true => appendK F kb te es by_ s ek.nil
        | false => .no
      | x => withContent F x es fun d => appendK F kb te es by_ s d
    | _ => .no
  | _ => .no
/-- so many noughts appended -/
def appendZEv (F : Fs) (tt : TT) (kb T : Nat) (s x : AV) : Look :=
  match tlook tt T with
  | some ⟨.slice te, _, _, _, _⟩ => match tlook tt te with
    | some ⟨_, 1, by_, _, some ek⟩ => match x with
      | .i n => .more (F.p0 n ∧ F.pMk n by_) (appendK F kb te 1 by_ s (ek.rep F (F.nat n)))
      | _ => .no
    | _ => .no
  | _ => .no
def copyK (F : Fs) (es : Nat) (s : AV) (d : AC) : Look :=
  match s with
  | .sl k g o e a n => match Nat.beq e es with
    | false => .no
    | true => .look k fun
    | .bk B segs => match withContent.segAt g o segs, es with
      | some (m, c), 1 => match d.cutE F 1 0 (F.minn (d.len F) n) with
        | some d' => match c.splice F a d' with
          | some c' => match segPut g o [(m, c')] segs with
            | some segs' => .ret ⟨F.pLe (F.addn a n) m, .i (F.int (F.minn (d.len F) n)), [(k, .bk B segs')]⟩
            | none => .no
          | none => .no
        | none => .no
      | _, _ => .no
    | .row B e2 c => match g, o, Nat.beq e2 es, c.isE es with
      | 0, 0, true, true => match d.cutE F es 0 (F.minn (d.len F) n) with
        | some d' => match c.splice F a d' with
          | some c' => .ret ⟨F.pLe (F.addn a n) (c.len F), .i (F.int (F.minn (d.len F) n)), [(k, .row B es c')]⟩
          | none => .no
        | none => .no
      | _, _, _, _ => .no
    | _ => .no
  | .rw k => .look k fun
    | .row B e2 c => match Nat.beq e2 es, c.isE es with
      | true, true => match d.cutE F es 0 (F.minn (d.len F) (c.len F)) with
        | some d' => match c.splice F 0 d' with
          | some c' => .ret ⟨True, .i (F.int (F.minn (d.len F) (c.len F))), [(k, .row B es c')]⟩
          | none => .no
        | none => .no
      | _, _ => .no
    | _ => .no
  | _ => .no
def copyEv (F : Fs) (tt : TT) (T : Nat) (s x : AV) : Look :=
  match tlook tt T with
  | some ⟨.slice te, _, _, _, _⟩ => match tlook tt te with
    | some ⟨_, es, _, _, some ek⟩ => match x with
      | .s xs => match ek, es with
        | .kB, 1 => copyK F 1 s (.bt xs)
        | _, _ => .no
      | .nl => match ek.nil.isE es with
        | true => copyK F es s ek.nil
        | false => .no
      | x => withContent F x es fun d => copyK F es s d
    | _ => .no
  | _ => .no
def convEv (F : Fs) (tt : TT) (kb src dst : Nat) (x : AV) : Look :=
  match tlook tt dst with
  | some ⟨.int k, _, _, _, _⟩ => match x.num F, tlook tt src with
    | some n, some ⟨.int _, _, _, _, _⟩ => match intTo F k n with
      | some v => pure1 True v
      | none => .no
    | _, _ => .no
  | some ⟨.str, _, _, _, _⟩ => match tlook tt src with
    | some ⟨.str, _, _, _, _⟩ => match x with
      | .s xs => pure1 True (.s xs)
      | _ => .no
    | some ⟨.slice te, _, _, _, _⟩ => match tlook tt te with
      | some ⟨.int .u8, 1, _, _, _⟩ => match x with
        | .nl => pure1 True (.s [])
        | .z => pure1 True (.s [])
        | x => withContent F x 1 fun
          | .bt xs => pure1 True (.s xs)
          | _ => .no
      | _ => .no
    | _ => .no
  | some ⟨.slice te, _, _, _, _⟩ => match tlook tt te with
    | some ⟨.int .u8, 1, _, _, _⟩ => match x, tlook tt src with
      | .s xs, some ⟨.str, _, _, _, _⟩ => .ret ⟨F.pCap (F.lenB xs) 1, .rw kb, [(kb, .row te 1 (.bt xs))]⟩
      | .rw k, some ⟨.slice _, _, _, _, _⟩ => match Nat.beq src dst with
        | true => .look k fun
          | .row T e c => match c.isE e with
            | true => .ret ⟨F.pPos (c.len F), .rw k, [(k, .row T e c)]⟩
            | false => .no
          | _ => .no
        | false => .no
      | _, _ => .no
    | _ => .no
  | _ => .no
def pickEv (F : Fs) (c a b : AV) : Look :=
  match c with
  | .kb true => pure1 True a
  | .kb false => pure1 True b
  | .b x => match isBool a, isBool b with
    | some y, some z => pure1 True (.b (F.cond x y z))
    | _, _ => .no
  | _ => .no
def min2Ev (F : Fs) : AV → AV → Option AV
  | .i a, .i b => some (.i (F.mini a b))
  | .w8 a, .w8 b => some (.w8 (F.min8 a b))
  | .w16 a, .w16 b => some (.w16 (F.min16 a b))
  | .w32 a, .w32 b => some (.w32 (F.min32 a b))
  | .w64 a, .w64 b => some (.w64 (F.min64 a b))
  | _, _ => none
def max2Ev (F : Fs) : AV → AV → Option AV
  | .i a, .i b => some (.i (F.maxi a b))
  | .w8 a, .w8 b => some (.w8 (F.max8 a b))
  | .w16 a, .w16 b => some (.w16 (F.max16 a b))
  | .w32 a, .w32 b => some (.w32 (F.max32 a b))
  | .w64 a, .w64 b => some (.w64 (F.max64 a b))
  | _, _ => none
/-- are two values of one plain type alike -/
def eqC (F : Fs) : TK → AV → AV → Option Bool
  | .int _, .i a, .i b => some (F.eqi a b)
  | .int _, .w8 a, .w8 b => some (F.eq8 a b)
  | .int _, .w16 a, .w16 b => some (F.eq16 a b)
  | .int _, .w32 a, .w32 b => some (F.eq32 a b)
  | .int _, .w64 a, .w64 b => some (F.eq64 a b)
  | .str, .s a, .s b => some (F.eqB a b)
  | .bool, a, b => match isBool a, isBool b with
    | some x, some y => some (F.eqb x y)
    | _, _ => none
  | _, _, _ => none
/-- field by field, each of one cell -/
def eqSt (F : Fs) (tt : TT) : Nat → List (Nat × Nat × Nat) → List AV → List AV → Option Bool
  | _, [], [], [] => some true
  | c, (t, _, o) :: r, a :: l, b :: q => match Nat.beq c o, tlook tt t with
    | true, some ⟨k, 1, _, .one _, _⟩ => match eqC F k a b, eqSt F tt (Nat.succ c) r l q with
      | some x, some y => some (F.andb x y)
      | _, _ => none
    | _, _ => none
  | _, _, _, _ => none
def eqEv (F : Fs) (tt : TT) (T : Nat) (x y : AV) : Option (Prop × Bool) :=
  match x, y with
  | .ag n c, .ag k d => match tlook tt T with
    | some ⟨.arr m te, _, _, _, _⟩ => match tlook tt te with
      | some ⟨.int _, 1, _, .one _, some ek⟩ => match Nat.beq n m, Nat.beq k m with
        | true, true => match c.eqv F d with
          | some b => some (True, b)
          | none => none
        | _, _ => none
      | _ => none
    | some ⟨.st fs, _, _, _, _⟩ => match c, d with
      | .vs as, .vs bs => match eqSt F tt 0 fs as bs with
        | some b => some (True, b)
        | none => none
      | _, _ => none
    | _ => none
  | _, _ => none
def boolEq (F : Fs) (tt : TT) (op : BinOp) (T : Nat) (a : Bool) (y : AV) : Look :=
  match isBool y, tlook tt T with
  | some b, some ⟨.bool, _, _, _, _⟩ => match op with
    | .eql => pure1 True (.b (F.eqb a b))
    | .neq => pure1 True (.b (F.notb (F.eqb a b)))
    | _ => .no
  | _, _ => .no
def binopEv (F : Fs) (tt : TT) (op : BinOp) (T : Nat) (x y : AV) : Look :=
  match x with
  | .b a => boolEq F tt op T a y
  | .kb a => boolEq F tt op T a y
  | .ag _ _ => match op with
    | .eql => match eqEv F tt T x y with
      | some (c, b) => pure1 c (.b b)
      | none => .no
    | .neq => match eqEv F tt T x y with
      | some (c, b) => pure1 c (.b (F.notb b))
      | none => .no
    | _ => .no
  | x => oneEff (binEv F op x y)
/-! ## Maps -/
def KK.beq : KK → KK → Bool
  | .i, .i => true
  | .s, .s => true
  | .l8 n, .l8 m => Nat.beq n m
  | _, _ => false
def makeMapEv (tt : TT) (kb T : Nat) : Look :=
  match tlook tt T with
  | some ⟨.map _ kk _ sh, _, _, _, _⟩ => .ret ⟨True, .mh kb, [(kb, .mp T kk sh ⟨[], 0⟩)]⟩
  | _ => .no
/-- rows of the call's own within a value: told as data, and given away -/
def pubL : List AV → (List AV → List Nat → Look) → Look
  | [], K => K [] []
  | a :: r, K => match a with
    | .rw k => .look k fun
      | .row _ e c => pubL r fun r' ks => K (.rb e c :: r') (k :: ks)
      | _ => .no
    | a => pubL r fun r' ks => K (a :: r') ks
def pubV (v : AV) (K : AV → List Nat → Look) : Look :=
  match v with
  | .rw k => .look k fun
    | .row _ e c => K (.rb e c) [k]
    | _ => .no
  | .ag n c => match c with
    | .vs l => pubL l fun l' ks => K (.ag n (.vs l')) ks
    | c => K (.ag n c) []
  | v => K v []
def deads : List Nat → Mem
  | [] => []
  | k :: r => (k, .dead) :: deads r
def mapSetEv (F : Fs) (tt : TT) (T : Nat) (m k v : AV) : Look :=
  match tlook tt T with
  | some ⟨.map _ kk0 _ sh0, _, _, _, _⟩ => match m with
    | .mh j => .look j fun
      | .mp T' kk sh M => match Nat.beq T T', KK.beq kk0 kk, Sh.beq sh0 sh with
        | true, true, true => match keyOfV kk k with
          | some kd => pubV v fun v' ks => match dof sh v' with
            | some d => .ret ⟨True, .u, (j, .mp T kk sh (F.mset M kd d)) :: deads ks⟩
            | none => .no
          | none => .no
        | _, _, _ => .no
      | _ => .no
    | _ => .no
  | _ => .no
def mapGetEv (F : Fs) (tt : TT) (T : Nat) (m k : AV) (ok : Bool) : Look :=
  match tlook tt T with
  | some ⟨.map _ kk0 _ sh0, _, _, _, _⟩ => match m with
    | .mh j => .look j fun
      | .mp T' kk sh M => match Nat.beq T T', KK.beq kk0 kk, Sh.beq sh0 sh with
        | true, true, true => match keyOfV kk k with
          | some kd => match ok with
            | true => pure1 True (.tup [sh.av F (F.mget M kd (F.dz sh)), .b (F.mhas M kd)])
            | false => pure1 True (sh.av F (F.mget M kd (F.dz sh)))
          | none => .no
        | _, _, _ => .no
      | _ => .no
    | _ => .no
  | _ => .no
def mapDelEv (F : Fs) (tt : TT) (T : Nat) (m k : AV) : Look :=
  match tlook tt T with
  | some ⟨.map _ kk0 _ sh0, _, _, _, _⟩ => match m with
    | .mh j => .look j fun
      | .mp T' kk sh M => match Nat.beq T T', KK.beq kk0 kk, Sh.beq sh0 sh with
        | true, true, true => match keyOfV kk k with
          | some kd => .ret ⟨True, .tup [], [(j, .mp T kk sh (F.mdel M kd))]⟩
          | none => .no
        | _, _, _ => .no
      | _ => .no
    | _ => .no
  | _ => .no
def mapClearEv (F : Fs) (tt : TT) (T : Nat) (m : AV) : Look :=
  match tlook tt T with
  | some ⟨.map _ kk0 _ sh0, _, _, _, _⟩ => match m with
    | .mh j => .look j fun
      | .mp T' kk sh M => match Nat.beq T T', KK.beq kk0 kk, Sh.beq sh0 sh with
        | true, true, true => .ret ⟨True, .tup [], [(j, .mp T kk sh (F.mclr M))]⟩
        | _, _, _ => .no
      | _ => .no
    | _ => .no
  | _ => .no
/-- a range over a map begins -/
def rangeEv (F : Fs) (tt : TT) (kb T : Nat) (x : AV) : Look :=
  match tlook tt T with
  | some ⟨.map _ kk0 _ sh0, _, _, _, _⟩ => match x with
    | .mh j => .look j fun
      | .mp T' kk sh M => match Nat.beq T T', KK.beq kk0 kk, Sh.beq sh0 sh with
        | true, true, true => .ret ⟨True, .p kb 0 0, [(kb, .it j (F.mclk M) [] (F.mclk M))]⟩
        | _, _, _ => .no
      | _ => .no
    | _ => .no
  | _ => .no
/-- the entry that came last -/
def entryEv (F : Fs) (x : AV) : Look :=
  match x with
  | .p k 0 0 => .look k fun
    | .it j since seen last => .look j fun
      | .mp _ kk sh M => pure1 (F.pEnt M since seen last) (.tup [kk.av F (F.mkeyB M (F.backN seen)), sh.av F (F.mvalB M (F.backN seen))])
      | _ => .no
    | _ => .no
  | _ => .no
def mapLenEv (F : Fs) (m : AV) : Look :=
  match m with
  | .mh j => .look j fun
    | .mp _ _ _ M => pure1 True (.i (F.int (F.mlen M)))
    | _ => .no
  | .mn => pure1 True (.i (F.int 0))
  | _ => .no
abbrev Spec := List AV → Nat → Look
abbrev Specs := List (Nat × Spec)
def splook : Specs → Nat → Option Spec
  | [], _ => none
  | (k, a) :: r, t => match Nat.beq k t with
    | true => some a
    | false => splook r t
def builtinEv (F : Fs) (tt : TT) (kb : Nat) (b : Builtin) (argTypes : List Nat) (args : List AV) : Look :=
  match b, argTypes, args with
  | .len, [T], [x] => match tlook tt T with
    | some ⟨.slice _, _, _, _, _⟩ => match x with
      | .s _ => .no
      | x => withLen F x fun n => pure1 True (.i (F.int n))
    | some ⟨.str, _, _, _, _⟩ => match x with
      | .s xs => pure1 True (.i (F.int (F.lenB xs)))
      | _ => .no
    | some ⟨.map _ _ _ _, _, _, _, _⟩ => mapLenEv F x
    | _ => .no
  | .append, [T, U], [s, x] => match tlook tt U with
    | some ⟨.slice _, _, _, _, _⟩ => appendEv F tt kb T s x
    | some ⟨.str, _, _, _, _⟩ => appendEv F tt kb T s x
    | some ⟨.int _, _, _, _, _⟩ => appendZEv F tt kb T s x
    | _ => .no
  | .copy, [T, _], [s, x] => copyEv F tt T s x
  | .delete, [T, _], [s, x] => mapDelEv F tt T s x
  | .clear, [T], [s] => mapClearEv F tt T s
  | .min, _, [a, b] => match min2Ev F a b with
    | some v => pure1 True v
    | none => .no
  | .max, _, [a, b] => match max2Ev F a b with
    | some v => pure1 True v
    | none => .no
  | _, _, _ => .no
def aop (F : Fs) (tt : TT) (sp : Specs) (sl : List (Nat × AV)) (kb : Nat) (op : Op) : Look :=
  match op with
  | .move x => pure1 True (oget F sl x)
  | .assign x => pure1 True (oget F sl x)
  | .pick c a b => pickEv F (oget F sl c) (oget F sl a) (oget F sl b)
  | .alloc T => allocEv tt kb T
  | .box T x => boxEv tt kb T (oget F sl x)
  | .build T ps => buildEv F tt T (parts ps.toList)
  | .buildSlice T n ps => buildSliceEv tt kb T n (parts ps.toList)
  | .load T x => loadEv F tt T (oget F sl x)
  | .store T x v => storeEv F tt kb T (oget F sl x) (oget F sl v)
  | .nilCheck x => match oget F sl x with
    | .p k g o => pure1 True (.p k g o)
    | .pe k g o e i => pure1 True (.pe k g o e i)
    | .pr a => pure1 True (.pr a)
    | .pf k g o e i j c => pure1 True (.pf k g o e i j c)
    | _ => .no
  | .binOp op T x y _ => binopEv F tt op T (oget F sl x) (oget F sl y)
  | .unOp op _ x => oneEff (unEv F op (oget F sl x))
  | .convert src dst x => convEv F tt kb src dst (oget F sl x)
  | .makeSlice T n m => makeSliceEv F tt kb T (oget F sl n) (oget F sl m)
  | .makeMap T none => makeMapEv tt kb T
  | .mapUpdate T x k v => mapSetEv F tt T (oget F sl x) (oget F sl k) (oget F sl v)
  | .insert T x k v => mapSetEv F tt T (oget F sl x) (oget F sl k) (oget F sl v)
  | .lookup T x k ok => mapGetEv F tt T (oget F sl x) (oget F sl k) ok
  | .range T x => rangeEv F tt kb T (oget F sl x)
  | .entry x => entryEv F (oget F sl x)
  | .slice T x lo hi mx => match is00 lo hi mx with
    | true => slice0Ev tt T (oget F sl x)
    | false => sliceEv F tt T (oget F sl x) (optGet lo) (optGet hi) (optGet mx)
  | .field T x f => fieldEv tt T (oget F sl x) f
  | .fieldAddr T x f => fieldAddrEv tt T (oget F sl x) f
  | .indexAddr T x i => idxAddrEv F tt T (oget F sl x) (oget F sl i)
  | .index T x i => idxEv F tt T (oget F sl x) (oget F sl i)
  | .extract x i => match oget F sl x with
    | .tup l => match Nat.blt i (llen l) with
      | true => pure1 True (lget l i)
      | false => .no
    | _ => .no
  | .makeFunc (.func f) first caps => match first.toList with
    | [] => match allOne (gets caps.toList) with
      | true => pure1 True (.fv f (gets caps.toList))
      | false => .no
    | _ => .no
  | .call ⟨.builtin b, args, tys⟩ => builtinEv F tt kb b tys.toList (gets args.toList)
  | .call ⟨.value (.func f), args, _⟩ => match splook sp f with
    | some s => s (gets args.toList) kb
    | none => .no
  | .call ⟨.value x, args, _⟩ => match oget F sl x with
    | .fv f caps => match splook sp f, allOne caps with
      | some s, true => s (lapp (gets args.toList) caps) kb
      | _, _ => .no
    | _ => .no
  | _ => .no
where
  is00 : Option Operand → Option Operand → Option Operand → Bool
    | none, some (.const (.int _ (.ofNat 0))), some (.const (.int _ (.ofNat 0))) => true
    | _, _, _ => false
  allOne : List AV → Bool
    | [] => true
    | a :: r => match a.one with
      | true => allOne r
      | false => false
  lapp : List AV → List AV → List AV
    | [], b => b
    | a :: r, b => a :: lapp r b
  gets : List Operand → List AV
    | [] => []
    | x :: r => oget F sl x :: gets r
  parts : List (Nat × Operand) → List (Nat × AV)
    | [] => []
    | (i, x) :: r => (i, oget F sl x) :: parts r
  optGet : Option Operand → Option AV
    | none => none
    | some x => some (oget F sl x)

end Go.Vc
set_option linter.unusedVariables false
namespace Go.Vc
open Go Go.RowKit

/-! ## States and the conditions of code -/
structure AS where
  sl : List (Nat × AV)
  me : Mem
  nk : Nat

def mputs : Mem → Mem → Mem
  | [], me => me
  | p :: r, me => p :: mputs r me
def AS.upd (s : AS) (dst : Option Nat) (v : AV) (puts : Mem) : AS :=
  match dst with
  | some d => ⟨(d, v) :: s.sl, mputs puts s.me, s.nk + 8⟩
  | none => ⟨s.sl, mputs puts s.me, s.nk + 8⟩
/-- what a slot holds is laid anew -/
def AS.put (s : AS) (d : Nat) (v : AV) : AS := ⟨(d, v) :: s.sl, s.me, s.nk⟩
def AS.putO (s : AS) (dst : Option Nat) (v : AV) : AS := match dst with
  | some d => s.put d v
  | none => s

def nth {α : Type} : List α → Nat → Option α
  | [], _ => none
  | a :: _, 0 => some a
  | _ :: r, i + 1 => nth r i

/-- a call told by what follows it -/
abbrev KSpec := List AV → AS → (AV → AS → Prop) → Prop
def klook : List (Nat × KSpec) → Nat → Option KSpec
  | [], _ => none
  | (k, a) :: r, t => match Nat.beq k t with
    | true => some a
    | false => klook r t
/-- the fixed things: numbers of slots, types, contracts -/
structure Cx where
  nt : Nat
  tt : TT
  sp : Specs
  ks : List (Nat × KSpec)
  dr : List (Nat × (List (Nat × List Nat) × List (Nat × List Nat)))
  pin : List Nat
  must : List Nat
def kcall (ks : List (Nat × KSpec)) : Op → Option (KSpec × List Operand)
  | .call { callee := .value (.func f), args := args, .. } => match klook ks f with
    | some k => some (k, args.toList)
    | none => none
  | _ => none
/-- behind such a call -/
def AS.ret (s : AS) (dst : Option Nat) (v : AV) (s' : AS) : AS :=
  match dst with
  | some d => ⟨(d, v) :: s.sl, s'.me, s'.nk⟩
  | none => ⟨s.sl, s'.me, s'.nk⟩

def dstOk (nt : Nat) : Option Nat → Bool
  | none => true
  | some d => Nat.blt d nt
def acNil : AC → Prop
  | .bt xs => xs = []
  | .wh xs => xs = []
  | .wd xs => xs = []
  | .ww xs => xs = []
  | .is xs => xs = []
  | .ss xs => xs = []
  | .vs l => l = []
  | .fn _ n _ => n = 0
  | .ds _ xs => xs = []
/-- comparing with nil: the type, whether alike is asked, what is compared -/
def nilOp : Op → Option (Bool × Nat × Bool × Operand)
  | .binOp .eql T x (.const (.slice none 0 0)) _ => some (true, T, true, x)
  | .binOp .neq T x (.const (.slice none 0 0)) _ => some (true, T, false, x)
  | .binOp .eql T x (.const (.pointer none)) _ => some (false, T, true, x)
  | .binOp .neq T x (.const (.pointer none)) _ => some (false, T, false, x)
  | _ => none
def nilB (F : Fs) (eq b : Bool) : AV :=
  match eq with
  | true => .b b
  | false => .b (F.notb b)
def knownB (eq b : Bool) : AV :=
  match eq, b with
  | true, b => .kb b
  | false, true => .kb false
  | false, false => .kb true
/-- whether a slice, a pointer is nil: an empty slice may be either -/
def nilVc (F : Fs) (tt : TT) (sl : Bool) (T : Nat) (eq : Bool) (me : Mem) (y : AV) (K : AV → Prop) : Prop :=
  match tlook tt T with
  | some ⟨.slice _, _, _, _, _⟩ => match sl with
    | false => False
    | true => match y with
    | .nl => K (knownB eq true)
    | .z => ∀ b : Bool, K (nilB F eq b)
    | .sl _ _ _ _ _ n => ∀ b : Bool, (b = true → n = 0) → K (nilB F eq b)
    | .rb e c => match c.isE e with
      | true => ∀ b : Bool, (b = true → acNil c) → K (nilB F eq b)
      | false => False
    | .rw k => match mlook me k with
      | some (.row _ e c) => match c.isE e with
        | true => ∀ b : Bool, (b = true → acNil c) → K (nilB F eq b)
        | false => False
      | _ => False
    | _ => False
  | some ⟨.ptr _, _, _, _, _⟩ => match sl with
    | true => False
    | false => match y with
    | .pn => K (knownB eq true)
    | .p _ _ _ => K (knownB eq false)
    | .pr _ => K (knownB eq false)
    | _ => False
  | _ => False
/-- a range's next step -/
def nextOp : Op → Option Operand
  | .next x false => some x
  | _ => none
/-- nothing is left, or any entry that is left comes -/
def nextVc (F : Fs) (me : Mem) (y : AV) (K : AV → Mem → Prop) : Prop :=
  match y with
  | .p k 0 0 => match mlook me k with
    | some (.it j since seen last) => match mlook me j with
      | some (.mp _ _ _ M) => F.pRng M since last ∧ ((F.pOk M → F.pNoLeft M seen → K (.tup [.kb false]) []) ∧ ∀ b : Nat, F.pOk M → F.pLeft M seen b → K (.tup [.kb true, .u, .u]) [(k, .it j since (F.appN seen b) last)])
      | _ => False
    | _ => False
  | _ => False
/-- one operation -/
def opVc (F : Fs) (x : Cx) (o : Oper) (s : AS) (K : AS → Prop) : Prop :=
  match dstOk x.nt o.dst with
  | true => match kcall x.ks o.op with
    | some (k, args) => k (aop.gets F s.sl args) s fun v s' => K (s.ret o.dst v s')
    | none => match nilOp o.op with
      | some (sl, T, eq, y) => nilVc F x.tt sl T eq s.me (oget F s.sl y) fun v => K (s.upd o.dst v [])
      | none => match nextOp o.op with
        | some y => nextVc F s.me (oget F s.sl y) fun v puts => K (s.upd o.dst v puts)
        | none => match (aop F x.tt x.sp s.sl s.nk o.op).run s.me with
          | some e => e.c ∧ K (s.upd o.dst e.v e.puts)
          | none => False
  | false => False

/-- 'mu': every guard's answer is asked to be yes -/
def opsVc (F : Fs) (x : Cx) (mu : Bool) (all : List Oper) : List Oper → AS → (AS → Prop) → Prop
  | [], s, K => K s
  | o :: r, s, K => match o.guard with
    | none => opVc F x o s fun s' => opsVc F x mu all r s' K
    | some (j, want) => match nth all j with
      | none => False
      | some oj => match oj.dst with
        | none => False
        | some dj => match sget s.sl dj with
          | .kb true => match want with
            | true => opVc F x o s fun s' => opsVc F x mu all r s' K
            | false => opsVc F x mu all r (s.putO o.dst (.tup [])) K
          | .kb false => match want with
            | false => opVc F x o s fun s' => opsVc F x mu all r s' K
            | true => opsVc F x mu all r (s.putO o.dst (.tup [])) K
          | .b y => match mu with
            | true => F.pB y true ∧ (match want with
              | true => opVc F x o (s.put dj (.kb true)) fun s' => opsVc F x mu all r s' K
              | false => opsVc F x mu all r ((s.put dj (.kb true)).putO o.dst (.tup [])) K)
            | false => match want with
            | true => (F.pB y false ∨ opVc F x o (s.put dj (.kb true)) fun s' => opsVc F x mu all r s' K) ∧
                (F.pB y true ∨ opsVc F x mu all r ((s.put dj (.kb false)).putO o.dst (.tup [])) K)
            | false => (F.pB y true ∨ opVc F x o (s.put dj (.kb false)) fun s' => opsVc F x mu all r s' K) ∧
                (F.pB y false ∨ opsVc F x mu all r ((s.put dj (.kb true)).putO o.dst (.tup [])) K)
          | .tup [] => opsVc F x mu all r (s.putO o.dst (.tup [])) K
          | _ => False

inductive VX where
  | normal
  | exit (id : Nat)
  | ret
end Go.Vc
set_option linter.unusedVariables false
namespace Go.Vc
open Go Go.RowKit

/-- what one step may do to memory -/
structure Tr (m : Hd) (w : World) (m' : Hd) (w' : World) : Prop where
  mu : ∀ k v, m k = some v → m' k = some v
  ok : m'.ok = m.ok
  pub : ∀ b, m.pub b → m'.pub b
  pubn : ∀ b, m'.pub b → m.pub b ∨ (∃ k v, m k = some v ∧ blk v = some b) ∨ w.heap.size ≤ b
  size : w.heap.size ≤ w'.heap.size
  old : ∀ b, b < w.heap.size → (m.pub b ∨ ∀ k v, m k = some v → blk v ≠ some b) → w'.heap[b]? = w.heap[b]?
  own : ∀ k v b, m' k = some v → blk v = some b → (∃ k0 v0, m k0 = some v0 ∧ blk v0 = some b) ∨ w.heap.size ≤ b
  os : w'.os = w.os
  tape : w'.tape = w.tape
  output : w'.output = w.output

theorem Tr.refl (m : Hd) (w : World) : Tr m w m w :=
  ⟨fun _ _ h => h, rfl, fun _ h => h, fun _ h => .inl h, Nat.le_refl _, fun _ _ _ => rfl, fun k v b h1 h2 => .inl ⟨k, v, h1, h2⟩, rfl, rfl, rfl⟩

theorem Tr.pres {m m' : Hd} {w w' : World} (h : Tr m w m' w') : Pres m w m' w' := by
  refine ⟨h.mu, fun b ⟨hb, ho, hn⟩ => ⟨h.old b hb hn, Nat.lt_of_lt_of_le hb h.size, h.ok ▸ ho, ?_⟩⟩
  rcases hn with hn | hn
  · exact .inl (h.pub b hn)
  · refine .inr fun k v hk hv => ?_
    rcases h.own k v b hk hv with ⟨k0, v0, h1, h2⟩ | h1
    · exact hn k0 v0 h1 h2
    · omega

theorem Tr.trans {m m' m'' : Hd} {w w' w'' : World} (h : Tr m w m' w') (g : Tr m' w' m'' w'') : Tr m w m'' w'' := by
  refine ⟨fun k v hk => g.mu k v (h.mu k v hk), g.ok.trans h.ok, fun b hb => g.pub b (h.pub b hb), fun b hb => ?_, Nat.le_trans h.size g.size, fun b hb hn => ?_, fun k v b hk hv => ?_, g.os.trans h.os, g.tape.trans h.tape, g.output.trans h.output⟩
  · rcases g.pubn b hb with h1 | ⟨k, v, h1, h2⟩ | h1
    · exact h.pubn b h1
    · rcases h.own k v b h1 h2 with h3 | h3
      · exact .inr (.inl h3)
      · exact .inr (.inr h3)
    · exact .inr (.inr (Nat.le_trans h.size h1))
  · have hn' : m'.pub b ∨ ∀ k v, m' k = some v → blk v ≠ some b := by
      rcases hn with hn | hn
      · exact .inl (h.pub b hn)
      · refine .inr fun k v hk hv => ?_
        rcases h.own k v b hk hv with ⟨k0, v0, h1, h2⟩ | h1
        · exact hn k0 v0 h1 h2
        · omega
    rw [g.old b (Nat.lt_of_lt_of_le hb h.size) hn', h.old b hb hn]
  · rcases g.own k v b hk hv with ⟨k0, v0, h1, h2⟩ | h1
    · exact h.own k0 v0 b h1 h2
    · exact .inr (Nat.le_trans h.size h1)

/-- every handle leads to a block that is there -/
def Bd (m : Hd) (w : World) : Prop := ∀ k v b, m k = some v → blk v = some b → b < w.heap.size

theorem ABR_keep {m m' : Hd} {w w' : World} {k : Nat} {ab : AB} (h : ABR m w k ab) (hk : ∀ v, m k = some v → m' k = some v)
    (hb : ∀ v b, m k = some v → blk v = some b → w'.heap[b]? = w.heap[b]?) (hp : Pres m w m' w') : ABR m' w' k ab := by
  cases ab with
  | dead => trivial
  | bk T segs =>
    obtain ⟨g, cs, fz, h1, h2, h3, h4⟩ := h
    exact ⟨g, cs, fz, hk _ h1, by rw [hb _ g h1 rfl]; exact h2, h3, SegsR_mono hp _ _ h4⟩
  | row T e c =>
    obtain ⟨v, n, cs, h1, h2, h3⟩ := h
    refine ⟨v, n, cs, hk _ h1, ⟨h2.1, ?_⟩, RC_mono hp _ _ h3⟩
    rcases h2.2 with h4 | ⟨g, o, cap, cur, fz, rfl, h5, h6, h7, h8, h9⟩
    · exact .inl h4
    · exact .inr ⟨g, o, cap, cur, fz, rfl, by rw [hb _ g h1 (blk_slice h8)]; exact h5, h6, h7, h8, h9⟩
  | mp T kk vs M =>
    obtain ⟨r, es, h1, h2, h3, h4⟩ := h
    exact ⟨r, es, hk _ h1, by rw [hb _ r h1 rfl]; exact h2, ER_mono hp _ _ h3, h4⟩
  | it k0 since seen last =>
    obtain ⟨r, rm, h1, h2, h3⟩ := h
    exact ⟨r, rm, hk _ h1, hp.mu _ _ h2, by rw [hb _ r h1 rfl]; exact h3⟩

theorem mlook_cons (k : Nat) (a : AB) (r : Mem) (t : Nat) : mlook ((k, a) :: r) t = if k = t then some a else mlook r t := by
  simp only [mlook]
  by_cases h : k = t
  · subst h; simp
  · have : Nat.beq k t = false := by
      cases hb : Nat.beq k t with
      | false => rfl
      | true => exact absurd (Nat.eq_of_beq_eq_true hb) h
    simp [this, h]

def hput (m : Hd) (k : Nat) (v : Value) : Hd := ⟨fun t => if t = k then some v else m t, m.ok, m.pub⟩
theorem hput_apply (m : Hd) (k : Nat) (v : Value) (t : Nat) : (hput m k v) t = if t = k then some v else m t := rfl

/-- a new block under a new name -/
theorem tr_new {m : Hd} {w w' : World} {k : Nat} {v : Value} (hk : m k = none) (hs : w.heap.size ≤ w'.heap.size)
    (hv : ∀ b, blk v = some b → w.heap.size ≤ b) (hold : ∀ b, b < w.heap.size → w'.heap[b]? = w.heap[b]?)
    (os : w'.os = w.os) (tape : w'.tape = w.tape) (output : w'.output = w.output) : Tr m w (hput m k v) w' := by
  refine ⟨fun t u ht => ?_, rfl, fun _ h => h, fun _ h => .inl h, hs, fun b hb _ => hold b hb, fun t u b ht hu => ?_, os, tape, output⟩
  · rw [hput_apply]
    rw [if_neg (fun e => by rw [e, hk] at ht; cases ht)]
    exact ht
  · rw [hput_apply] at ht
    split at ht
    · cases ht; exact .inr (hv b hu)
    · exact .inl ⟨t, u, ht, hu⟩

theorem memR_new {m : Hd} {w w' : World} {me : Mem} {k : Nat} {v : Value} {ab : AB} (hm : MemR m w me) (hbd : Bd m w) (hk : m k = none)
    (hs : w.heap.size ≤ w'.heap.size) (hv : ∀ b, blk v = some b → w.heap.size ≤ b) (hold : ∀ b, b < w.heap.size → w'.heap[b]? = w.heap[b]?)
    (os : w'.os = w.os) (tape : w'.tape = w.tape) (output : w'.output = w.output) (hab : ABR (hput m k v) w' k ab) : MemR (hput m k v) w' ((k, ab) :: me) := by
  have ht := tr_new hk hs hv hold os tape output
  have hp := ht.pres
  refine ⟨fun t a ha => ?_, fun t t' a a' u u' b ha ha' hl hl' hne hu hu' hb hb' => ?_, fun b hb => Nat.lt_of_lt_of_le (hm.pubs b hb) hs, fun t a u b ha hl hu hb hpb => ?_, fun t a u b ha hl hu hb => ?_, fun b hb => hm.okn b (Nat.le_trans hs hb)⟩
  · rw [mlook_cons] at ha
    split at ha
    · rename_i e; subst e; cases ha; exact hab
    · refine ABR_keep (hm.at_ t a ha) (ht.mu t) (fun u b hu hb => hold b (hbd t u b hu hb)) hp
  · rw [mlook_cons] at ha ha'
    rw [hput_apply] at hu hu'
    by_cases e : k = t
    · subst e
      have e' : ¬ t' = k := fun e => hne e.symm
      rw [if_neg (fun e2 => e' e2.symm)] at ha'
      rw [if_pos rfl] at hu
      rw [if_neg e'] at hu'
      cases hu
      have h1 := hv b hb
      have h2 := hbd t' u' b hu' hb'
      omega
    · rw [if_neg e] at ha
      rw [if_neg (fun e2 => e e2.symm)] at hu
      by_cases e2 : k = t'
      · subst e2
        rw [if_pos rfl] at hu'
        cases hu'
        have h1 := hv b hb'
        have h2 := hbd t u b hu hb
        omega
      · rw [if_neg e2] at ha'
        rw [if_neg (fun e3 => e2 e3.symm)] at hu'
        exact hm.apart t t' a a' u u' b ha ha' hl hl' hne hu hu' hb hb'
  · rw [mlook_cons] at ha
    rw [hput_apply] at hu
    by_cases e : k = t
    · subst e
      rw [if_pos rfl] at hu
      cases hu
      have h1 := hv b hb
      have h2 := hm.pubs b hpb
      omega
    · rw [if_neg e] at ha
      rw [if_neg (fun e2 => e e2.symm)] at hu
      exact hm.live t a u b ha hl hu hb hpb
  · rw [mlook_cons] at ha
    rw [hput_apply] at hu
    by_cases e : k = t
    · subst e
      rw [if_pos rfl] at hu
      cases hu
      exact hm.okn b (hv b hb)
    · rw [if_neg e] at ha
      rw [if_neg (fun e2 => e e2.symm)] at hu
      exact hm.okl t a u b ha hl hu hb

theorem bd_new {m : Hd} {w w' : World} {k : Nat} {v : Value} (hbd : Bd m w) (hs : w.heap.size ≤ w'.heap.size) (hv : ∀ b, blk v = some b → b < w'.heap.size) : Bd (hput m k v) w' := by
  intro t u b ht hu
  rw [hput_apply] at ht
  split at ht
  · cases ht; exact hv b hu
  · have := hbd t u b ht hu; omega

/-- a write to the one block that a live name leads to -/
theorem tr_write {m : Hd} {w w' : World} {k : Nat} {v : Value} {g : Nat} (hpg : ¬ m.pub g) (hk : m k = some v) (hg : blk v = some g) (hs : w'.heap.size = w.heap.size)
    (hold : ∀ b, b ≠ g → w'.heap[b]? = w.heap[b]?) (os : w'.os = w.os) (tape : w'.tape = w.tape) (output : w'.output = w.output) : Tr m w m w' :=
  ⟨fun _ _ h => h, rfl, fun _ h => h, fun _ h => .inl h, Nat.le_of_eq hs.symm, fun b _ hn => hold b (fun e => by subst e; exact hn.elim hpg (fun hn => hn k v hk hg)), fun t u b ht hu => .inl ⟨t, u, ht, hu⟩, os, tape, output⟩

theorem memR_write {m : Hd} {w w' : World} {me : Mem} {k : Nat} {v : Value} {g : Nat} {ab ab' : AB} (hm : MemR m w me) (hl0 : mlook me k = some ab) (hlive : ab.live = true)
    (hk : m k = some v) (hg : blk v = some g) (hs : w'.heap.size = w.heap.size)
    (hold : ∀ b, b ≠ g → w'.heap[b]? = w.heap[b]?) (os : w'.os = w.os) (tape : w'.tape = w.tape) (output : w'.output = w.output) (hab : ABR m w' k ab') : MemR m w' ((k, ab') :: me) := by
  have ht := tr_write (hm.live k ab v g hl0 hlive hk hg) hk hg hs hold os tape output
  refine ⟨fun t a ha => ?_, fun t t' a a' u u' b ha ha' hl hl' hne hu hu' hb hb' => ?_, fun b hb => by rw [hs]; exact hm.pubs b hb, fun t a u b ha hl hu hb => ?_, fun t a u b ha hl hu hb => ?_, fun b hb => hm.okn b (by omega)⟩
  · rw [mlook_cons] at ha
    split at ha
    · rename_i e; subst e; cases ha; exact hab
    · rename_i e
      cases hla : a.live with
      | false => cases a with
        | dead => trivial
        | _ => simp [AB.live] at hla
      | true =>
        refine ABR_keep (hm.at_ t a ha) (ht.mu t) (fun u b hu hb => hold b (fun e2 => ?_)) ht.pres
        subst e2
        exact hm.apart k t ab a v u b hl0 ha hlive hla e hk hu hg hb
  · rw [mlook_cons] at ha ha'
    by_cases e : k = t
    · subst e
      rw [if_neg hne] at ha'
      rw [hk] at hu; cases hu
      exact hm.apart k t' ab a' v u' b hl0 ha' hlive hl' hne hk hu' hb hb'
    · rw [if_neg e] at ha
      by_cases e2 : k = t'
      · subst e2
        rw [hk] at hu'; cases hu'
        exact hm.apart t k a ab u v b ha hl0 hl hlive hne hu hk hb hb'
      · rw [if_neg e2] at ha'
        exact hm.apart t t' a a' u u' b ha ha' hl hl' hne hu hu' hb hb'
  · rw [mlook_cons] at ha
    by_cases e : k = t
    · subst e
      exact hm.live k ab u b hl0 hlive hu hb
    · rw [if_neg e] at ha
      exact hm.live t a u b ha hl hu hb
  · rw [mlook_cons] at ha
    by_cases e : k = t
    · subst e
      exact hm.okl k ab u b hl0 hlive hu hb
    · rw [if_neg e] at ha
      exact hm.okl t a u b ha hl hu hb

/-- an operation's outcome -/
structure OkE (m : Hd) (w : World) (me : Mem) (kb : Nat) (av : AV) (puts : Mem) (v : Value) (m' : Hd) (w' : World) : Prop where
  tr : Tr m w m' w'
  rv : RV m' w' av v
  mem : MemR m' w' (mputs puts me)
  keys : ∀ k, m' k ≠ none → m k ≠ none ∨ (kb ≤ k ∧ k < kb + 8)
  bd : Bd m' w'

structure Base (m : Hd) (w : World) (me : Mem) (kb : Nat) : Prop where
  mem : MemR m w me
  bd : Bd m w
  fresh : ∀ k, kb ≤ k → k < kb + 8 → m k = none

theorem Base.same {m : Hd} {w : World} {me : Mem} {kb : Nat} (h : Base m w me kb) {av : AV} {v : Value} (hv : RV m w av v) : OkE m w me kb av [] v m w :=
  ⟨Tr.refl m w, hv, h.mem, fun _ hk => .inl hk, h.bd⟩

theorem Base.new {m : Hd} {w : World} {me : Mem} {kb : Nat} (h : Base m w me kb) {w' : World} {v : Value} {ab : AB} {av : AV}
    (hs : w.heap.size ≤ w'.heap.size) (hv : ∀ b, blk v = some b → w.heap.size ≤ b) (hv' : ∀ b, blk v = some b → b < w'.heap.size) (hold : ∀ b, b < w.heap.size → w'.heap[b]? = w.heap[b]?)
    (os : w'.os = w.os) (tape : w'.tape = w.tape) (output : w'.output = w.output) (hab : ABR (hput m kb v) w' kb ab)
    (hrv : RV (hput m kb v) w' av v) : OkE m w me kb av [(kb, ab)] v (hput m kb v) w' := by
  have hk := h.fresh kb (Nat.le_refl _) (by omega)
  refine ⟨tr_new hk hs hv hold os tape output, hrv, memR_new h.mem h.bd hk hs hv hold os tape output hab, fun k hk' => ?_, bd_new h.bd hs hv'⟩
  rw [hput_apply] at hk'
  split at hk'
  · rename_i e; exact .inr ⟨by omega, by omega⟩
  · exact .inl hk'

theorem Base.write {m : Hd} {w : World} {me : Mem} {kb : Nat} (h : Base m w me kb) {w' : World} {k g : Nat} {v v1 : Value} {ab ab' : AB} {av : AV}
    (hl0 : mlook me k = some ab) (hlive : ab.live = true) (hk : m k = some v) (hg : blk v = some g) (hs : w'.heap.size = w.heap.size)
    (hold : ∀ b, b ≠ g → w'.heap[b]? = w.heap[b]?) (os : w'.os = w.os) (tape : w'.tape = w.tape) (output : w'.output = w.output) (hab : ABR m w' k ab')
    (hrv : RV m w' av v1) : OkE m w me kb av [(k, ab')] v1 m w' :=
  ⟨tr_write (h.mem.live k ab v g hl0 hlive hk hg) hk hg hs hold os tape output, hrv, memR_write h.mem hl0 hlive hk hg hs hold os tape output hab, fun _ h => .inl h, fun t u b ht hu => by have := h.bd t u b ht hu; omega⟩

/-- what an operation's run has to come to -/
def OpRun (P : Program) (ρ : Operand → Value) (o : Oper) (w : World) (post : Value → World → Prop) : Prop :=
  match (execOp ρ o).run P w with
  | .ok (.value v) w' => post v w'
  | .ok .skip w' => post undef w'
  | .ok (.enter f args) w' => Calls P f args w' fun e w'' => ∃ v, e = .returned v ∧ post v w''
  | _ => False

theorem OpRun.wp {P : Program} {o : Oper} {a : Act} {w : World} {post : Value → World → Prop} {K : Act → World → Prop} {Q : Exit → Act → World → Prop}
    (h : OpRun P a.eval o w post) (hK : ∀ v w', post v w' → K (a.put o.dst v) w') : o.wp P a w K Q := by
  unfold OpRun at h
  unfold Oper.wp
  generalize (execOp a.eval o).run P w = r at h
  cases r with
  | halt x w' => exact h.elim
  | ok n w' =>
    cases n <;> simp only [Oper.upon] <;> first
      | exact hK _ _ h
      | exact h.elim
      | exact Calls.mono h (fun e w'' ⟨v, he, hp⟩ => by subst he; exact hK _ _ hp)
end Go.Vc
set_option linter.unusedVariables false
set_option linter.unusedSimpArgs false
namespace Go.Vc
open Go Go.RowKit

theorem fdiv_nat (a b : Nat) : (a : Int).fdiv (b : Int) = ((a / b : Nat) : Int) := by
  rw [Int.fdiv_eq_ediv_of_nonneg _ (Int.natCast_nonneg b)]; rfl
theorem emod_nat (a b : Nat) : (a : Int) % (b : Int) = ((a % b : Nat) : Int) := rfl
theorem pow_nat (n : Nat) : (2 : Int) ^ n = ((2 ^ n : Nat) : Int) := by simp

theorem wrap_u8 (a : Int) : IntKind.wrap .u8 a = a % 256 := by simp [IntKind.wrap, IntKind.bits, IntKind.signed]
theorem lt_u8 (x : UInt8) : x.toNat < 256 := x.toNat_lt
theorem add_u8 (x y : UInt8) : IntKind.wrap .u8 (x.toNat + y.toNat) = ((x + y).toNat : Int) := by
  rw [wrap_u8, UInt8.toNat_add]; omega
theorem sub_u8 (x y : UInt8) : IntKind.wrap .u8 (x.toNat - y.toNat) = ((x - y).toNat : Int) := by
  have := lt_u8 x; have := lt_u8 y
  rw [wrap_u8, UInt8.toNat_sub]; omega
theorem mul_u8 (x y : UInt8) : IntKind.wrap .u8 (x.toNat * y.toNat) = ((x * y).toNat : Int) := by
  rw [wrap_u8, UInt8.toNat_mul, ← Int.natCast_mul]
  exact emod_nat _ _
theorem ofInt_u8 (x : UInt8) : BitVec.ofInt 8 (x.toNat : Int) = x.toBitVec := by
  rw [BitVec.ofInt_natCast]; simp
theorem wrapId_u8 (x : UInt8) : IntKind.wrap .u8 (x.toNat : Int) = (x.toNat : Int) := by
  have := lt_u8 x
  rw [wrap_u8]; omega
theorem and_u8 (x y : UInt8) : IntKind.wrap .u8 ((BitVec.ofInt (IntKind.bits .u8) (x.toNat : Int) &&& BitVec.ofInt (IntKind.bits .u8) (y.toNat : Int)).toNat : Int) = ((x &&& y).toNat : Int) := by
  have h : (BitVec.ofInt (IntKind.bits .u8) (x.toNat : Int) &&& BitVec.ofInt (IntKind.bits .u8) (y.toNat : Int)).toNat = (x &&& y).toNat := by
    show (BitVec.ofInt 8 _ &&& BitVec.ofInt 8 _).toNat = _
    rw [ofInt_u8, ofInt_u8]; rfl
  rw [h]; exact wrapId_u8 _
theorem or_u8 (x y : UInt8) : IntKind.wrap .u8 ((BitVec.ofInt (IntKind.bits .u8) (x.toNat : Int) ||| BitVec.ofInt (IntKind.bits .u8) (y.toNat : Int)).toNat : Int) = ((x ||| y).toNat : Int) := by
  have h : (BitVec.ofInt (IntKind.bits .u8) (x.toNat : Int) ||| BitVec.ofInt (IntKind.bits .u8) (y.toNat : Int)).toNat = (x ||| y).toNat := by
    show (BitVec.ofInt 8 _ ||| BitVec.ofInt 8 _).toNat = _
    rw [ofInt_u8, ofInt_u8]; rfl
  rw [h]; exact wrapId_u8 _
theorem xor_u8 (x y : UInt8) : IntKind.wrap .u8 ((BitVec.ofInt (IntKind.bits .u8) (x.toNat : Int) ^^^ BitVec.ofInt (IntKind.bits .u8) (y.toNat : Int)).toNat : Int) = ((x ^^^ y).toNat : Int) := by
  have h : (BitVec.ofInt (IntKind.bits .u8) (x.toNat : Int) ^^^ BitVec.ofInt (IntKind.bits .u8) (y.toNat : Int)).toNat = (x ^^^ y).toNat := by
    show (BitVec.ofInt 8 _ ^^^ BitVec.ofInt 8 _).toNat = _
    rw [ofInt_u8, ofInt_u8]; rfl
  rw [h]; exact wrapId_u8 _
theorem andNot_u8 (x y : UInt8) : IntKind.wrap .u8 ((BitVec.ofInt (IntKind.bits .u8) (x.toNat : Int) &&& ~~~BitVec.ofInt (IntKind.bits .u8) (y.toNat : Int)).toNat : Int) = ((x &&& ~~~y).toNat : Int) := by
  have h : (BitVec.ofInt (IntKind.bits .u8) (x.toNat : Int) &&& ~~~BitVec.ofInt (IntKind.bits .u8) (y.toNat : Int)).toNat = (x &&& ~~~y).toNat := by
    show (BitVec.ofInt 8 _ &&& ~~~BitVec.ofInt 8 _).toNat = _
    rw [ofInt_u8, ofInt_u8]; rfl
  rw [h]; exact wrapId_u8 _
theorem not_u8 (x : UInt8) : IntKind.wrap .u8 ((BitVec.ofInt (IntKind.bits .u8) (IntKind.max .u8) ^^^ BitVec.ofInt (IntKind.bits .u8) (x.toNat : Int)).toNat : Int) = ((~~~x).toNat : Int) := by
  have h : (BitVec.ofInt (IntKind.bits .u8) (IntKind.max .u8) ^^^ BitVec.ofInt (IntKind.bits .u8) (x.toNat : Int)).toNat = (~~~x).toNat := by
    have e : BitVec.ofInt (IntKind.bits .u8) (IntKind.max .u8) = BitVec.allOnes 8 := by rfl
    rw [e]
    show (BitVec.allOnes 8 ^^^ BitVec.ofInt 8 _).toNat = _
    rw [ofInt_u8, BitVec.allOnes_xor]; rfl
  rw [h]; exact wrapId_u8 _
theorem shl_u8 (x : UInt8) (s : Nat) : IntKind.wrap .u8 ((x.toNat : Int) * 2 ^ s) = ((UInt8.ofNat (x.toNat * 2 ^ s)).toNat : Int) := by
  rw [wrap_u8, pow_nat, ← Int.natCast_mul, UInt8.toNat_ofNat']
  exact emod_nat _ _
theorem shr_u8 (x : UInt8) (s : Nat) : (x.toNat : Int).fdiv (2 ^ s) = ((UInt8.ofNat (x.toNat / 2 ^ s)).toNat : Int) := by
  rw [pow_nat, fdiv_nat, UInt8.toNat_ofNat']
  have h1 := lt_u8 x
  have h2 : x.toNat / 2 ^ s ≤ x.toNat := Nat.div_le_self _ _
  rw [Nat.mod_eq_of_lt (by omega)]
theorem quo_u8 (x y : UInt8) : IntKind.wrap .u8 ((x.toNat : Int).tdiv y.toNat) = ((x / y).toNat : Int) := by
  rw [← Int.ofNat_tdiv, ← UInt8.toNat_div]; exact wrapId_u8 _
theorem rem_u8 (x y : UInt8) : (x.toNat : Int).tmod y.toNat = ((x % y).toNat : Int) := by
  rw [← Int.ofNat_tmod, ← UInt8.toNat_mod]
theorem eq_u8 (x y : UInt8) : ((x.toNat : Int) == (y.toNat : Int)) = (x == y) := by
  rw [Bool.eq_iff_iff]; simp [← UInt8.toNat_inj]; omega
theorem ofI_u8 (a : Int) : IntKind.wrap .u8 a = ((UInt8.ofNat (a % 2 ^ 8).toNat).toNat : Int) := by
  rw [wrap_u8, UInt8.toNat_ofNat']
  omega
theorem wrap_u16 (a : Int) : IntKind.wrap .u16 a = a % 65536 := by simp [IntKind.wrap, IntKind.bits, IntKind.signed]
theorem lt_u16 (x : UInt16) : x.toNat < 65536 := x.toNat_lt
theorem add_u16 (x y : UInt16) : IntKind.wrap .u16 (x.toNat + y.toNat) = ((x + y).toNat : Int) := by
  rw [wrap_u16, UInt16.toNat_add]; omega
theorem sub_u16 (x y : UInt16) : IntKind.wrap .u16 (x.toNat - y.toNat) = ((x - y).toNat : Int) := by
  have := lt_u16 x; have := lt_u16 y
  rw [wrap_u16, UInt16.toNat_sub]; omega
theorem mul_u16 (x y : UInt16) : IntKind.wrap .u16 (x.toNat * y.toNat) = ((x * y).toNat : Int) := by
  rw [wrap_u16, UInt16.toNat_mul, ← Int.natCast_mul]
  exact emod_nat _ _
theorem ofInt_u16 (x : UInt16) : BitVec.ofInt 16 (x.toNat : Int) = x.toBitVec := by
  rw [BitVec.ofInt_natCast]; simp
theorem wrapId_u16 (x : UInt16) : IntKind.wrap .u16 (x.toNat : Int) = (x.toNat : Int) := by
  have := lt_u16 x
  rw [wrap_u16]; omega
theorem and_u16 (x y : UInt16) : IntKind.wrap .u16 ((BitVec.ofInt (IntKind.bits .u16) (x.toNat : Int) &&& BitVec.ofInt (IntKind.bits .u16) (y.toNat : Int)).toNat : Int) = ((x &&& y).toNat : Int) := by
  have h : (BitVec.ofInt (IntKind.bits .u16) (x.toNat : Int) &&& BitVec.ofInt (IntKind.bits .u16) (y.toNat : Int)).toNat = (x &&& y).toNat := by
    show (BitVec.ofInt 16 _ &&& BitVec.ofInt 16 _).toNat = _
    rw [ofInt_u16, ofInt_u16]; rfl
  rw [h]; exact wrapId_u16 _
theorem or_u16 (x y : UInt16) : IntKind.wrap .u16 ((BitVec.ofInt (IntKind.bits .u16) (x.toNat : Int) ||| BitVec.ofInt (IntKind.bits .u16) (y.toNat : Int)).toNat : Int) = ((x ||| y).toNat : Int) := by
  have h : (BitVec.ofInt (IntKind.bits .u16) (x.toNat : Int) ||| BitVec.ofInt (IntKind.bits .u16) (y.toNat : Int)).toNat = (x ||| y).toNat := by
    show (BitVec.ofInt 16 _ ||| BitVec.ofInt 16 _).toNat = _
    rw [ofInt_u16, ofInt_u16]; rfl
  rw [h]; exact wrapId_u16 _
theorem xor_u16 (x y : UInt16) : IntKind.wrap .u16 ((BitVec.ofInt (IntKind.bits .u16) (x.toNat : Int) ^^^ BitVec.ofInt (IntKind.bits .u16) (y.toNat : Int)).toNat : Int) = ((x ^^^ y).toNat : Int) := by
  have h : (BitVec.ofInt (IntKind.bits .u16) (x.toNat : Int) ^^^ BitVec.ofInt (IntKind.bits .u16) (y.toNat : Int)).toNat = (x ^^^ y).toNat := by
    show (BitVec.ofInt 16 _ ^^^ BitVec.ofInt 16 _).toNat = _
    rw [ofInt_u16, ofInt_u16]; rfl
  rw [h]; exact wrapId_u16 _
theorem andNot_u16 (x y : UInt16) : IntKind.wrap .u16 ((BitVec.ofInt (IntKind.bits .u16) (x.toNat : Int) &&& ~~~BitVec.ofInt (IntKind.bits .u16) (y.toNat : Int)).toNat : Int) = ((x &&& ~~~y).toNat : Int) := by
  have h : (BitVec.ofInt (IntKind.bits .u16) (x.toNat : Int) &&& ~~~BitVec.ofInt (IntKind.bits .u16) (y.toNat : Int)).toNat = (x &&& ~~~y).toNat := by
    show (BitVec.ofInt 16 _ &&& ~~~BitVec.ofInt 16 _).toNat = _
    rw [ofInt_u16, ofInt_u16]; rfl
  rw [h]; exact wrapId_u16 _
theorem not_u16 (x : UInt16) : IntKind.wrap .u16 ((BitVec.ofInt (IntKind.bits .u16) (IntKind.max .u16) ^^^ BitVec.ofInt (IntKind.bits .u16) (x.toNat : Int)).toNat : Int) = ((~~~x).toNat : Int) := by
  have h : (BitVec.ofInt (IntKind.bits .u16) (IntKind.max .u16) ^^^ BitVec.ofInt (IntKind.bits .u16) (x.toNat : Int)).toNat = (~~~x).toNat := by
    have e : BitVec.ofInt (IntKind.bits .u16) (IntKind.max .u16) = BitVec.allOnes 16 := by rfl
    rw [e]
    show (BitVec.allOnes 16 ^^^ BitVec.ofInt 16 _).toNat = _
    rw [ofInt_u16, BitVec.allOnes_xor]; rfl
  rw [h]; exact wrapId_u16 _
theorem shl_u16 (x : UInt16) (s : Nat) : IntKind.wrap .u16 ((x.toNat : Int) * 2 ^ s) = ((UInt16.ofNat (x.toNat * 2 ^ s)).toNat : Int) := by
  rw [wrap_u16, pow_nat, ← Int.natCast_mul, UInt16.toNat_ofNat']
  exact emod_nat _ _
theorem shr_u16 (x : UInt16) (s : Nat) : (x.toNat : Int).fdiv (2 ^ s) = ((UInt16.ofNat (x.toNat / 2 ^ s)).toNat : Int) := by
  rw [pow_nat, fdiv_nat, UInt16.toNat_ofNat']
  have h1 := lt_u16 x
  have h2 : x.toNat / 2 ^ s ≤ x.toNat := Nat.div_le_self _ _
  rw [Nat.mod_eq_of_lt (by omega)]
theorem quo_u16 (x y : UInt16) : IntKind.wrap .u16 ((x.toNat : Int).tdiv y.toNat) = ((x / y).toNat : Int) := by
  rw [← Int.ofNat_tdiv, ← UInt16.toNat_div]; exact wrapId_u16 _
theorem rem_u16 (x y : UInt16) : (x.toNat : Int).tmod y.toNat = ((x % y).toNat : Int) := by
  rw [← Int.ofNat_tmod, ← UInt16.toNat_mod]
theorem eq_u16 (x y : UInt16) : ((x.toNat : Int) == (y.toNat : Int)) = (x == y) := by
  rw [Bool.eq_iff_iff]; simp [← UInt16.toNat_inj]; omega
theorem ofI_u16 (a : Int) : IntKind.wrap .u16 a = ((UInt16.ofNat (a % 2 ^ 16).toNat).toNat : Int) := by
  rw [wrap_u16, UInt16.toNat_ofNat']
  omega
theorem wrap_u32 (a : Int) : IntKind.wrap .u32 a = a % 4294967296 := by simp [IntKind.wrap, IntKind.bits, IntKind.signed]
theorem lt_u32 (x : UInt32) : x.toNat < 4294967296 := x.toNat_lt
theorem add_u32 (x y : UInt32) : IntKind.wrap .u32 (x.toNat + y.toNat) = ((x + y).toNat : Int) := by
  rw [wrap_u32, UInt32.toNat_add]; omega
theorem sub_u32 (x y : UInt32) : IntKind.wrap .u32 (x.toNat - y.toNat) = ((x - y).toNat : Int) := by
  have := lt_u32 x; have := lt_u32 y
  rw [wrap_u32, UInt32.toNat_sub]; omega
theorem mul_u32 (x y : UInt32) : IntKind.wrap .u32 (x.toNat * y.toNat) = ((x * y).toNat : Int) := by
  rw [wrap_u32, UInt32.toNat_mul, ← Int.natCast_mul]
  exact emod_nat _ _
theorem ofInt_u32 (x : UInt32) : BitVec.ofInt 32 (x.toNat : Int) = x.toBitVec := by
  rw [BitVec.ofInt_natCast]; simp
theorem wrapId_u32 (x : UInt32) : IntKind.wrap .u32 (x.toNat : Int) = (x.toNat : Int) := by
  have := lt_u32 x
  rw [wrap_u32]; omega
theorem and_u32 (x y : UInt32) : IntKind.wrap .u32 ((BitVec.ofInt (IntKind.bits .u32) (x.toNat : Int) &&& BitVec.ofInt (IntKind.bits .u32) (y.toNat : Int)).toNat : Int) = ((x &&& y).toNat : Int) := by
  have h : (BitVec.ofInt (IntKind.bits .u32) (x.toNat : Int) &&& BitVec.ofInt (IntKind.bits .u32) (y.toNat : Int)).toNat = (x &&& y).toNat := by
    show (BitVec.ofInt 32 _ &&& BitVec.ofInt 32 _).toNat = _
    rw [ofInt_u32, ofInt_u32]; rfl
  rw [h]; exact wrapId_u32 _
theorem or_u32 (x y : UInt32) : IntKind.wrap .u32 ((BitVec.ofInt (IntKind.bits .u32) (x.toNat : Int) ||| BitVec.ofInt (IntKind.bits .u32) (y.toNat : Int)).toNat : Int) = ((x ||| y).toNat : Int) := by
  have h : (BitVec.ofInt (IntKind.bits .u32) (x.toNat : Int) ||| BitVec.ofInt (IntKind.bits .u32) (y.toNat : Int)).toNat = (x ||| y).toNat := by
    show (BitVec.ofInt 32 _ ||| BitVec.ofInt 32 _).toNat = _
    rw [ofInt_u32, ofInt_u32]; rfl
  rw [h]; exact wrapId_u32 _
theorem xor_u32 (x y : UInt32) : IntKind.wrap .u32 ((BitVec.ofInt (IntKind.bits .u32) (x.toNat : Int) ^^^ BitVec.ofInt (IntKind.bits .u32) (y.toNat : Int)).toNat : Int) = ((x ^^^ y).toNat : Int) := by
  have h : (BitVec.ofInt (IntKind.bits .u32) (x.toNat : Int) ^^^ BitVec.ofInt (IntKind.bits .u32) (y.toNat : Int)).toNat = (x ^^^ y).toNat := by
    show (BitVec.ofInt 32 _ ^^^ BitVec.ofInt 32 _).toNat = _
    rw [ofInt_u32, ofInt_u32]; rfl
  rw [h]; exact wrapId_u32 _
theorem andNot_u32 (x y : UInt32) : IntKind.wrap .u32 ((BitVec.ofInt (IntKind.bits .u32) (x.toNat : Int) &&& ~~~BitVec.ofInt (IntKind.bits .u32) (y.toNat : Int)).toNat : Int) = ((x &&& ~~~y).toNat : Int) := by
  have h : (BitVec.ofInt (IntKind.bits .u32) (x.toNat : Int) &&& ~~~BitVec.ofInt (IntKind.bits .u32) (y.toNat : Int)).toNat = (x &&& ~~~y).toNat := by
    show (BitVec.ofInt 32 _ &&& ~~~BitVec.ofInt 32 _).toNat = _
    rw [ofInt_u32, ofInt_u32]; rfl
  rw [h]; exact wrapId_u32 _
theorem not_u32 (x : UInt32) : IntKind.wrap .u32 ((BitVec.ofInt (IntKind.bits .u32) (IntKind.max .u32) ^^^ BitVec.ofInt (IntKind.bits .u32) (x.toNat : Int)).toNat : Int) = ((~~~x).toNat : Int) := by
  have h : (BitVec.ofInt (IntKind.bits .u32) (IntKind.max .u32) ^^^ BitVec.ofInt (IntKind.bits .u32) (x.toNat : Int)).toNat = (~~~x).toNat := by
    have e : BitVec.ofInt (IntKind.bits .u32) (IntKind.max .u32) = BitVec.allOnes 32 := by rfl
    rw [e]
    show (BitVec.allOnes 32 ^^^ BitVec.ofInt 32 _).toNat = _
    rw [ofInt_u32, BitVec.allOnes_xor]; rfl
  rw [h]; exact wrapId_u32 _
theorem shl_u32 (x : UInt32) (s : Nat) : IntKind.wrap .u32 ((x.toNat : Int) * 2 ^ s) = ((UInt32.ofNat (x.toNat * 2 ^ s)).toNat : Int) := by
  rw [wrap_u32, pow_nat, ← Int.natCast_mul, UInt32.toNat_ofNat']
  exact emod_nat _ _
theorem shr_u32 (x : UInt32) (s : Nat) : (x.toNat : Int).fdiv (2 ^ s) = ((UInt32.ofNat (x.toNat / 2 ^ s)).toNat : Int) := by
  rw [pow_nat, fdiv_nat, UInt32.toNat_ofNat']
  have h1 := lt_u32 x
  have h2 : x.toNat / 2 ^ s ≤ x.toNat := Nat.div_le_self _ _
  rw [Nat.mod_eq_of_lt (by omega)]
theorem quo_u32 (x y : UInt32) : IntKind.wrap .u32 ((x.toNat : Int).tdiv y.toNat) = ((x / y).toNat : Int) := by
  rw [← Int.ofNat_tdiv, ← UInt32.toNat_div]; exact wrapId_u32 _
theorem rem_u32 (x y : UInt32) : (x.toNat : Int).tmod y.toNat = ((x % y).toNat : Int) := by
  rw [← Int.ofNat_tmod, ← UInt32.toNat_mod]
theorem eq_u32 (x y : UInt32) : ((x.toNat : Int) == (y.toNat : Int)) = (x == y) := by
  rw [Bool.eq_iff_iff]; simp [← UInt32.toNat_inj]; omega
theorem ofI_u32 (a : Int) : IntKind.wrap .u32 a = ((UInt32.ofNat (a % 2 ^ 32).toNat).toNat : Int) := by
  rw [wrap_u32, UInt32.toNat_ofNat']
  omega
theorem wrap_u64 (a : Int) : IntKind.wrap .u64 a = a % 18446744073709551616 := by simp [IntKind.wrap, IntKind.bits, IntKind.signed]
theorem lt_u64 (x : UInt64) : x.toNat < 18446744073709551616 := x.toNat_lt
theorem add_u64 (x y : UInt64) : IntKind.wrap .u64 (x.toNat + y.toNat) = ((x + y).toNat : Int) := by
  rw [wrap_u64, UInt64.toNat_add]; omega
theorem sub_u64 (x y : UInt64) : IntKind.wrap .u64 (x.toNat - y.toNat) = ((x - y).toNat : Int) := by
  have := lt_u64 x; have := lt_u64 y
  rw [wrap_u64, UInt64.toNat_sub]; omega
theorem mul_u64 (x y : UInt64) : IntKind.wrap .u64 (x.toNat * y.toNat) = ((x * y).toNat : Int) := by
  rw [wrap_u64, UInt64.toNat_mul, ← Int.natCast_mul]
  exact emod_nat _ _
theorem ofInt_u64 (x : UInt64) : BitVec.ofInt 64 (x.toNat : Int) = x.toBitVec := by
  rw [BitVec.ofInt_natCast]; simp
theorem wrapId_u64 (x : UInt64) : IntKind.wrap .u64 (x.toNat : Int) = (x.toNat : Int) := by
  have := lt_u64 x
  rw [wrap_u64]; omega
theorem and_u64 (x y : UInt64) : IntKind.wrap .u64 ((BitVec.ofInt (IntKind.bits .u64) (x.toNat : Int) &&& BitVec.ofInt (IntKind.bits .u64) (y.toNat : Int)).toNat : Int) = ((x &&& y).toNat : Int) := by
  have h : (BitVec.ofInt (IntKind.bits .u64) (x.toNat : Int) &&& BitVec.ofInt (IntKind.bits .u64) (y.toNat : Int)).toNat = (x &&& y).toNat := by
    show (BitVec.ofInt 64 _ &&& BitVec.ofInt 64 _).toNat = _
    rw [ofInt_u64, ofInt_u64]; rfl
  rw [h]; exact wrapId_u64 _
theorem or_u64 (x y : UInt64) : IntKind.wrap .u64 ((BitVec.ofInt (IntKind.bits .u64) (x.toNat : Int) ||| BitVec.ofInt (IntKind.bits .u64) (y.toNat : Int)).toNat : Int) = ((x ||| y).toNat : Int) := by
  have h : (BitVec.ofInt (IntKind.bits .u64) (x.toNat : Int) ||| BitVec.ofInt (IntKind.bits .u64) (y.toNat : Int)).toNat = (x ||| y).toNat := by
    show (BitVec.ofInt 64 _ ||| BitVec.ofInt 64 _).toNat = _
    rw [ofInt_u64, ofInt_u64]; rfl
  rw [h]; exact wrapId_u64 _
theorem xor_u64 (x y : UInt64) : IntKind.wrap .u64 ((BitVec.ofInt (IntKind.bits .u64) (x.toNat : Int) ^^^ BitVec.ofInt (IntKind.bits .u64) (y.toNat : Int)).toNat : Int) = ((x ^^^ y).toNat : Int) := by
  have h : (BitVec.ofInt (IntKind.bits .u64) (x.toNat : Int) ^^^ BitVec.ofInt (IntKind.bits .u64) (y.toNat : Int)).toNat = (x ^^^ y).toNat := by
    show (BitVec.ofInt 64 _ ^^^ BitVec.ofInt 64 _).toNat = _
    rw [ofInt_u64, ofInt_u64]; rfl
  rw [h]; exact wrapId_u64 _
theorem andNot_u64 (x y : UInt64) : IntKind.wrap .u64 ((BitVec.ofInt (IntKind.bits .u64) (x.toNat : Int) &&& ~~~BitVec.ofInt (IntKind.bits .u64) (y.toNat : Int)).toNat : Int) = ((x &&& ~~~y).toNat : Int) := by
  have h : (BitVec.ofInt (IntKind.bits .u64) (x.toNat : Int) &&& ~~~BitVec.ofInt (IntKind.bits .u64) (y.toNat : Int)).toNat = (x &&& ~~~y).toNat := by
    show (BitVec.ofInt 64 _ &&& ~~~BitVec.ofInt 64 _).toNat = _
    rw [ofInt_u64, ofInt_u64]; rfl
  rw [h]; exact wrapId_u64 _
theorem not_u64 (x : UInt64) : IntKind.wrap .u64 ((BitVec.ofInt (IntKind.bits .u64) (IntKind.max .u64) ^^^ BitVec.ofInt (IntKind.bits .u64) (x.toNat : Int)).toNat : Int) = ((~~~x).toNat : Int) := by
  have h : (BitVec.ofInt (IntKind.bits .u64) (IntKind.max .u64) ^^^ BitVec.ofInt (IntKind.bits .u64) (x.toNat : Int)).toNat = (~~~x).toNat := by
    have e : BitVec.ofInt (IntKind.bits .u64) (IntKind.max .u64) = BitVec.allOnes 64 := by rfl
    rw [e]
    show (BitVec.allOnes 64 ^^^ BitVec.ofInt 64 _).toNat = _
    rw [ofInt_u64, BitVec.allOnes_xor]; rfl
  rw [h]; exact wrapId_u64 _
theorem shl_u64 (x : UInt64) (s : Nat) : IntKind.wrap .u64 ((x.toNat : Int) * 2 ^ s) = ((UInt64.ofNat (x.toNat * 2 ^ s)).toNat : Int) := by
  rw [wrap_u64, pow_nat, ← Int.natCast_mul, UInt64.toNat_ofNat']
  exact emod_nat _ _
theorem shr_u64 (x : UInt64) (s : Nat) : (x.toNat : Int).fdiv (2 ^ s) = ((UInt64.ofNat (x.toNat / 2 ^ s)).toNat : Int) := by
  rw [pow_nat, fdiv_nat, UInt64.toNat_ofNat']
  have h1 := lt_u64 x
  have h2 : x.toNat / 2 ^ s ≤ x.toNat := Nat.div_le_self _ _
  rw [Nat.mod_eq_of_lt (by omega)]
theorem quo_u64 (x y : UInt64) : IntKind.wrap .u64 ((x.toNat : Int).tdiv y.toNat) = ((x / y).toNat : Int) := by
  rw [← Int.ofNat_tdiv, ← UInt64.toNat_div]; exact wrapId_u64 _
theorem rem_u64 (x y : UInt64) : (x.toNat : Int).tmod y.toNat = ((x % y).toNat : Int) := by
  rw [← Int.ofNat_tmod, ← UInt64.toNat_mod]
theorem eq_u64 (x y : UInt64) : ((x.toNat : Int) == (y.toNat : Int)) = (x == y) := by
  rw [Bool.eq_iff_iff]; simp [← UInt64.toNat_inj]; omega
theorem ofI_u64 (a : Int) : IntKind.wrap .u64 a = ((UInt64.ofNat (a % 2 ^ 64).toNat).toNat : Int) := by
  rw [wrap_u64, UInt64.toNat_ofNat']
  omega

end Go.Vc
set_option linter.unusedVariables false
set_option linter.unusedSimpArgs false
namespace Go.Vc
open Go Go.RowKit

/-! ## Types -/
def KKok (P : Program) (T : Nat) : KK → Prop
  | .i => P.underlying T = some (.int .i64)
  | .s => P.underlying T = some .string
  | .l8 n => ∃ e i, P.underlying T = some (.array n e) ∧ P.underlying e = some (.int .u8) ∧ P.info? e = some i ∧ i.size = 1
def TKok (P : Program) (T : Nat) : TK → Prop
  | .int k => P.underlying T = some (.int k)
  | .bool => P.underlying T = some .bool
  | .str => P.underlying T = some .string
  | .slice e => P.underlying T = some (.slice e)
  | .ptr e => P.underlying T = some (.pointer e)
  | .arr n e => P.underlying T = some (.array n e)
  | .st fs => ∃ gs : Array Field, P.underlying T = some (.struct gs) ∧ gs.toList.map (fun f => (f.type, f.offset)) = fs.map (fun x => (x.1, x.2.2)) ∧ ∀ f ∈ gs.toList, P.cellsOf f.type ≠ 0
  | .map k kk e sh => P.underlying T = some (.map k e) ∧ KKok P k kk ∧ ∃ i z, P.info? e = some i ∧ i.zero = some z ∧ ∀ m w, DV m w sh sh.zero z
  | .fn => True
  | .other => True
def aggD : TypeDesc → Bool
  | .struct _ => true
  | .array _ _ => true
  | _ => false
def Lay.isAgg : Lay → Bool
  | .one _ => false
  | _ => true
/-- where the fields of a layout lie, how many cells each has -/
def layOffs : Nat → List Lay → List (Nat × Nat)
  | _, [] => []
  | c, a :: r => (c, a.cells) :: layOffs (c + a.cells) r
/-- no field is nameless, nothing is held -/
def stPlain (P : Program) (T : Nat) : Bool := (match P.underlying T with
  | some (.struct gs) => gs.toList.all fun f => f.name != "_"
  | _ => false) && !P.stoodInHeld T
structure TIok (P : Program) (T : Nat) (ti : TI) : Prop where
  eq : ∀ fs, ti.k = .st fs → stPlain P T = true
  st : ∀ fs lays, ti.k = .st fs → ti.lay = .st lays → ∃ gs : Array Field, P.underlying T = some (.struct gs) ∧ gs.toList.map (fun f => (f.offset, P.cellsOf f.type)) = layOffs 0 lays
  k : TKok P T ti.k
  agg : (P.underlying T).map aggD = some ti.lay.isAgg
  cells : ti.lay.cells = ti.sz
  i : ∃ i z, P.info? T = some i ∧ i.size = ti.sz ∧ i.bytes = ti.bytes ∧ i.zero = some z ∧ z.cells.size = ti.sz ∧ (∀ m w, SegsR m w ti.lay.segs z.cells.toList) ∧
    (∀ ek, ti.ek = some ek → ek.esz = ti.sz ∧ (∀ v ∈ z.cells.toList, v.oneCell' = true) ∧ ∀ m w n, RC m w (ek.rep real n) (List.replicate n z.cells.toList).flatten)
def TTok (P : Program) (tt : TT) : Prop := ∀ p ∈ tt, TIok P p.1 p.2
theorem TTok.look {P : Program} {tt : TT} (h : TTok P tt) {T : Nat} {ti : TI} (hl : tlook tt T = some ti) : TIok P T ti := by
  induction tt with
  | nil => simp [tlook] at hl
  | cons a r ih =>
    obtain ⟨k, t⟩ := a
    simp only [tlook] at hl
    split at hl
    · rename_i e
      have := Nat.eq_of_beq_eq_true e
      subst this; cases hl
      exact h (k, ti) (by simp)
    · exact ih (fun p hp => h p (by simp [hp])) hl

/-! ## Numbers -/
theorem num_int {m : Hd} {w : World} {a : AV} {v : Value} {n : Int} (h : a.num real = some n) (hv : RV m w a v) : ∃ k, v = .int k n := by
  cases a <;> simp [AV.num, real] at h <;> simp [RV, CR] at hv <;> subst h <;> subst hv <;> exact ⟨_, rfl⟩

theorem quo_run {P : Program} {w : World} {T : Nat} (k : IntKind) (a b : Int) (hb : b ≠ 0) : (binOp .quo T (.int k a) (.int k b)).run P w = .ok (.int k (k.wrap (a.tdiv b))) w := by
  simp [binOp, Op.intDiv, hb]
theorem rem_run {P : Program} {w : World} {T : Nat} (k : IntKind) (a b : Int) (hb : b ≠ 0) : (binOp .rem T (.int k a) (.int k b)).run P w = .ok (.int k (a.tmod b)) w := by
  simp [binOp, Op.intDiv, hb]
theorem intEv_sound {P : Program} {op : BinOp} {a b : Int} {c : Prop} {r : AV} {T : Nat} {m : Hd} {w : World} (h : intEv real op a b = some (c, r)) (hc : c)
    (hs : op ≠ .shl) (hs2 : op ≠ .shr) : ∃ v, (binOp op T (.int .i64 a) (.int .i64 b)).run P w = .ok v w ∧ RV m w r v := by
  cases op <;> simp only [intEv] at h <;> cases h
  case add => exact ⟨_, rfl, by simp [RV, CR, real]⟩
  case sub => exact ⟨_, rfl, by simp [RV, CR, real]⟩
  case mul => exact ⟨_, rfl, by simp [RV, CR, real]⟩
  case quo => exact ⟨_, quo_run _ _ _ hc, by simp [RV, CR, real]⟩
  case rem => exact ⟨_, rem_run _ _ _ hc, by simp [RV, CR, real]⟩
  case and => exact ⟨_, rfl, by simp only [RV, CR, real, ibits]; rfl⟩
  case or => exact ⟨_, rfl, by simp only [RV, CR, real, ibits]; rfl⟩
  case xor => exact ⟨_, rfl, by simp only [RV, CR, real, ibits]; rfl⟩
  case andNot => exact ⟨_, rfl, by simp only [RV, CR, real, ibits]; rfl⟩
  case eql => exact ⟨_, rfl, by simp [RV, CR, real]⟩
  case neq => exact ⟨_, rfl, by simp [RV, CR, real, bne]⟩
  case lss => exact ⟨_, rfl, by simp [RV, CR, real]⟩
  case leq => exact ⟨_, rfl, by simp [RV, CR, real]⟩
  case gtr => exact ⟨_, rfl, by simp [RV, CR, real]⟩
  case geq => exact ⟨_, rfl, by simp [RV, CR, real]⟩

theorem w8Ev_sound {P : Program} {op : BinOp} {a b : UInt8} {c : Prop} {r : AV} {T : Nat} {m : Hd} {w : World} (h : w8Ev real op a b = some (c, r)) (hc : c)
    (hs : op ≠ .shl) (hs2 : op ≠ .shr) : ∃ v, (binOp op T (.int .u8 a.toNat) (.int .u8 b.toNat)).run P w = .ok v w ∧ RV m w r v := by
  cases op <;> simp only [w8Ev] at h <;> cases h
  case add => exact ⟨_, rfl, by simp only [RV, CR, real, add_u8]⟩
  case sub => exact ⟨_, rfl, by simp only [RV, CR, real, sub_u8]⟩
  case mul => exact ⟨_, rfl, by simp only [RV, CR, real, mul_u8]⟩
  case quo => exact ⟨_, quo_run _ _ _ (by simpa only [real] using hc), by simp only [RV, CR, real, quo_u8]⟩
  case rem => exact ⟨_, rem_run _ _ _ (by simpa only [real] using hc), by simp only [RV, CR, real, rem_u8]⟩
  case and => exact ⟨_, rfl, by simp only [RV, CR, real, and_u8]⟩
  case or => exact ⟨_, rfl, by simp only [RV, CR, real, or_u8]⟩
  case xor => exact ⟨_, rfl, by simp only [RV, CR, real, xor_u8]⟩
  case andNot => exact ⟨_, rfl, by simp only [RV, CR, real, andNot_u8]⟩
  case eql => exact ⟨_, rfl, by simp only [RV, CR, real, eq_u8]⟩
  case neq => exact ⟨_, rfl, by simp only [RV, CR, real, bne, eq_u8]⟩
  case lss => exact ⟨_, rfl, by simp [RV, CR, real]⟩
  case leq => exact ⟨_, rfl, by simp [RV, CR, real]⟩
  case gtr => exact ⟨_, rfl, by simp [RV, CR, real]⟩
  case geq => exact ⟨_, rfl, by simp [RV, CR, real]⟩
theorem w16Ev_sound {P : Program} {op : BinOp} {a b : UInt16} {c : Prop} {r : AV} {T : Nat} {m : Hd} {w : World} (h : w16Ev real op a b = some (c, r)) (hc : c)
    (hs : op ≠ .shl) (hs2 : op ≠ .shr) : ∃ v, (binOp op T (.int .u16 a.toNat) (.int .u16 b.toNat)).run P w = .ok v w ∧ RV m w r v := by
  cases op <;> simp only [w16Ev] at h <;> cases h
  case add => exact ⟨_, rfl, by simp only [RV, CR, real, add_u16]⟩
  case sub => exact ⟨_, rfl, by simp only [RV, CR, real, sub_u16]⟩
  case mul => exact ⟨_, rfl, by simp only [RV, CR, real, mul_u16]⟩
  case quo => exact ⟨_, quo_run _ _ _ (by simpa only [real] using hc), by simp only [RV, CR, real, quo_u16]⟩
  case rem => exact ⟨_, rem_run _ _ _ (by simpa only [real] using hc), by simp only [RV, CR, real, rem_u16]⟩
  case and => exact ⟨_, rfl, by simp only [RV, CR, real, and_u16]⟩
  case or => exact ⟨_, rfl, by simp only [RV, CR, real, or_u16]⟩
  case xor => exact ⟨_, rfl, by simp only [RV, CR, real, xor_u16]⟩
  case andNot => exact ⟨_, rfl, by simp only [RV, CR, real, andNot_u16]⟩
  case eql => exact ⟨_, rfl, by simp only [RV, CR, real, eq_u16]⟩
  case neq => exact ⟨_, rfl, by simp only [RV, CR, real, bne, eq_u16]⟩
  case lss => exact ⟨_, rfl, by simp [RV, CR, real]⟩
  case leq => exact ⟨_, rfl, by simp [RV, CR, real]⟩
  case gtr => exact ⟨_, rfl, by simp [RV, CR, real]⟩
  case geq => exact ⟨_, rfl, by simp [RV, CR, real]⟩
theorem w32Ev_sound {P : Program} {op : BinOp} {a b : UInt32} {c : Prop} {r : AV} {T : Nat} {m : Hd} {w : World} (h : w32Ev real op a b = some (c, r)) (hc : c)
    (hs : op ≠ .shl) (hs2 : op ≠ .shr) : ∃ v, (binOp op T (.int .u32 a.toNat) (.int .u32 b.toNat)).run P w = .ok v w ∧ RV m w r v := by
  cases op <;> simp only [w32Ev] at h <;> cases h
  case add => exact ⟨_, rfl, by simp only [RV, CR, real, add_u32]⟩
  case sub => exact ⟨_, rfl, by simp only [RV, CR, real, sub_u32]⟩
  case mul => exact ⟨_, rfl, by simp only [RV, CR, real, mul_u32]⟩
  case quo => exact ⟨_, quo_run _ _ _ (by simpa only [real] using hc), by simp only [RV, CR, real, quo_u32]⟩
  case rem => exact ⟨_, rem_run _ _ _ (by simpa only [real] using hc), by simp only [RV, CR, real, rem_u32]⟩
  case and => exact ⟨_, rfl, by simp only [RV, CR, real, and_u32]⟩
  case or => exact ⟨_, rfl, by simp only [RV, CR, real, or_u32]⟩
  case xor => exact ⟨_, rfl, by simp only [RV, CR, real, xor_u32]⟩
  case andNot => exact ⟨_, rfl, by simp only [RV, CR, real, andNot_u32]⟩
  case eql => exact ⟨_, rfl, by simp only [RV, CR, real, eq_u32]⟩
  case neq => exact ⟨_, rfl, by simp only [RV, CR, real, bne, eq_u32]⟩
  case lss => exact ⟨_, rfl, by simp [RV, CR, real]⟩
  case leq => exact ⟨_, rfl, by simp [RV, CR, real]⟩
  case gtr => exact ⟨_, rfl, by simp [RV, CR, real]⟩
  case geq => exact ⟨_, rfl, by simp [RV, CR, real]⟩
theorem w64Ev_sound {P : Program} {op : BinOp} {a b : UInt64} {c : Prop} {r : AV} {T : Nat} {m : Hd} {w : World} (h : w64Ev real op a b = some (c, r)) (hc : c)
    (hs : op ≠ .shl) (hs2 : op ≠ .shr) : ∃ v, (binOp op T (.int .u64 a.toNat) (.int .u64 b.toNat)).run P w = .ok v w ∧ RV m w r v := by
  cases op <;> simp only [w64Ev] at h <;> cases h
  case add => exact ⟨_, rfl, by simp only [RV, CR, real, add_u64]⟩
  case sub => exact ⟨_, rfl, by simp only [RV, CR, real, sub_u64]⟩
  case mul => exact ⟨_, rfl, by simp only [RV, CR, real, mul_u64]⟩
  case quo => exact ⟨_, quo_run _ _ _ (by simpa only [real] using hc), by simp only [RV, CR, real, quo_u64]⟩
  case rem => exact ⟨_, rem_run _ _ _ (by simpa only [real] using hc), by simp only [RV, CR, real, rem_u64]⟩
  case and => exact ⟨_, rfl, by simp only [RV, CR, real, and_u64]⟩
  case or => exact ⟨_, rfl, by simp only [RV, CR, real, or_u64]⟩
  case xor => exact ⟨_, rfl, by simp only [RV, CR, real, xor_u64]⟩
  case andNot => exact ⟨_, rfl, by simp only [RV, CR, real, andNot_u64]⟩
  case eql => exact ⟨_, rfl, by simp only [RV, CR, real, eq_u64]⟩
  case neq => exact ⟨_, rfl, by simp only [RV, CR, real, bne, eq_u64]⟩
  case lss => exact ⟨_, rfl, by simp [RV, CR, real]⟩
  case leq => exact ⟨_, rfl, by simp [RV, CR, real]⟩
  case gtr => exact ⟨_, rfl, by simp [RV, CR, real]⟩
  case geq => exact ⟨_, rfl, by simp [RV, CR, real]⟩

theorem bytesLess_asymm : ∀ (a b : List UInt8), Op.bytesLess a b = true → Op.bytesLess b a = false
  | [], [], h => by simp [Op.bytesLess] at h
  | [], _ :: _, _ => by simp [Op.bytesLess]
  | _ :: _, [], h => by simp [Op.bytesLess] at h
  | a :: x, b :: y, h => by
    simp only [Op.bytesLess, Bool.or_eq_true, decide_eq_true_eq, Bool.and_eq_true, beq_iff_eq, Bool.or_eq_false_iff, decide_eq_false_iff_not, Bool.and_eq_false_iff] at h ⊢
    rcases h with h | ⟨rfl, h⟩
    · exact ⟨by simp only [UInt8.lt_iff_toNat_lt] at h ⊢; omega, .inl (by simp; intro e; subst e; simp only [UInt8.lt_iff_toNat_lt] at h; omega)⟩
    · exact ⟨by simp only [UInt8.lt_iff_toNat_lt]; omega, .inr (bytesLess_asymm x y h)⟩
theorem bytesLess_conn : ∀ (a b : List UInt8), Op.bytesLess a b = false → Op.bytesLess b a = false → a = b
  | [], [], _, _ => rfl
  | [], _ :: _, h, _ => by simp [Op.bytesLess] at h
  | _ :: _, [], _, h => by simp [Op.bytesLess] at h
  | a :: x, b :: y, h, g => by
    simp only [Op.bytesLess, Bool.or_eq_false_iff, decide_eq_false_iff_not, Bool.and_eq_false_iff, beq_eq_false_iff_ne] at h g
    have e : a = b := by
      obtain ⟨h1, _⟩ := h; obtain ⟨g1, _⟩ := g
      simp only [UInt8.lt_iff_toNat_lt] at h1 g1
      exact UInt8.toNat_inj.1 (by omega)
    subst e
    rw [bytesLess_conn x y (h.2.resolve_left (by simp)) (g.2.resolve_left (by simp))]
theorem bytes_leq (a b : List UInt8) : (Op.bytesLess a b || a == b) = !Op.bytesLess b a := by
  cases h : Op.bytesLess a b with
  | true => rw [bytesLess_asymm a b h]; rfl
  | false =>
    cases g : Op.bytesLess b a with
    | true =>
      have : a ≠ b := fun e => by subst e; rw [h] at g; cases g
      simp [this]
    | false => rw [bytesLess_conn a b h g]; simp
theorem toList_mk (x : List UInt8) : (⟨x.toArray⟩ : ByteArray).toList = x := by
  simp
theorem strEv_sound {P : Program} {op : BinOp} {a b : List UInt8} {c : Prop} {r : AV} {T : Nat} {m : Hd} {w : World} (h : strEv real op a b = some (c, r)) (hc : c) :
    ∃ v, (binOp op T (.string ⟨a.toArray⟩) (.string ⟨b.toArray⟩)).run P w = .ok v w ∧ RV m w r v := by
  cases op <;> simp only [strEv] at h <;> cases h
  case add =>
    refine ⟨.string ⟨(a ++ b).toArray⟩, ?_, by simp [RV, CR, real]⟩
    have hs : ¬ ((((⟨a.toArray⟩ : ByteArray).size + (⟨b.toArray⟩ : ByteArray).size : Nat) : Int) > IntKind.i64.max) := by
      have h1 : (⟨a.toArray⟩ : ByteArray).size = a.length := by simp [ByteArray.size]
      have h2 : (⟨b.toArray⟩ : ByteArray).size = b.length := by simp [ByteArray.size]
      have h3 : IntKind.i64.max = 9223372036854775807 := by rfl
      have h4 := hc.1
      simp only [real] at h4
      rw [h1, h2, h3]; omega
    show (Op.stringOp .add _ _).run P w = _
    simp only [Op.stringOp]
    rw [if_neg hs]
    simp only [Sem.run_pure]
    congr 2
  case eql => exact ⟨_, rfl, by simp [RV, CR, real, toList_mk]⟩
  case neq => exact ⟨_, rfl, by simp [RV, CR, real, toList_mk]⟩
  case lss => exact ⟨_, rfl, by simp [RV, CR, real, toList_mk]⟩
  case leq => exact ⟨_, rfl, by simp only [RV, CR, real, toList_mk, bytes_leq]⟩
  case gtr => exact ⟨_, rfl, by simp only [RV, CR, real, toList_mk, bytes_leq, Bool.not_not]⟩
  case geq => exact ⟨_, rfl, by simp [RV, CR, real, toList_mk]⟩


theorem shl_run {P : Program} {w : World} {T : Nat} (k yk : IntKind) (a s : Int) (hs : 0 ≤ s) : (binOp .shl T (.int k a) (.int yk s)).run P w = .ok (.int k (k.wrap (a * 2 ^ (min s.toNat k.bits)))) w := by
  show (Op.shift .shl k a yk s).run P w = _
  unfold Op.shift
  rw [if_neg (by omega)]
  rfl
theorem shr_run {P : Program} {w : World} {T : Nat} (k yk : IntKind) (a s : Int) (hs : 0 ≤ s) : (binOp .shr T (.int k a) (.int yk s)).run P w = .ok (.int k (a.fdiv (2 ^ (min s.toNat k.bits)))) w := by
  show (Op.shift .shr k a yk s).run P w = _
  unfold Op.shift
  rw [if_neg (by omega)]
  rfl
theorem binEv_sound {P : Program} {op : BinOp} {x y : AV} {vx vy : Value} {c : Prop} {r : AV} {T : Nat} {m : Hd} {w : World} (h : binEv real op x y = some (c, r)) (hc : c)
    (hx : RV m w x vx) (hy : RV m w y vy) : ∃ v, (binOp op T vx vy).run P w = .ok v w ∧ RV m w r v := by
  by_cases h1 : op = .shl
  · subst h1
    simp only [binEv] at h
    split at h
    · cases h
    · rename_i s hs
      obtain ⟨yk, rfl⟩ := num_int hs hy
      cases x <;> simp only [] at h <;> cases h <;> simp only [RV, CR, List.cons.injEq, and_true] at hx <;> subst hx <;>
        refine ⟨_, shl_run _ _ _ _ (by simpa [real] using hc), ?_⟩
      · simp [RV, CR, real, IntKind.bits]
      · simp only [RV, CR, real, IntKind.bits, shl_u8]
      · simp only [RV, CR, real, IntKind.bits, shl_u16]
      · simp only [RV, CR, real, IntKind.bits, shl_u32]
      · simp only [RV, CR, real, IntKind.bits, shl_u64]
  · by_cases h2 : op = .shr
    · subst h2
      simp only [binEv] at h
      split at h
      · cases h
      · rename_i s hs
        obtain ⟨yk, rfl⟩ := num_int hs hy
        cases x <;> simp only [] at h <;> cases h <;> simp only [RV, CR, List.cons.injEq, and_true] at hx <;> subst hx <;>
          refine ⟨_, shr_run _ _ _ _ (by simpa [real] using hc), ?_⟩
        · simp [RV, CR, real, IntKind.bits]
        · simp only [RV, CR, real, IntKind.bits, shr_u8]
        · simp only [RV, CR, real, IntKind.bits, shr_u16]
        · simp only [RV, CR, real, IntKind.bits, shr_u32]
        · simp only [RV, CR, real, IntKind.bits, shr_u64]
    · have h' : binEv2 real op x y = some (c, r) := by
        cases op <;> first | exact absurd rfl h1 | exact absurd rfl h2 | exact h
      unfold binEv2 at h'
      split at h' <;> first | (cases h'; done) | (simp only [RV, CR, List.cons.injEq, and_true] at hx hy; subst hx; subst hy)
      · exact intEv_sound h' hc h1 h2
      · exact w8Ev_sound h' hc h1 h2
      · exact w16Ev_sound h' hc h1 h2
      · exact w32Ev_sound h' hc h1 h2
      · exact w64Ev_sound h' hc h1 h2
      · exact strEv_sound h' hc
end Go.Vc
set_option linter.unusedVariables false
set_option linter.unusedSimpArgs false
namespace Go.Vc
open Go Go.RowKit

/-! ## Contents and cells -/
theorem flat_len {css : List (List Value)} {e : Nat} (h : ∀ (j : Nat) (d : List Value), css[j]? = some d → d.length = e) : css.flatten.length = css.length * e := by
  induction css with
  | nil => simp
  | cons a r ih =>
    rw [List.flatten_cons, List.length_append, ih (fun j d hd => h (j + 1) d (by simpa using hd)), h 0 a (by simp), List.length_cons, Nat.succ_mul]; omega
theorem flat_get {css : List (List Value)} {e : Nat} (h : ∀ (j : Nat) (d : List Value), css[j]? = some d → d.length = e) : ∀ (i : Nat) (d : List Value), css[i]? = some d → ∀ j x, d[j]? = some x → css.flatten[i * e + j]? = some x := by
  induction css with
  | nil => intro i d hd; simp at hd
  | cons a r ih =>
    intro i d hd j x hx
    have ha : a.length = e := h 0 a (by simp)
    cases i with
    | zero =>
      simp at hd; subst hd
      have hj := (List.getElem?_eq_some_iff.1 hx).1
      rw [List.flatten_cons, Nat.zero_mul, Nat.zero_add, List.getElem?_append_left hj]; exact hx
    | succ i =>
      rw [List.flatten_cons, List.getElem?_append_right (by rw [Nat.succ_mul]; omega)]
      rw [show (i + 1) * e + j - a.length = i * e + j by rw [ha, Nat.succ_mul]; omega]
      exact ih (fun j d hd => h (j + 1) d (by simpa using hd)) i d (by simpa using hd) j x hx
theorem flat_drop {css : List (List Value)} {e : Nat} (h : ∀ (j : Nat) (d : List Value), css[j]? = some d → d.length = e) : ∀ a, css.flatten.drop (a * e) = (css.drop a).flatten := by
  induction css with
  | nil => intro a; simp
  | cons x r ih =>
    intro a
    have ha : x.length = e := h 0 x (by simp)
    cases a with
    | zero => simp
    | succ a =>
      rw [List.flatten_cons, List.drop_succ_cons, ← ih (fun j d hd => h (j + 1) d (by simpa using hd)) a, Nat.succ_mul, List.drop_append]
      rw [List.drop_of_length_le (by omega), List.nil_append]
      congr 1; omega
theorem flat_take {css : List (List Value)} {e : Nat} (h : ∀ (j : Nat) (d : List Value), css[j]? = some d → d.length = e) : ∀ a, css.flatten.take (a * e) = (css.take a).flatten := by
  induction css with
  | nil => intro a; simp
  | cons x r ih =>
    intro a
    have ha : x.length = e := h 0 x (by simp)
    cases a with
    | zero => simp
    | succ a =>
      rw [List.flatten_cons, List.take_succ_cons, List.flatten_cons, ← ih (fun j d hd => h (j + 1) d (by simpa using hd)) a, Nat.succ_mul, List.take_append]
      rw [List.take_of_length_le (by omega)]
      congr 2; omega

theorem flat_set {css : List (List Value)} {e : Nat} (h : ∀ (j : Nat) (d : List Value), css[j]? = some d → d.length = e) {i : Nat} (hi : i < css.length) (ds : List Value) :
    (css.set i ds).flatten = css.flatten.take (i * e) ++ ds ++ css.flatten.drop (i * e + e) := by
  rw [flat_take h i, show i * e + e = (i + 1) * e by rw [Nat.succ_mul], flat_drop h (i + 1), List.set_eq_take_append_cons_drop, if_pos hi]
  simp

section
variable {m : Hd} {w : World}
/-! ## Data in cells -/
mutual
theorem DR_len : ∀ (sh : Sh) (d : D) (cs : List Value), DR m w sh d cs → cs.length = sh.cells
  | .i, d, cs, h => by simp only [DR] at h; subst h; rfl
  | .w8, d, cs, h => by simp only [DR] at h; subst h; rfl
  | .w32, d, cs, h => by simp only [DR] at h; subst h; rfl
  | .w64, d, cs, h => by simp only [DR] at h; subst h; rfl
  | .b, d, cs, h => by simp only [DR] at h; subst h; rfl
  | .s, d, cs, h => by simp only [DR] at h; subst h; rfl
  | .l8 n, d, cs, h => by simp only [DR] at h; simp only [Sh.cells]; exact h.1
  | .ss, d, cs, h => by simp only [DR] at h; obtain ⟨ad, n, cap, ds, rfl, _⟩ := h; rfl
  | .bs, d, cs, h => by simp only [DR] at h; obtain ⟨ad, n, cap, ds, rfl, _⟩ := h; rfl
  | .t l, d, cs, h => by simp only [DR] at h; simp only [Sh.cells]; exact DRs_len l d 0 cs h
  | .sl sh, d, cs, h => by simp only [DR] at h; obtain ⟨ad, n, cap, ds, rfl, _⟩ := h; rfl
theorem DRs_len : ∀ (l : List Sh) (d : D) (j : Nat) (cs : List Value), DRs m w l d j cs → cs.length = Sh.lcells l
  | [], d, j, cs, h => by simp only [DRs] at h; subst h; rfl
  | a :: l, d, j, cs, h => by
    simp only [DRs] at h
    obtain ⟨c1, c2, rfl, h1, h2⟩ := h
    simp only [Sh.lcells, List.length_append, DR_len a _ c1 h1, DRs_len l d _ c2 h2]
end
mutual
theorem DR_CR : ∀ (sh : Sh) (d : D) (cs : List Value), DR m w sh d cs ↔ CR m w (sh.av real d) cs
  | .i, d, cs => by simp only [DR, Sh.av, CR, real]
  | .w8, d, cs => by simp only [DR, Sh.av, CR, real]
  | .w32, d, cs => by simp only [DR, Sh.av, CR, real]
  | .w64, d, cs => by simp only [DR, Sh.av, CR, real]
  | .b, d, cs => by simp only [DR, Sh.av, CR, real]
  | .s, d, cs => by simp only [DR, Sh.av, CR, real]
  | .l8 n, d, cs => by simp only [DR, Sh.av, CR, RC, real]
  | .ss, d, cs => by simp only [DR, Sh.av, CR, RC, real]
  | .bs, d, cs => by simp only [DR, Sh.av, CR, RC, real]
  | .t l, d, cs => by
    simp only [DR, Sh.av, CR, RC]
    constructor
    · intro h; exact ⟨DRs_len l d 0 cs h, (DRs_LR l d 0 cs).1 h⟩
    · intro h; exact (DRs_LR l d 0 cs).2 h.2
  | .sl sh, d, cs => by simp only [DR, Sh.av, CR, RC, real]
theorem DRs_LR : ∀ (l : List Sh) (d : D) (j : Nat) (cs : List Value), DRs m w l d j cs ↔ LR m w (Sh.avs real l d j) cs
  | [], d, j, cs => by simp only [DRs, Sh.avs, LR]
  | a :: l, d, j, cs => by
    simp only [DRs, Sh.avs, LR]
    constructor
    · rintro ⟨c1, c2, h1, h2, h3⟩
      exact ⟨c1, c2, h1, (DR_CR a _ c1).1 h2, (DRs_LR l d _ c2).1 h3⟩
    · rintro ⟨c1, c2, h1, h2, h3⟩
      exact ⟨c1, c2, h1, (DR_CR a _ c1).2 h2, (DRs_LR l d _ c2).2 h3⟩
end
theorem D.fld_t {l : List D} {j : Nat} : (D.t l).fld j = l.getD j D.no := rfl
mutual
theorem dof_sound : ∀ (sh : Sh) (a : AV) (d : D) (cs : List Value), dof sh a = some d → CR m w a cs → DR m w sh d cs
  | .i, a, d, cs, h, hc => by
    cases a <;> simp only [dof, reduceCtorEq] at h
    cases h; simpa only [DR, CR, D.gi] using hc
  | .w8, a, d, cs, h, hc => by
    cases a <;> simp only [dof, reduceCtorEq] at h
    cases h; simpa only [DR, CR, D.g8] using hc
  | .w32, a, d, cs, h, hc => by
    cases a <;> simp only [dof, reduceCtorEq] at h
    cases h; simpa only [DR, CR, D.g32] using hc
  | .w64, a, d, cs, h, hc => by
    cases a <;> simp only [dof, reduceCtorEq] at h
    cases h; simpa only [DR, CR, D.g64] using hc
  | .b, a, d, cs, h, hc => by
    cases a <;> simp only [dof, reduceCtorEq] at h
    all_goals (cases h; simpa only [DR, CR, D.gb] using hc)
  | .s, a, d, cs, h, hc => by
    cases a <;> simp only [dof, reduceCtorEq] at h
    cases h; simpa only [DR, CR, D.gs] using hc
  | .l8 n, a, d, cs, h, hc => by
    simp only [dof] at h
    unfold dofL8 at h
    split at h <;> first | (cases h; done) | skip
    split at h
    · rename_i hb
      cases h
      have := Nat.eq_of_beq_eq_true hb
      subst this
      simpa only [DR, CR, RC, D.gl8] using hc
    · cases h
  | .ss, a, d, cs, h, hc => by
    simp only [dof] at h
    unfold dofSS at h
    split at h <;> first | (cases h; done) | skip
    · cases h; simpa only [DR, CR, RC, D.gss] using hc
    · cases h
      simp only [CR] at hc
      simp only [DR, D.gss]
      exact ⟨none, 0, 0, [], hc, rfl, rfl, Nat.le_refl _, fun h => by omega⟩
    · cases h
      simp only [CR] at hc
      obtain ⟨ad, hc⟩ := hc
      simp only [DR, D.gss]
      exact ⟨ad, 0, 0, [], hc, rfl, rfl, Nat.le_refl _, fun h => by omega⟩
  | .bs, a, d, cs, h, hc => by
    simp only [dof] at h
    unfold dofBS at h
    split at h <;> first | (cases h; done) | skip
    · cases h; simpa only [DR, CR, RC, D.gl8] using hc
    · cases h
      simp only [CR] at hc
      simp only [DR, D.gl8]
      exact ⟨none, 0, 0, [], hc, rfl, rfl, Nat.le_refl _, fun h => by omega⟩
    · cases h
      simp only [CR] at hc
      obtain ⟨ad, hc⟩ := hc
      simp only [DR, D.gl8]
      exact ⟨ad, 0, 0, [], hc, rfl, rfl, Nat.le_refl _, fun h => by omega⟩
  | .t l, a, d, cs, h, hc => by
    simp only [dof] at h
    split at h
    · rename_i as hag
      unfold agvs at hag
      split at hag <;> first | (cases hag; done) | skip
      cases hag
      split at h
      · rename_i ds hds
        cases h
        simp only [CR, RC] at hc
        simp only [DR]
        exact dofs_sound l as ds (.t ds) 0 cs hds (fun j => by simp [D.fld_t]) hc.2
      · cases h
    · cases h
  | .sl sh, a, d, cs, h, hc => by
    simp only [dof] at h
    unfold dofSL at h
    split at h <;> first | (cases h; done) | skip
    · split at h
      · rename_i hb hb2
        cases h
        have := Sh.beq_eq _ _ hb
        subst this
        have := Nat.eq_of_beq_eq_true hb2
        subst this
        simpa only [DR, CR, RC, D.gt] using hc
      · cases h
    · cases h
      simp only [CR] at hc
      simp only [DR, D.gt]
      exact ⟨none, 0, 0, [], hc, ⟨[], rfl, rfl, fun j x y hx => by simp at hx⟩, by simp, Nat.le_refl _, fun h => by omega⟩
    · cases h
      simp only [CR] at hc
      obtain ⟨ad, hc⟩ := hc
      simp only [DR, D.gt]
      exact ⟨ad, 0, 0, [], hc, ⟨[], rfl, rfl, fun j x y hx => by simp at hx⟩, by simp, Nat.le_refl _, fun h => by omega⟩
theorem dofs_sound : ∀ (l : List Sh) (as : List AV) (ds : List D) (d : D) (j : Nat) (cs : List Value), dofs l as = some ds → (∀ i, d.fld (j + i) = ds.getD i D.no) → LR m w as cs → DRs m w l d j cs
  | [], as, ds, d, j, cs, h, hd, hc => by
    cases as with
    | nil => simp only [LR] at hc; simpa only [DRs] using hc
    | cons _ _ => simp [dofs] at h
  | sh :: l, as, ds, d, j, cs, h, hd, hc => by
    cases as with
    | nil => simp [dofs] at h
    | cons a as =>
      simp only [dofs] at h
      split at h
      · rename_i d1 ds1 h1 h2
        cases h
        simp only [LR] at hc
        obtain ⟨c1, c2, h3, h4, h5⟩ := hc
        simp only [DRs]
        refine ⟨c1, c2, h3, ?_, dofs_sound l as ds1 d (j + 1) c2 h2 (fun i => ?_) h5⟩
        · have := hd 0
          simp only [Nat.add_zero, List.getD_cons_zero] at this
          rw [this]; exact dof_sound sh a d1 c1 h1 h4
        · have := hd (i + 1)
          rw [show j + 1 + i = j + (i + 1) by omega, this]
          simp
      · cases h
end
mutual
theorem DR_one : ∀ (sh : Sh) (d : D) (cs : List Value), DR m w sh d cs → ∀ v ∈ cs, v.oneCell' = true
  | .i, d, cs, h => by simp only [DR] at h; subst h; simp [Value.oneCell']
  | .w8, d, cs, h => by simp only [DR] at h; subst h; simp [Value.oneCell']
  | .w32, d, cs, h => by simp only [DR] at h; subst h; simp [Value.oneCell']
  | .w64, d, cs, h => by simp only [DR] at h; subst h; simp [Value.oneCell']
  | .b, d, cs, h => by simp only [DR] at h; subst h; simp [Value.oneCell']
  | .s, d, cs, h => by simp only [DR] at h; subst h; simp [Value.oneCell']
  | .l8 n, d, cs, h => by
    simp only [DR] at h
    intro v hv
    rw [h.2] at hv
    obtain ⟨x, _, rfl⟩ := List.mem_map.1 hv
    rfl
  | .ss, d, cs, h => by simp only [DR] at h; obtain ⟨ad, n, cap, ds, rfl, _⟩ := h; simp [Value.oneCell']
  | .bs, d, cs, h => by simp only [DR] at h; obtain ⟨ad, n, cap, ds, rfl, _⟩ := h; simp [Value.oneCell']
  | .t l, d, cs, h => by simp only [DR] at h; exact DRs_one l d 0 cs h
  | .sl sh, d, cs, h => by simp only [DR] at h; obtain ⟨ad, n, cap, ds, rfl, _⟩ := h; simp [Value.oneCell']
theorem DRs_one : ∀ (l : List Sh) (d : D) (j : Nat) (cs : List Value), DRs m w l d j cs → ∀ v ∈ cs, v.oneCell' = true
  | [], d, j, cs, h => by simp only [DRs] at h; subst h; simp
  | a :: l, d, j, cs, h => by
    simp only [DRs] at h
    obtain ⟨c1, c2, rfl, h1, h2⟩ := h
    intro v hv
    rcases List.mem_append.1 hv with hv | hv
    · exact DR_one a _ c1 h1 v hv
    · exact DRs_one l d _ c2 h2 v hv
end
/-- lists of data: element by element -/
def DsR (m : Hd) (w : World) (sh : Sh) (xs : List D) (css : List (List Value)) : Prop := css.length = xs.length ∧ ∀ (j : Nat) (x : List Value) (y : D), css[j]? = some x → xs[j]? = some y → x.length = sh.cells ∧ DR m w sh y x
theorem DsR.len {sh : Sh} {xs : List D} {css : List (List Value)} (h : DsR m w sh xs css) : ∀ (j : Nat) (d : List Value), css[j]? = some d → d.length = sh.cells := by
  intro j d hd
  have hj := (List.getElem?_eq_some_iff.1 hd).1
  exact (h.2 j d _ hd (List.getElem?_eq_getElem (by have := h.1; omega))).1
theorem RC_ds {sh : Sh} {xs : List D} {cs : List Value} : RC m w (.ds sh xs) cs ↔ ∃ css, cs = css.flatten ∧ DsR m w sh xs css := by
  simp only [RC]
  constructor
  · rintro ⟨css, h1, h2, h3⟩; exact ⟨css, h2, h1, h3⟩
  · rintro ⟨css, h2, h1, h3⟩; exact ⟨css, h1, h2, h3⟩
theorem DsR.app {sh : Sh} {xs ys : List D} {c1 c2 : List (List Value)} (h : DsR m w sh xs c1) (g : DsR m w sh ys c2) : DsR m w sh (xs ++ ys) (c1 ++ c2) := by
  refine ⟨by simp [h.1, g.1], fun j x y hx hy => ?_⟩
  by_cases hj : j < c1.length
  · rw [List.getElem?_append_left hj] at hx
    rw [List.getElem?_append_left (by have := h.1; omega)] at hy
    exact h.2 j x y hx hy
  · rw [List.getElem?_append_right (by omega)] at hx
    rw [List.getElem?_append_right (by have := h.1; omega)] at hy
    rw [show j - xs.length = j - c1.length by have := h.1; omega] at hy
    exact g.2 _ x y hx hy
theorem DsR.take {sh : Sh} {xs : List D} {css : List (List Value)} (h : DsR m w sh xs css) (n : Nat) : DsR m w sh (xs.take n) (css.take n) := by
  refine ⟨by simp [h.1], fun j x y hx hy => ?_⟩
  rw [List.getElem?_take] at hx hy
  split at hx
  · rename_i hj; rw [if_pos hj] at hy; exact h.2 j x y hx hy
  · cases hx
theorem DsR.drop {sh : Sh} {xs : List D} {css : List (List Value)} (h : DsR m w sh xs css) (n : Nat) : DsR m w sh (xs.drop n) (css.drop n) := by
  refine ⟨by simp [h.1], fun j x y hx hy => ?_⟩
  rw [List.getElem?_drop] at hx hy
  exact h.2 _ x y hx hy
theorem DsR.set {sh : Sh} {xs : List D} {css : List (List Value)} (h : DsR m w sh xs css) (i : Nat) {d : D} {ds : List Value} (hd : DR m w sh d ds) : DsR m w sh (xs.set i d) (css.set i ds) := by
  refine ⟨by simp [h.1], fun j x y hx hy => ?_⟩
  rw [List.getElem?_set] at hx hy
  split at hx
  · rename_i e
    subst e
    rw [if_pos rfl] at hy
    split at hx <;> first | (cases hx; done) | skip
    split at hy <;> first | (cases hy; done) | skip
    cases hx; cases hy
    exact ⟨DR_len sh d ds hd, hd⟩
  · rename_i e
    rw [if_neg e] at hy
    exact h.2 j x y hx hy

theorem RC_len {c : AC} {cs : List Value} {e : Nat} (he : c.esz = some e) (h : RC m w c cs) : cs.length = c.len real * e := by
  cases c <;> simp only [AC.esz] at he <;> cases he <;> simp only [RC] at h
  · subst h; simp [AC.len, real]
  · subst h; simp [AC.len, real]
  · subst h; simp [AC.len, real]
  · subst h; simp [AC.len, real]
  · subst h; simp [AC.len, real]
  · subst h; simp [AC.len, real]
  · obtain ⟨css, h1, rfl, h3⟩ := h
    rw [flat_len (fun j d hd => (h3 j d hd).1), h1]; rfl
  · obtain ⟨css, rfl, h3⟩ := RC_ds.1 (by simpa only [RC] using h)
    rw [flat_len h3.len, h3.1]; rfl

theorem RC_get {c : AC} {cs : List Value} {a : AV} {i e : Nat} (hg : c.get real i = some a) (he : c.esz = some e) (h : RC m w c cs) (hi : i < c.len real) :
    ∃ d, d.length = e ∧ CR m w a d ∧ ∀ j x, d[j]? = some x → cs[i * e + j]? = some x := by
  cases c <;> simp only [AC.esz] at he <;> cases he <;> simp only [AC.get, Option.some.injEq] at hg <;> subst hg <;> simp only [RC] at h
  · rename_i xs
    subst h
    have hi' : i < xs.length := hi
    refine ⟨[E8 (xs.getD i 0)], rfl, by simp [CR, real], fun j x hx => ?_⟩
    cases j with
    | zero => simp at hx; subst hx; simp [List.getD, List.getElem?_eq_getElem hi']
    | succ j => simp at hx
  · rename_i xs
    subst h
    have hi' : i < xs.length := hi
    refine ⟨[E16 (xs.getD i 0)], rfl, by simp [CR, real], fun j x hx => ?_⟩
    cases j with
    | zero => simp at hx; subst hx; simp [List.getD, List.getElem?_eq_getElem hi']
    | succ j => simp at hx
  · rename_i xs
    subst h
    have hi' : i < xs.length := hi
    refine ⟨[E32 (xs.getD i 0)], rfl, by simp [CR, real], fun j x hx => ?_⟩
    cases j with
    | zero => simp at hx; subst hx; simp [List.getD, List.getElem?_eq_getElem hi']
    | succ j => simp at hx
  · rename_i xs
    subst h
    have hi' : i < xs.length := hi
    refine ⟨[E64 (xs.getD i 0)], rfl, by simp [CR, real], fun j x hx => ?_⟩
    cases j with
    | zero => simp at hx; subst hx; simp [List.getD, List.getElem?_eq_getElem hi']
    | succ j => simp at hx
  · rename_i xs
    subst h
    have hi' : i < xs.length := hi
    refine ⟨[EI (xs.getD i 0)], rfl, by simp [CR, real], fun j x hx => ?_⟩
    cases j with
    | zero => simp at hx; subst hx; simp [List.getD, List.getElem?_eq_getElem hi']
    | succ j => simp at hx
  · rename_i xs
    subst h
    have hi' : i < xs.length := hi
    refine ⟨[ES (xs.getD i [])], rfl, by simp [CR, real], fun j x hx => ?_⟩
    cases j with
    | zero => simp at hx; subst hx; simp [List.getD, List.getElem?_eq_getElem hi']
    | succ j => simp at hx
  · rename_i n f
    obtain ⟨css, h1, rfl, h3⟩ := h
    have hi' : i < css.length := by rw [h1]; exact hi
    refine ⟨css[i], (h3 i _ (List.getElem?_eq_getElem hi')).1, (h3 i _ (List.getElem?_eq_getElem hi')).2, ?_⟩
    exact flat_get (fun j d hd => (h3 j d hd).1) i _ (List.getElem?_eq_getElem hi')
  · rename_i sh xs
    obtain ⟨css, rfl, h3⟩ := RC_ds.1 (by simpa only [RC] using h)
    have hi' : i < xs.length := hi
    have hic : i < css.length := by rw [h3.1]; exact hi'
    have h4 := h3.2 i _ _ (List.getElem?_eq_getElem hic) (List.getElem?_eq_getElem hi')
    refine ⟨css[i], h4.1, ?_, flat_get h3.len i _ (List.getElem?_eq_getElem hic)⟩
    have e1 : real.getD xs i = xs[i] := by simp [real, List.getD, List.getElem?_eq_getElem hi']
    rw [e1]
    exact (DR_CR sh _ _).1 h4.2

theorem RC_set {c c' : AC} {cs ds : List Value} {x : AV} {i e : Nat} (hg : c.set real i x = some c') (he : c.esz = some e) (h : RC m w c cs) (hx : CR m w x ds) (hi : i < c.len real) :
    RC m w c' (cs.take (i * e) ++ ds ++ cs.drop (i * e + e)) ∧ c'.esz = some e ∧ ds.length = e ∧ c'.len real = c.len real := by
  have set1 : ∀ (v : Value) (l : List Value), i < l.length → l.take (i * 1) ++ [v] ++ l.drop (i * 1 + 1) = l.set i v := by
    intro v l hl
    rw [List.set_eq_take_append_cons_drop, if_pos hl, Nat.mul_one]
    simp
  cases c <;> simp only [AC.set] at hg <;> try (cases hg; done)
  · rename_i xs
    split at hg <;> cases hg
    cases he
    simp only [CR] at hx
    simp only [RC] at h
    subst hx; subst h
    have hi' : i < xs.length := hi
    rw [set1 _ _ (by simpa using hi')]
    exact ⟨by simp [RC, real, List.map_set], rfl, rfl, by simp [AC.len, real]⟩
  · rename_i xs
    split at hg <;> cases hg
    cases he
    simp only [CR] at hx
    simp only [RC] at h
    subst hx; subst h
    have hi' : i < xs.length := hi
    rw [set1 _ _ (by simpa using hi')]
    exact ⟨by simp [RC, real, List.map_set], rfl, rfl, by simp [AC.len, real]⟩
  · rename_i xs
    split at hg <;> cases hg
    cases he
    simp only [CR] at hx
    simp only [RC] at h
    subst hx; subst h
    have hi' : i < xs.length := hi
    rw [set1 _ _ (by simpa using hi')]
    exact ⟨by simp [RC, real, List.map_set], rfl, rfl, by simp [AC.len, real]⟩
  · rename_i xs
    split at hg <;> cases hg
    cases he
    simp only [CR] at hx
    simp only [RC] at h
    subst hx; subst h
    have hi' : i < xs.length := hi
    rw [set1 _ _ (by simpa using hi')]
    exact ⟨by simp [RC, real, List.map_set], rfl, rfl, by simp [AC.len, real]⟩
  · rename_i xs
    split at hg <;> cases hg
    cases he
    simp only [CR] at hx
    simp only [RC] at h
    subst hx; subst h
    have hi' : i < xs.length := hi
    rw [set1 _ _ (by simpa using hi')]
    exact ⟨by simp [RC, real, List.map_set], rfl, rfl, by simp [AC.len, real]⟩
  · rename_i xs
    split at hg <;> cases hg
    cases he
    simp only [CR] at hx
    simp only [RC] at h
    subst hx; subst h
    have hi' : i < xs.length := hi
    rw [set1 _ _ (by simpa using hi')]
    exact ⟨by simp [RC, real, List.map_set], rfl, rfl, by simp [AC.len, real]⟩
  · rename_i sh xs
    split at hg
    · rename_i d hd
      cases hg
      cases he
      obtain ⟨css, rfl, h3⟩ := RC_ds.1 h
      have hdr := dof_sound sh x d ds hd hx
      have hi' : i < xs.length := hi
      refine ⟨RC_ds.2 ⟨css.set i ds, (flat_set h3.len (by rw [h3.1]; exact hi') ds).symm, h3.set i hdr⟩, rfl, DR_len sh d ds hdr, by simp [AC.len, real]⟩
    · cases hg

theorem RC_cut {c c' : AC} {cs : List Value} {a n e : Nat} (hg : c.cut real a n = some c') (he : c.esz = some e) (h : RC m w c cs) (hn : a + n ≤ c.len real) :
    RC m w c' ((cs.drop (a * e)).take (n * e)) ∧ c'.esz = some e ∧ c'.len real = n := by
  cases c <;> simp only [AC.esz] at he <;> cases he <;> simp only [AC.cut, Option.some.injEq] at hg <;> subst hg <;> simp only [RC] at h
  · rename_i xs
    subst h
    have hn' : a + n ≤ xs.length := hn
    exact ⟨by simp [RC, real, List.map_drop, List.map_take], rfl, by simp [AC.len, real]; omega⟩
  · rename_i xs
    subst h
    have hn' : a + n ≤ xs.length := hn
    exact ⟨by simp [RC, real, List.map_drop, List.map_take], rfl, by simp [AC.len, real]; omega⟩
  · rename_i xs
    subst h
    have hn' : a + n ≤ xs.length := hn
    exact ⟨by simp [RC, real, List.map_drop, List.map_take], rfl, by simp [AC.len, real]; omega⟩
  · rename_i xs
    subst h
    have hn' : a + n ≤ xs.length := hn
    exact ⟨by simp [RC, real, List.map_drop, List.map_take], rfl, by simp [AC.len, real]; omega⟩
  · rename_i xs
    subst h
    have hn' : a + n ≤ xs.length := hn
    exact ⟨by simp [RC, real, List.map_drop, List.map_take], rfl, by simp [AC.len, real]; omega⟩
  · rename_i xs
    subst h
    have hn' : a + n ≤ xs.length := hn
    exact ⟨by simp [RC, real, List.map_drop, List.map_take], rfl, by simp [AC.len, real]; omega⟩
  · rename_i k f
    obtain ⟨css, h1, rfl, h3⟩ := h
    have hn' : a + n ≤ k := hn
    refine ⟨?_, rfl, rfl⟩
    simp only [RC]
    refine ⟨(css.drop a).take n, by rw [List.length_take, List.length_drop, h1]; omega, ?_, fun j d hd => ?_⟩
    · rw [flat_drop (fun j d hd => (h3 j d hd).1), flat_take]
      intro j d hd
      rw [List.getElem?_drop] at hd
      exact (h3 _ d hd).1
    · rw [List.getElem?_take] at hd
      split at hd
      · rw [List.getElem?_drop] at hd; exact h3 _ d hd
      · cases hd
  · rename_i sh xs
    obtain ⟨css, rfl, h3⟩ := RC_ds.1 (by simpa only [RC] using h)
    have hn' : a + n ≤ xs.length := hn
    refine ⟨RC_ds.2 ⟨(css.drop a).take n, ?_, (h3.drop a).take n⟩, rfl, by simp [AC.len, real]; omega⟩
    rw [flat_drop h3.len, flat_take (h3.drop a).len]

theorem RC_app {c d r : AC} {cs ds : List Value} (hg : c.app real d = some r) (h : RC m w c cs) (g : RC m w d ds) : RC m w r (cs ++ ds) ∧ ∃ e, c.esz = some e ∧ d.esz = some e ∧ r.esz = some e ∧ r.len real = c.len real + d.len real := by
  unfold AC.app at hg
  split at hg
  · cases hg; simp only [RC] at h g; subst h; subst g; exact ⟨by simp [RC, real], 1, rfl, rfl, rfl, by simp [AC.len, real]⟩
  · cases hg; simp only [RC] at h g; subst h; subst g; exact ⟨by simp [RC, real], 1, rfl, rfl, rfl, by simp [AC.len, real]⟩
  · cases hg; simp only [RC] at h g; subst h; subst g; exact ⟨by simp [RC, real], 1, rfl, rfl, rfl, by simp [AC.len, real]⟩
  · cases hg; simp only [RC] at h g; subst h; subst g; exact ⟨by simp [RC, real], 1, rfl, rfl, rfl, by simp [AC.len, real]⟩
  · cases hg; simp only [RC] at h g; subst h; subst g; exact ⟨by simp [RC, real], 1, rfl, rfl, rfl, by simp [AC.len, real]⟩
  · cases hg; simp only [RC] at h g; subst h; subst g; exact ⟨by simp [RC, real], 1, rfl, rfl, rfl, by simp [AC.len, real]⟩
  · rename_i sh xs sh2 ys
    split at hg
    · rename_i hb
      cases hg
      have := Sh.beq_eq _ _ hb
      subst this
      obtain ⟨c1, rfl, h1⟩ := RC_ds.1 h
      obtain ⟨c2, rfl, h2⟩ := RC_ds.1 g
      exact ⟨RC_ds.2 ⟨c1 ++ c2, by simp, h1.app h2⟩, sh.cells, rfl, rfl, rfl, by simp [AC.len, real]⟩
    · cases hg
  · cases hg
theorem RC_splice {c d r : AC} {cs ds : List Value} {a e : Nat} (hg : c.splice real a d = some r) (he : c.esz = some e) (h : RC m w c cs) (g : RC m w d ds) :
    RC m w r (cs.take (a * e) ++ ds ++ cs.drop (a * e + ds.length)) ∧ d.esz = some e ∧ r.esz = some e := by
  unfold AC.splice at hg
  split at hg
  · cases hg; cases he; simp only [RC] at h g; subst h; subst g; exact ⟨by simp [RC, real, List.map_take, List.map_drop], rfl, rfl⟩
  · cases hg; cases he; simp only [RC] at h g; subst h; subst g; exact ⟨by simp [RC, real, List.map_take, List.map_drop], rfl, rfl⟩
  · cases hg; cases he; simp only [RC] at h g; subst h; subst g; exact ⟨by simp [RC, real, List.map_take, List.map_drop], rfl, rfl⟩
  · cases hg; cases he; simp only [RC] at h g; subst h; subst g; exact ⟨by simp [RC, real, List.map_take, List.map_drop], rfl, rfl⟩
  · cases hg; cases he; simp only [RC] at h g; subst h; subst g; exact ⟨by simp [RC, real, List.map_take, List.map_drop], rfl, rfl⟩
  · cases hg; cases he; simp only [RC] at h g; subst h; subst g; exact ⟨by simp [RC, real, List.map_take, List.map_drop], rfl, rfl⟩
  · rename_i sh xs sh2 ys
    split at hg
    · rename_i hb
      cases hg
      cases he
      have := Sh.beq_eq _ _ hb
      subst this
      obtain ⟨c1, rfl, h1⟩ := RC_ds.1 h
      obtain ⟨c2, rfl, h2⟩ := RC_ds.1 g
      refine ⟨RC_ds.2 ⟨c1.take a ++ c2 ++ c1.drop (a + c2.length), ?_, ?_⟩, rfl, rfl⟩
      · rw [flat_len h2.len, ← Nat.add_mul, flat_take h1.len, flat_drop h1.len]
        simp
      · show DsR m w sh (xs.take a ++ ys ++ xs.drop (a + ys.length)) _
        rw [h2.1]
        exact ((h1.take a).app h2).app (h1.drop _)
    · cases hg
  · cases hg
theorem splice_esz {c d r : AC} {a : Nat} (hg : c.splice real a d = some r) : ∃ e, c.esz = some e := by
  unfold AC.splice at hg
  split at hg <;> first | (cases hg; done) | exact ⟨_, rfl⟩


/-! ## Lists of elements of one kind -/
theorem cons_sound {k : EK} {a : AV} {c r : AC} {ds cs : List Value} (hg : k.cons a c = some r) (h : RC m w c cs) (hv : CR m w a ds) : RC m w r (ds ++ cs) ∧ ds.length = k.esz := by
  unfold EK.cons at hg
  split at hg
  · cases hg; simp only [RC] at h; simp only [CR] at hv; subst h; subst hv; exact ⟨by simp [RC], rfl⟩
  · cases hg; simp only [RC] at h; simp only [CR] at hv; subst h; subst hv; exact ⟨by simp [RC], rfl⟩
  · cases hg; simp only [RC] at h; simp only [CR] at hv; subst h; subst hv; exact ⟨by simp [RC], rfl⟩
  · cases hg; simp only [RC] at h; simp only [CR] at hv; subst h; subst hv; exact ⟨by simp [RC], rfl⟩
  · cases hg; simp only [RC] at h; simp only [CR] at hv; subst h; subst hv; exact ⟨by simp [RC], rfl⟩
  · cases hg; simp only [RC] at h; simp only [CR] at hv; subst h; subst hv; exact ⟨by simp [RC], rfl⟩
  · rename_i sh sh2 xs
    split at hg
    · rename_i d hb hd
      cases hg
      have := Sh.beq_eq _ _ hb
      subst this
      obtain ⟨css, rfl, h1⟩ := RC_ds.1 h
      have hdr := dof_sound sh a d ds hd hv
      refine ⟨RC_ds.2 ⟨ds :: css, by simp, ?_⟩, DR_len sh d ds hdr⟩
      have h0 : DsR m w sh [d] [ds] := ⟨rfl, fun j x y hx hy => by
        cases j with
        | zero => simp at hx hy; subst hx; subst hy; exact ⟨DR_len sh d ds hdr, hdr⟩
        | succ j => simp at hx⟩
      exact h0.app h1
    · cases hg
  · cases hg
/-- values, cell by cell -/
def CVs (m : Hd) (w : World) : List AV → List Value → Prop
  | [], vs => vs = []
  | a :: l, vs => ∃ v r, vs = v :: r ∧ CR m w a v.cells.toList ∧ RV m w a v ∧ CVs m w l r
def cellsOf : List Value → List Value
  | [] => []
  | v :: r => v.cells.toList ++ cellsOf r
theorem ofAVs_sound {k : EK} : ∀ {l : List AV} {c : AC} {vs : List Value}, k.ofAVs l = some c → CVs m w l vs → RC m w c (cellsOf vs) ∧ ∀ v ∈ vs, v.cells.size = k.esz
  | [], c, vs, h, hv => by
    simp only [EK.ofAVs, Option.some.injEq] at h
    simp only [CVs] at hv
    subst h; subst hv
    refine ⟨?_, by simp⟩
    cases k <;> simp [EK.nil, RC, cellsOf]
  | a :: l, c, vs, h, hv => by
    simp only [EK.ofAVs] at h
    split at h
    · rename_i c0 h0
      simp only [CVs] at hv
      obtain ⟨v, r, rfl, h1, _, h2⟩ := hv
      have ih := ofAVs_sound h0 h2
      obtain ⟨g1, g2⟩ := cons_sound h ih.1 h1
      refine ⟨g1, ?_⟩
      intro x hx
      rcases List.mem_cons.1 hx with rfl | hx
      · rw [← Array.length_toList]; exact g2
      · exact ih.2 x hx
    · cases h
end
end Go.Vc
set_option linter.unusedVariables false
set_option linter.unusedSimpArgs false
namespace Go.Vc
open Go Go.RowKit

/-! ## Values and cells -/
section
variable {m : Hd} {w : World}
theorem RV_of_CR {a : AV} {v : Value} (h : a.one = true) (hc : CR m w a [v]) : RV m w a v := by
  cases a <;> simp only [AV.one, Bool.false_eq_true, reduceCtorEq] at h <;> simpa only [RV] using hc
theorem CR_of_RV {a : AV} {v : Value} (h : a.one = true) (hv : RV m w a v) : CR m w a [v] ∧ v.oneCell' = true ∧ v.cells = #[v] := by
  cases a <;> simp only [AV.one, Bool.false_eq_true, reduceCtorEq] at h <;> simp only [RV] at hv <;> refine ⟨hv, ?_⟩ <;> simp only [CR, List.cons.injEq, and_true] at hv
  case p => obtain ⟨g, _, rfl⟩ := hv; exact ⟨rfl, rfl⟩
  case pe => obtain ⟨_, g, _, _, rfl⟩ := hv; exact ⟨rfl, rfl⟩
  case pr => obtain ⟨ad, ds, rfl, _⟩ := hv; exact ⟨rfl, rfl⟩
  case sl => obtain ⟨_, ad, cap, _, rfl, _⟩ := hv; exact ⟨rfl, rfl⟩
  case rb => obtain ⟨ad, n, cap, ds, rfl, _⟩ := hv; exact ⟨rfl, rfl⟩
  case rw =>
    obtain ⟨u, _, rfl, h1⟩ := hv
    refine ⟨h1, ?_⟩
    cases v <;> first | rfl | (simp [Value.oneCell'] at h1)
  case mh =>
    obtain ⟨u, _, rfl, h1⟩ := hv
    refine ⟨h1, ?_⟩
    cases v <;> first | rfl | (simp [Value.oneCell'] at h1)
  case cl =>
    obtain ⟨u, _, rfl, h1⟩ := hv
    cases u <;> first | exact ⟨rfl, rfl⟩ | (simp [Value.oneCell'] at h1)
  case z => obtain ⟨ad, rfl⟩ := hv; exact ⟨rfl, rfl⟩
  case pf => obtain ⟨_, g, _, _, rfl⟩ := hv; exact ⟨rfl, rfl⟩
  case fv => obtain ⟨vs, rfl, _⟩ := hv; exact ⟨rfl, rfl⟩
  all_goals subst hv; exact ⟨rfl, rfl⟩
theorem one_cell {a : AV} {cs : List Value} (ho : a.one = true) (hc : CR m w a cs) : ∃ v, cs = [v] := by
  cases a <;> simp only [AV.one, Bool.false_eq_true, reduceCtorEq] at ho <;> simp only [CR] at hc
  case p => obtain ⟨g, _, rfl⟩ := hc; exact ⟨_, rfl⟩
  case pe => obtain ⟨_, g, _, _, rfl⟩ := hc; exact ⟨_, rfl⟩
  case pf => obtain ⟨_, g, _, _, rfl⟩ := hc; exact ⟨_, rfl⟩
  case pr => obtain ⟨ad, ds, rfl, _⟩ := hc; exact ⟨_, rfl⟩
  case sl => obtain ⟨_, ad, cap, _, rfl, _⟩ := hc; exact ⟨_, rfl⟩
  case rb => obtain ⟨ad, n, cap, ds, rfl, _⟩ := hc; exact ⟨_, rfl⟩
  case rw => obtain ⟨u, _, rfl, h1⟩ := hc; exact ⟨_, rfl⟩
  case cl => obtain ⟨u, _, rfl, h1⟩ := hc; exact ⟨_, rfl⟩
  case mh => obtain ⟨u, _, rfl, h1⟩ := hc; exact ⟨_, rfl⟩
  case z => obtain ⟨ad, rfl⟩ := hc; exact ⟨_, rfl⟩
  case fv => obtain ⟨vs, rfl, _⟩ := hc; exact ⟨_, rfl⟩
  all_goals exact ⟨_, hc⟩
/-- a value's cells -/
theorem CR_cells {a : AV} {v : Value} (h : a.one = true ∨ ∃ n c, a = .ag n c) (hv : RV m w a v) : CR m w a v.cells.toList := by
  rcases h with h | ⟨n, c, rfl⟩
  · obtain ⟨h1, _, h2⟩ := CR_of_RV h hv
    rw [h2]; exact h1
  · simp only [RV] at hv
    obtain ⟨cs, rfl, h1, h2⟩ := hv
    simp only [CR, Value.cells]
    exact ⟨by simpa using h1, by simpa using h2⟩
theorem RV_ag {n : Nat} {c : AC} {cs : List Value} (h : CR m w (.ag n c) cs) : RV m w (.ag n c) (.agg cs.toArray) := by
  simp only [CR] at h
  simp only [RV]
  exact ⟨cs, rfl, h.1, h.2⟩

/-! ## Segments -/
theorem beq_nat {a b : Nat} (h : Nat.beq a b = true) : a = b := Nat.eq_of_beq_eq_true h
theorem ble_nat {a b : Nat} (h : Nat.ble a b = true) : a ≤ b := Nat.le_of_ble_eq_true h
theorem segAt_sound : ∀ (g o : Nat) (segs : List Seg) (n : Nat) (c : AC) (cs : List Value), withContent.segAt g o segs = some (n, c) → SegsR m w segs cs →
    ∃ pre mid post, cs = pre ++ mid ++ post ∧ pre.length = o ∧ mid.length = n ∧ RC m w c mid
  | 0, o, segs, n, c, cs, h, hs => by
    cases segs with
    | nil => cases o <;> simp [withContent.segAt] at h
    | cons s r =>
      cases o with
      | succ o => simp [withContent.segAt] at h
      | zero =>
        simp only [withContent.segAt, Option.some.injEq] at h
        subst h
        simp only [SegsR] at hs
        obtain ⟨c1, c2, rfl, h1, h2, h3⟩ := hs
        exact ⟨[], c1, c2, by simp, rfl, h1, h2⟩
  | g + 1, o, segs, n, c, cs, h, hs => by
    cases segs with
    | nil => simp [withContent.segAt] at h
    | cons s r =>
      obtain ⟨k, d⟩ := s
      simp only [withContent.segAt] at h
      split at h
      · rename_i hb
        simp only [SegsR] at hs
        obtain ⟨c1, c2, rfl, h1, h2, h3⟩ := hs
        obtain ⟨pre, mid, post, rfl, h4, h5, h6⟩ := segAt_sound g _ r n c c2 h h3
        have := ble_nat hb
        exact ⟨c1 ++ pre, mid, post, by simp, by rw [List.length_append, h1, h4]; omega, h5, h6⟩
      · cases h
theorem segDrop_sound : ∀ (g o : Nat) (segs s : List Seg) (cs : List Value), segDrop g o segs = some s → SegsR m w segs cs →
    ∃ pre rest, cs = pre ++ rest ∧ pre.length = o ∧ SegsR m w s rest
  | 0, o, segs, s, cs, h, hs => by
    cases o with
    | succ o => simp [segDrop] at h
    | zero => simp only [segDrop, Option.some.injEq] at h; subst h; exact ⟨[], cs, rfl, rfl, hs⟩
  | g + 1, o, segs, s, cs, h, hs => by
    cases segs with
    | nil => simp [segDrop] at h
    | cons x r =>
      obtain ⟨k, d⟩ := x
      simp only [segDrop] at h
      split at h
      · rename_i hb
        simp only [SegsR] at hs
        obtain ⟨c1, c2, rfl, h1, h2, h3⟩ := hs
        obtain ⟨pre, rest, rfl, h4, h5⟩ := segDrop_sound g _ r s c2 h h3
        have := ble_nat hb
        exact ⟨c1 ++ pre, rest, by simp, by rw [List.length_append, h1, h4]; omega, h5⟩
      · cases h
theorem over_sound : ∀ (new segs segs' : List Seg) (cs ds : List Value), segPut.over new segs = some segs' → SegsR m w segs cs → SegsR m w new ds →
    ∃ mid post, cs = mid ++ post ∧ mid.length = ds.length ∧ SegsR m w segs' (ds ++ post)
  | [], segs, segs', cs, ds, h, hs, hn => by
    simp only [segPut.over, Option.some.injEq] at h
    simp only [SegsR] at hn
    subst h; subst hn
    exact ⟨[], cs, rfl, rfl, hs⟩
  | (n, c) :: new, segs, segs', cs, ds, h, hs, hn => by
    cases segs with
    | nil => simp [segPut.over] at h
    | cons x r =>
      obtain ⟨k, d⟩ := x
      simp only [segPut.over] at h
      split at h
      · rename_i hb
        split at h
        · rename_i r' hr
          cases h
          simp only [SegsR] at hs hn
          obtain ⟨c1, c2, rfl, h1, h2, h3⟩ := hs
          obtain ⟨d1, d2, rfl, g1, g2, g3⟩ := hn
          obtain ⟨mid, post, rfl, h4, h5⟩ := over_sound new r r' c2 d2 hr h3 g3
          have := beq_nat hb
          refine ⟨c1 ++ mid, post, by simp, by simp [h1, g1, h4, this], ?_⟩
          simp only [SegsR]
          exact ⟨d1, d2 ++ post, by simp, g1, g2, h5⟩
        · cases h
      · cases h
theorem segPut_sound : ∀ (g o : Nat) (new segs segs' : List Seg) (cs ds : List Value), segPut g o new segs = some segs' → SegsR m w segs cs → SegsR m w new ds →
    ∃ pre mid post, cs = pre ++ mid ++ post ∧ pre.length = o ∧ mid.length = ds.length ∧ SegsR m w segs' (pre ++ ds ++ post)
  | 0, o, new, segs, segs', cs, ds, h, hs, hn => by
    cases o with
    | succ o => simp [segPut] at h
    | zero =>
      simp only [segPut] at h
      obtain ⟨mid, post, rfl, h1, h2⟩ := over_sound new segs segs' cs ds h hs hn
      exact ⟨[], mid, post, by simp, rfl, h1, by simpa using h2⟩
  | g + 1, o, new, segs, segs', cs, ds, h, hs, hn => by
    cases segs with
    | nil => simp [segPut] at h
    | cons x r =>
      obtain ⟨k, d⟩ := x
      simp only [segPut] at h
      split at h
      · rename_i hb
        split at h
        · rename_i r' hr
          cases h
          simp only [SegsR] at hs
          obtain ⟨c1, c2, rfl, h1, h2, h3⟩ := hs
          obtain ⟨pre, mid, post, rfl, h4, h5, h6⟩ := segPut_sound g _ new r r' c2 ds hr h3 hn
          have := ble_nat hb
          refine ⟨c1 ++ pre, mid, post, by simp, by rw [List.length_append, h1, h4]; omega, h5, ?_⟩
          simp only [SegsR]
          exact ⟨c1, pre ++ ds ++ post, by simp, h1, h2, h6⟩
        · cases h
      · cases h

mutual
theorem take_sound : ∀ (lay : Lay) (s : List Seg) (a : AV) (r : List Seg) (cs : List Value), lay.take s = some (a, r) → SegsR m w s cs →
    ∃ ds rest, cs = ds ++ rest ∧ CR m w a ds ∧ ds.length = lay.cells ∧ SegsR m w r rest ∧ (match lay with | .one _ => a.one = true | _ => ∃ n c, a = .ag n c)
  | .one z, s, a, r, cs, h, hs => by
    simp only [Lay.take] at h
    split at h
    · rename_i b r'
      split at h
      · rename_i ho
        cases h
        simp only [SegsR, RC, LR] at hs
        obtain ⟨c1, c2, rfl, h1, ⟨d1, d2, rfl, h2, rfl⟩, h3⟩ := hs
        exact ⟨d1, c2, by simp, h2, by simpa [Lay.cells] using h1, h3, ho⟩
      · cases h
    · cases h
  | .arr n z, s, a, r, cs, h, hs => by
    simp only [Lay.take] at h
    split at h
    · rename_i k c r'
      split at h
      · rename_i hb
        cases h
        simp only [SegsR] at hs
        obtain ⟨c1, c2, rfl, h1, h2, h3⟩ := hs
        have := beq_nat hb
        refine ⟨c1, c2, rfl, ?_, by simp [Lay.cells]; omega, h3, _, _, rfl⟩
        simp only [CR]
        exact ⟨by omega, h2⟩
      · cases h
    · cases h
  | .st l, s, a, r, cs, h, hs => by
    simp only [Lay.take] at h
    split at h
    · rename_i as r' hl
      cases h
      obtain ⟨ds, rest, h1, h2, h3, h4⟩ := ltake_sound l s as r cs hl hs
      refine ⟨ds, rest, h1, ?_, h3, h4, _, _, rfl⟩
      simp only [CR, RC]
      exact ⟨h3, h2⟩
    · cases h
theorem ltake_sound : ∀ (l : List Lay) (s : List Seg) (as : List AV) (r : List Seg) (cs : List Value), ltake l s = some (as, r) → SegsR m w s cs →
    ∃ ds rest, cs = ds ++ rest ∧ LR m w as ds ∧ ds.length = lcells l ∧ SegsR m w r rest
  | [], s, as, r, cs, h, hs => by
    simp only [ltake, Option.some.injEq, Prod.mk.injEq] at h
    obtain ⟨rfl, rfl⟩ := h
    exact ⟨[], cs, rfl, by simp [LR], rfl, hs⟩
  | a :: l, s, as, r, cs, h, hs => by
    simp only [ltake] at h
    split at h
    · cases h
    · rename_i x r1 h1
      split at h
      · cases h
      · rename_i xs r2 h2
        cases h
        obtain ⟨ds, rest, rfl, g1, g2, g3, _⟩ := take_sound a s x r1 cs h1 hs
        obtain ⟨ds2, rest2, rfl, g4, g5, g6⟩ := ltake_sound l r1 xs r rest h2 g3
        refine ⟨ds ++ ds2, rest2, by simp, ?_, by simp [lcells, g2, g5], g6⟩
        simp only [LR]
        exact ⟨ds, ds2, rfl, g1, g4⟩
end

mutual
theorem put_sound : ∀ (lay : Lay) (a : AV) (s : List Seg) (cs : List Value), lay.put a = some s → CR m w a cs → cs.length = lay.cells ∧ SegsR m w s cs ∨ a = .u
  | .one z, a, s, cs, h, hc => by
    simp only [Lay.put] at h
    split at h
    · rename_i ho
      cases h
      have hl : ∃ v, cs = [v] := one_cell ho hc
      obtain ⟨v, rfl⟩ := hl
      refine .inl ⟨rfl, ?_⟩
      simp only [SegsR, RC, LR]
      exact ⟨[v], [], rfl, rfl, ⟨[v], [], rfl, hc, rfl⟩, rfl⟩
    · cases h
  | .arr n z, a, s, cs, h, hc => by
    simp only [Lay.put] at h
    split at h
    · rename_i k c
      split at h
      · rename_i hb
        cases h
        simp only [CR] at hc
        have := beq_nat hb
        refine .inl ⟨by simp [Lay.cells]; omega, ?_⟩
        simp only [SegsR]
        exact ⟨cs, [], by simp, by omega, hc.2, rfl⟩
      · cases h
    · cases h
  | .st l, a, s, cs, h, hc => by
    simp only [Lay.put] at h
    split at h
    · rename_i k as
      split at h
      · rename_i hb
        simp only [CR, RC] at hc
        obtain ⟨h1, h2⟩ := lput_sound l as s cs h hc.2
        exact .inl ⟨h1, h2⟩
      · cases h
    · cases h
theorem lput_sound : ∀ (l : List Lay) (as : List AV) (s : List Seg) (cs : List Value), lput l as = some s → LR m w as cs → cs.length = lcells l ∧ SegsR m w s cs
  | [], as, s, cs, h, hc => by
    simp only [lput] at h
    split at h
    · cases h
      simp only [LR] at hc
      subst hc
      exact ⟨rfl, by simp [SegsR]⟩
    · cases h
  | a :: l, as, s, cs, h, hc => by
    simp only [lput] at h
    split at h
    · rename_i x xs
      split at h
      · cases h
      · rename_i s1 h1
        split at h
        · cases h
        · rename_i s2 h2
          cases h
          simp only [LR] at hc
          obtain ⟨c1, c2, rfl, g1, g2⟩ := hc
          obtain ⟨e1, e2⟩ := lput_sound l xs s2 c2 h2 g2
          rcases put_sound a x s1 c1 h1 g1 with ⟨e3, e4⟩ | rfl
          · refine ⟨by simp [lcells, e1, e3], segs_append _ _ _ _ e4 e2⟩
          · exfalso
            cases a <;> simp [Lay.put, AV.one] at h1
    · cases h
where segs_append : ∀ (s1 s2 : List Seg) (c1 c2 : List Value), SegsR m w s1 c1 → SegsR m w s2 c2 → SegsR m w (s1 ++ s2) (c1 ++ c2)
  | [], s2, c1, c2, h1, h2 => by simp only [SegsR] at h1; subst h1; simpa using h2
  | (n, c) :: s1, s2, c1, c2, h1, h2 => by
    simp only [SegsR] at h1
    obtain ⟨d1, d2, rfl, e1, e2, e3⟩ := h1
    simp only [List.cons_append, SegsR]
    exact ⟨d1, d2 ++ c2, by simp, e1, e2, segs_append s1 s2 d2 c2 e3 h2⟩
end
theorem fits_kind {lay : Lay} {a : AV} (h : fits1 lay a = true) : (lay.isAgg = false ∧ a.one = true) ∨ (lay.isAgg = true ∧ ∃ n c, a = .ag n c ∧ n = lay.cells) := by
  unfold fits1 at h
  split at h <;> first | (cases h; done) | skip
  · left
    refine ⟨rfl, ?_⟩
    cases a <;> first | rfl | (simp_all)
  · rename_i n z k c
    exact .inr ⟨rfl, _, _, rfl, by simp only [Lay.cells]; exact (beq_nat h).symm⟩
  · rename_i l k c
    exact .inr ⟨rfl, _, _, rfl, by simp only [Lay.cells]; exact (beq_nat h).symm⟩
end
end Go.Vc
set_option linter.unusedVariables false
set_option linter.unusedSimpArgs false
namespace Go.Vc
open Go Go.RowKit

/-! ## Cells of a block -/
theorem add_at (g o j : Nat) : (⟨g, o, none⟩ : Addr).add j = ⟨g, o + j, none⟩ := by unfold Addr.add; split <;> simp_all
theorem cells_at {w : World} {g o : Nat} {cs : Array Value} {T : Nat} {fz : Nat × Nat} {pre mid post : List Value} (h : w.heap[g]? = some (.cells cs T fz))
    (hcs : cs.toList = pre ++ mid ++ post) (ho : pre.length = o) : ∀ j x, mid[j]? = some x → w.cell? ((⟨g, o, none⟩ : Addr).add j) = some x := by
  intro j x hx
  rw [add_at]
  have hj := (List.getElem?_eq_some_iff.1 hx).1
  simp only [World.cell?, h, Option.isSome_none, Bool.false_eq_true, if_false]
  have : cs[o + j]? = cs.toList[o + j]? := by simp
  rw [this, hcs, List.append_assoc, List.getElem?_append_right (by omega), show o + j - pre.length = j by omega, List.getElem?_append_left hj]
  exact hx
theorem run_isAgg {P : Program} {T : Nat} {b : Bool} (h : (P.underlying T).map aggD = some b) (w : World) : (isAgg T).run P w = .ok b w := by
  cases hu : P.underlying T with
  | none => simp [hu] at h
  | some d =>
    rw [hu] at h
    simp only [Option.map_some, Option.some.injEq] at h
    unfold isAgg
    rw [Sem.run_bind, run_underlying hu w]
    subst h
    cases d <;> rfl
theorem run_loadVar_agg {P : Program} {T : Nat} {i : TypeInfo} {w : World} {ad : Addr} {ds : List Value} (h : (P.underlying T).map aggD = some true) (hi : P.info? T = some i)
    (hl : ds.length = i.size) (hc : ∀ j x, ds[j]? = some x → w.cell? (ad.add j) = some x) : (loadVar T ad).run P w = .ok (.agg ds.toArray) w := by
  have h1 := run_loadCells_list (P := P) w ad ds hc
  rw [hl] at h1
  simp [loadVar, Sem.run_bind, run_isAgg h, sizeOf, typeInfo, hi, h1]
theorem run_loadVar_one {P : Program} {T : Nat} {w : World} {ad : Addr} {v : Value} (h : (P.underlying T).map aggD = some false) (hc : w.cell? ad = some v) :
    (loadVar T ad).run P w = .ok v w := by
  simp [loadVar, Sem.run_bind, run_isAgg h, hc]
theorem run_storeVar {P : Program} {T : Nat} {i : TypeInfo} {w : World} {ad : Addr} {v : Value} (hi : P.info? T = some i) (hl : v.cells.size = i.size) :
    (storeVar T ad v).run P w = (storeCells ad v.cells.toList).run P w := by
  simp [storeVar, sizeOf, typeInfo, hi, hl]

theorem setCell_block {w : World} {g o : Nat} {cs : Array Value} {T : Nat} {fz : Nat × Nat} (h : w.heap[g]? = some (.cells cs T fz)) (v : Value) :
    (w.setCell ⟨g, o, none⟩ v).heap[g]? = some (.cells (cs.setIfInBounds o v) T fz) := by
  simp [World.setCell, Array.getElem?_modify, h]
theorem setCells_block {g : Nat} {T : Nat} {fz : Nat × Nat} : ∀ (vs : List Value) (o : Nat) (w : World) (cs : Array Value), w.heap[g]? = some (.cells cs T fz) → o + vs.length ≤ cs.size →
    (w.setCells g o vs).heap[g]? = some (.cells (cs.toList.take o ++ vs ++ cs.toList.drop (o + vs.length)).toArray T fz) ∧
    (w.setCells g o vs).heap.size = w.heap.size ∧ (∀ b, b ≠ g → (w.setCells g o vs).heap[b]? = w.heap[b]?) ∧
    (w.setCells g o vs).os = w.os ∧ (w.setCells g o vs).tape = w.tape ∧ (w.setCells g o vs).output = w.output
  | [], o, w, cs, h, _ => by
    simp only [World.setCells, List.append_nil, List.length_nil, Nat.add_zero, List.take_append_drop, Array.toArray_toList]
    exact ⟨h, trivial, fun _ _ => trivial, trivial, trivial, trivial⟩
  | v :: r, o, w, cs, h, hl => by
    simp only [List.length_cons] at hl
    obtain ⟨h1, h2, h3, h4, h5, h6⟩ := setCells_block r (o + 1) (w.setCell ⟨g, o, none⟩ v) _ (setCell_block h v) (by simp; omega)
    simp only [World.setCells]
    refine ⟨?_, by rw [h2]; simp [World.setCell], fun b hb => ?_, h4, h5, h6⟩
    · rw [h1]
      have e := list_seg_step cs.toList o v r (by simp; omega)
      simp only [Array.toList_setIfInBounds, List.length_cons]
      rw [e]
    · rw [h3 b hb]
      simp only [World.setCell, Array.getElem?_modify]
      rw [if_neg (fun e => hb e.symm)]

theorem run_storeCells_block {P : Program} {g o : Nat} {w : World} {cs : Array Value} {T : Nat} {fz : Nat × Nat} {vs : List Value} (h : w.heap[g]? = some (.cells cs T fz)) (hz : Thawed fz cs.size)
    (hl : o + vs.length ≤ cs.size) (h1 : ∀ v ∈ vs, v.oneCell' = true) : (storeCells ⟨g, o, none⟩ vs).run P w = .ok () (w.setCells g o vs) := by
  have := run_storeCells_cells (P := P) g o vs 0 w (fun j hj => by simp [World.cell?, h]; omega) (fun j hj => by
    have := hz.no (j := o + j) (by omega)
    simp only [World.frozen?, h, Nat.add_zero]
    cases hb : (decide (fz.1 ≤ o + j) && decide (o + j < fz.2)) with
    | false => rfl
    | true => simp at hb; exact absurd hb this) h1
  simpa using this

theorem splitAt3 {cs : List Value} {pre mid post ds : List Value} (h : cs = pre ++ mid ++ post) (hl : mid.length = ds.length) :
    cs.take pre.length ++ ds ++ cs.drop (pre.length + ds.length) = pre ++ ds ++ post := by
  subst h
  rw [List.append_assoc pre mid post, List.take_left, ← List.append_assoc pre mid post, List.drop_left' (by rw [List.length_append, hl])]

mutual
theorem CR_one {m : Hd} {w : World} : ∀ (a : AV) (cs : List Value), CR m w a cs → ∀ v ∈ cs, v.oneCell' = true
  | .u, cs, h => by simp only [CR] at h; obtain ⟨v, rfl, h1⟩ := h; simpa using h1
  | .i n, cs, h => by simp only [CR] at h; subst h; simp [Value.oneCell']
  | .w8 x, cs, h => by simp only [CR] at h; subst h; simp [Value.oneCell']
  | .w16 x, cs, h => by simp only [CR] at h; subst h; simp [Value.oneCell']
  | .w32 x, cs, h => by simp only [CR] at h; subst h; simp [Value.oneCell']
  | .w64 x, cs, h => by simp only [CR] at h; subst h; simp [Value.oneCell']
  | .b x, cs, h => by simp only [CR] at h; subst h; simp [Value.oneCell']
  | .kb x, cs, h => by simp only [CR] at h; subst h; simp [Value.oneCell']
  | .s x, cs, h => by simp only [CR] at h; subst h; simp [Value.oneCell']
  | .ag n c, cs, h => by simp only [CR] at h; exact RC_one c cs h.2
  | .tup l, cs, h => by simp [CR] at h
  | .p k g o, cs, h => by simp only [CR] at h; obtain ⟨g, _, rfl⟩ := h; simp [Value.oneCell']
  | .pe k g o e i, cs, h => by simp only [CR] at h; obtain ⟨_, g, _, _, rfl⟩ := h; simp [Value.oneCell']
  | .pr a, cs, h => by simp only [CR] at h; obtain ⟨ad, ds, rfl, _⟩ := h; simp [Value.oneCell']
  | .sl k g o e a n, cs, h => by simp only [CR] at h; obtain ⟨_, ad, cap, _, rfl, _⟩ := h; simp [Value.oneCell']
  | .rb e c, cs, h => by simp only [CR] at h; obtain ⟨ad, n, cap, ds, rfl, _⟩ := h; simp [Value.oneCell']
  | .rw k, cs, h => by simp only [CR] at h; obtain ⟨u, _, rfl, h1⟩ := h; simpa using h1
  | .nl, cs, h => by simp only [CR] at h; subst h; simp [Value.oneCell']
  | .pn, cs, h => by simp only [CR] at h; subst h; simp [Value.oneCell']
  | .cl k, cs, h => by
    simp only [CR] at h
    obtain ⟨u, _, rfl, h1⟩ := h
    cases u <;> simp_all [clipV, Value.oneCell']
  | .z, cs, h => by simp only [CR] at h; obtain ⟨ad, rfl⟩ := h; simp [Value.oneCell']
  | .mh k, cs, h => by simp only [CR] at h; obtain ⟨u, _, rfl, h1⟩ := h; simpa using h1
  | .mn, cs, h => by simp only [CR] at h; subst h; simp [Value.oneCell']
  | .pf k g o e i j c, cs, h => by simp only [CR] at h; obtain ⟨_, g, _, _, rfl⟩ := h; simp [Value.oneCell']
  | .fv f l, cs, h => by simp only [CR] at h; obtain ⟨vs, rfl, _⟩ := h; simp [Value.oneCell']
theorem RC_one {m : Hd} {w : World} : ∀ (c : AC) (cs : List Value), RC m w c cs → ∀ v ∈ cs, v.oneCell' = true
  | .bt xs, cs, h => by simp only [RC] at h; subst h; intro v hv; obtain ⟨x, _, rfl⟩ := List.mem_map.1 hv; rfl
  | .wh xs, cs, h => by simp only [RC] at h; subst h; intro v hv; obtain ⟨x, _, rfl⟩ := List.mem_map.1 hv; rfl
  | .wd xs, cs, h => by simp only [RC] at h; subst h; intro v hv; obtain ⟨x, _, rfl⟩ := List.mem_map.1 hv; rfl
  | .ww xs, cs, h => by simp only [RC] at h; subst h; intro v hv; obtain ⟨x, _, rfl⟩ := List.mem_map.1 hv; rfl
  | .is xs, cs, h => by simp only [RC] at h; subst h; intro v hv; obtain ⟨x, _, rfl⟩ := List.mem_map.1 hv; rfl
  | .ss xs, cs, h => by simp only [RC] at h; subst h; intro v hv; obtain ⟨x, _, rfl⟩ := List.mem_map.1 hv; rfl
  | .vs l, cs, h => by simp only [RC] at h; exact LR_one l cs h
  | .fn e n f, cs, h => by
    simp only [RC] at h
    obtain ⟨css, h1, rfl, h3⟩ := h
    intro v hv
    obtain ⟨d, hd, hv⟩ := List.mem_flatten.1 hv
    obtain ⟨j, hj⟩ := List.getElem?_of_mem hd
    exact CR_one (f j) d (h3 j d hj).2 v hv
  | .ds sh xs, cs, h => by
    obtain ⟨css, rfl, h3⟩ := RC_ds.1 h
    intro v hv
    obtain ⟨d, hd, hv⟩ := List.mem_flatten.1 hv
    obtain ⟨j, hj⟩ := List.getElem?_of_mem hd
    have hjl := (List.getElem?_eq_some_iff.1 hj).1
    exact DR_one sh _ d (h3.2 j d _ hj (List.getElem?_eq_getElem (by have := h3.1; omega))).2 v hv
theorem LR_one {m : Hd} {w : World} : ∀ (l : List AV) (cs : List Value), LR m w l cs → ∀ v ∈ cs, v.oneCell' = true
  | [], cs, h => by simp only [LR] at h; subst h; simp
  | a :: l, cs, h => by
    simp only [LR] at h
    obtain ⟨c1, c2, rfl, h2, h3⟩ := h
    intro v hv
    rcases List.mem_append.1 hv with hv | hv
    · exact CR_one a c1 h2 v hv
    · exact LR_one l c2 h3 v hv
end

/-! ## Load -/
theorem Look.run_pure1 {me : Mem} {c : Prop} {v : AV} {e : Eff} (h : (pure1 c v).run me = some e) : e = ⟨c, v, []⟩ := by
  simp only [pure1, Look.run, Option.some.injEq] at h; exact h.symm
theorem Look.run_look {me : Mem} {k : Nat} {f : AB → Look} {e : Eff} (h : (Look.look k f).run me = some e) : ∃ ab, mlook me k = some ab ∧ (f ab).run me = some e := by
  simp only [Look.run] at h
  split at h
  · exact ⟨_, by assumption, h⟩
  · cases h
theorem Look.run_no {me : Mem} {e : Eff} (h : Look.no.run me = some e) : False := by simp [Look.run] at h
theorem Look.run_more {me : Mem} {c : Prop} : ∀ {l : Look} {e : Eff}, (l.more c).run me = some e → ∃ e0, l.run me = some e0 ∧ e = ⟨c ∧ e0.c, e0.v, e0.puts⟩
  | .no, e, h => by simp [Look.more, Look.run] at h
  | .ret e0, e, h => by simp only [Look.more, Look.run, Option.some.injEq] at h; exact ⟨e0, rfl, h.symm⟩
  | .look k f, e, h => by
    simp only [Look.more] at h
    obtain ⟨ab, h1, h2⟩ := Look.run_look h
    obtain ⟨e0, h3, h4⟩ := Look.run_more h2
    exact ⟨e0, by simp [Look.run, h1, h3], h4⟩

theorem bk_cells {m : Hd} {w : World} {me : Mem} {k : Nat} {T : Nat} {segs : List Seg} (hm : MemR m w me) (h : mlook me k = some (.bk T segs)) :
    ∃ g cs fz, m k = some (.pointer (some ⟨g, 0, none⟩)) ∧ w.heap[g]? = some (.cells cs T fz) ∧ Thawed fz cs.size ∧ SegsR m w segs cs.toList := hm.at_ k _ h
theorem row_cells {m : Hd} {w : World} {me : Mem} {k : Nat} {T e : Nat} {c : AC} (hm : MemR m w me) (h : mlook me k = some (.row T e c)) :
    ∃ v n cs, m k = some v ∧ OwnRow w T e v n cs ∧ RC m w c cs := hm.at_ k _ h

section
variable {m : Hd} {w : World}
theorem isE_spec {e : Nat} {c : AC} (h : c.isE e = true) : c.esz = some e ∧ 0 < e := by
  unfold AC.isE at h
  split at h
  · rename_i k hk
    split at h
    · rename_i hb
      have := beq_nat hb
      subst this
      exact ⟨hk, by simp [Nat.blt] at h; omega⟩
    · cases h
  · cases h
theorem get1_sound {c : AC} {cs : List Value} {a : AV} {i : Nat} (h : c.get1 real i = some a) (hr : RC m w c cs) (hi : i < cs.length) :
    ∃ v, cs[i]? = some v ∧ CR m w a [v] ∧ a.one = true := by
  unfold AC.get1 at h
  split at h
  · rename_i he
    split at h
    · rename_i b hb
      split at h
      · rename_i ho
        cases h
        have hl := RC_len he hr
        obtain ⟨d, hd, h1, h2⟩ := RC_get hb he hr (by omega)
        obtain ⟨v, rfl⟩ := List.length_eq_one_iff.1 hd
        exact ⟨v, by simpa using h2 0 v rfl, h1, ho⟩
      · cases h
    · cases h
  · cases h
/-- the cells of a row that is not nil -/
theorem row_open {T e n : Nat} {v : Value} {cs : List Value} (h : OwnRow w T e v n cs) {i : Nat} (hi : i < cs.length) :
    ∃ g o cap cur fz pre rest, v = .slice (some ⟨g, o, none⟩) n cap ∧ w.heap[g]? = some (.cells cur T fz) ∧ Thawed fz cur.size ∧ n ≤ cap ∧ 0 < cap ∧ cap ≤ maxLen ∧ o + cap * e ≤ cur.size ∧ cur.toList = pre ++ cs ++ rest ∧ pre.length = o := by
  rcases h.2 with ⟨ad, rfl, rfl⟩ | ⟨g, o, cap, cur, fz, rfl, h1, h2, h3, h4, h5, h6, h7⟩
  · have := h.1; omega
  · refine ⟨g, o, cap, cur, fz, cur.toList.take o, (cur.toList.drop o).drop (n * e), rfl, h1, h2, h3, h4, h5, h6, ?_, ?_⟩
    · rw [← h7, List.append_assoc, List.take_append_drop, List.take_append_drop]
    · have : cur.toList.length = cur.size := by simp
      rw [List.length_take]; omega
theorem CR_wid {a : AV} {cs : List Value} (h : CR m w a cs) : cs.length = a.wid := by
  cases a with
  | ag n c => simp only [CR] at h; simp only [AV.wid]; exact h.1
  | tup l => simp [CR] at h
  | u => simp only [CR] at h; obtain ⟨v, rfl, _⟩ := h; rfl
  | _ => obtain ⟨v, rfl⟩ := one_cell rfl h; rfl
theorem fieldAt_sound : ∀ (j c : Nat) (l : List AV) (a : AV) (cs : List Value), fieldAt j c l = some a → LR m w l cs → ∃ pre mid post, cs = pre ++ mid ++ post ∧ pre.length = c ∧ CR m w a mid
  | 0, c, l, a, cs, h, hl => by
    cases l with
    | nil => simp [fieldAt] at h
    | cons b r =>
      cases c with
      | succ c => simp [fieldAt] at h
      | zero =>
        simp only [fieldAt, Option.some.injEq] at h
        subst h
        simp only [LR] at hl
        obtain ⟨c1, c2, rfl, h1, _⟩ := hl
        exact ⟨[], c1, c2, rfl, rfl, h1⟩
  | j + 1, c, l, a, cs, h, hl => by
    cases l with
    | nil => simp [fieldAt] at h
    | cons b r =>
      simp only [fieldAt] at h
      split at h
      · rename_i hb
        have hb := ble_nat hb
        simp only [LR] at hl
        obtain ⟨c1, c2, rfl, h1, h2⟩ := hl
        obtain ⟨pre, mid, post, rfl, h3, h4⟩ := fieldAt_sound j _ r a c2 h h2
        have := CR_wid h1
        exact ⟨c1 ++ pre, mid, post, by simp, by rw [List.length_append]; omega, h4⟩
      · cases h
theorem load_fit {P : Program} {T : Nat} {lay : Lay} {i : TypeInfo} {a : AV} {ds : List Value} {ad : Addr} (hf : fits1 lay a = true) (hagg : (P.underlying T).map aggD = some lay.isAgg) (hi : P.info? T = some i) (hsz : lay.cells = i.size)
    (hc : CR m w a ds) (hcell : ∀ j x, ds[j]? = some x → w.cell? (ad.add j) = some x) : ∃ v, (loadVar T ad).run P w = .ok v w ∧ RV m w a v := by
  rcases fits_kind hf with ⟨h1, h2⟩ | ⟨h1, n, c, rfl, h2⟩
  · obtain ⟨v, rfl⟩ := one_cell h2 hc
    rw [h1] at hagg
    exact ⟨v, run_loadVar_one hagg (by have := hcell 0 v rfl; simpa [Addr.add] using this), RV_of_CR h2 hc⟩
  · rw [h1] at hagg
    have hl := CR_wid hc
    simp only [AV.wid] at hl
    exact ⟨_, run_loadVar_agg hagg hi (by omega) hcell, RV_ag hc⟩
end

theorem clen_lt {m : Hd} {w : World} {c : AC} {d : List Value} {e n i : Nat} (he : c.esz = some e) (h : RC m w c d) (hd : d.length = n) (hi : i < clen real e n c) : i < c.len real := by
  unfold clen at hi
  split at hi
  · have := RC_len he h
    omega
  · exact hi
/-- what a load comes to: the value that lies at the address -/
theorem load_sound {P : Program} {tt : TT} (ht : TTok P tt) {m : Hd} {w : World} {me : Mem} {kb : Nat} (hb : Base m w me kb) {T : Nat} {x : AV} {vx : Value} {e : Eff}
    (hx : RV m w x vx) (h : (loadEv real tt T x).run me = some e) (hc : e.c) : ∃ v, (Instr.loadAt T vx).run P w = .ok v w ∧ OkE m w me kb e.v e.puts v m w := by
  unfold loadEv at h
  split at h
  · rename_i ti k sz by_ lay ek hl
    have hti := ht.look hl
    obtain ⟨i, z, hi, hsz, _⟩ := hti.i
    have hsz : i.size = sz := hsz
    have hcells : lay.cells = sz := hti.cells
    have hagg : (P.underlying T).map aggD = some lay.isAgg := hti.agg
    split at h
    · -- a pointer to what stays
      rename_i a
      simp only [RV, CR] at hx
      obtain ⟨ad, ds, hv, h1, h2⟩ := hx
      simp only [List.cons.injEq, and_true] at hv
      subst hv
      have hrun : (Instr.loadAt T (.pointer (some ad))).run P w = (loadVar T ad).run P w := rfl
      split at h
      · exact (Look.run_no h).elim
      · -- one cell
        rename_i z' hne
        have he := Look.run_pure1 h
        subst he
        have hlay : (P.underlying T).map aggD = some false := hagg
        by_cases ho : a.one = true
        · obtain ⟨v, rfl⟩ : ∃ v, ds = [v] := by
            have := put_sound (.one .u) a [(1, .vs [a])] ds (by simp [Lay.put, ho]) h1
            rcases this with ⟨h3, _⟩ | rfl
            · exact List.length_eq_one_iff.1 h3
            · simp [AV.one] at ho
          refine ⟨v, ?_, hb.same (RV_of_CR ho h1)⟩
          rw [hrun]
          exact run_loadVar_one hlay (by have := h2.2 0 v rfl; simpa [Addr.add] using this)
        · cases a with
          | u =>
            simp only [CR] at h1
            obtain ⟨v, rfl, _⟩ := h1
            refine ⟨v, ?_, hb.same (by simp [RV])⟩
            rw [hrun]
            exact run_loadVar_one hlay (by have := h2.2 0 v rfl; simpa [Addr.add] using this)
          | ag n c => exact absurd rfl (hne n c)
          | tup l => simp [CR] at h1
          | _ => simp [AV.one] at ho
      · rename_i n z' k' c _
        split at h
        · rename_i hbq
          have he := Look.run_pure1 h
          subst he
          have := beq_nat hbq
          have hlen : ds.length = k' := by simp only [CR] at h1; exact h1.1
          refine ⟨.agg ds.toArray, ?_, hb.same (RV_ag h1)⟩
          rw [hrun]
          exact run_loadVar_agg hagg hi (by simp only [Lay.cells] at hcells; omega) h2.2
        · exact (Look.run_no h).elim
      · rename_i l k' c _
        split at h
        · rename_i hbq
          have he := Look.run_pure1 h
          subst he
          have := beq_nat hbq
          have hlen : ds.length = k' := by simp only [CR] at h1; exact h1.1
          refine ⟨.agg ds.toArray, ?_, hb.same (RV_ag h1)⟩
          rw [hrun]
          exact run_loadVar_agg hagg hi (by simp only [Lay.cells] at hcells; omega) h2.2
        · exact (Look.run_no h).elim
      · exact (Look.run_no h).elim
    · -- a variable
      rename_i k g o
      simp only [RV, CR] at hx
      obtain ⟨gb, h1, hv⟩ := hx
      simp only [List.cons.injEq, and_true] at hv
      subst hv
      have hrun : (Instr.loadAt T (.pointer (some ⟨gb, o, none⟩))).run P w = (loadVar T ⟨gb, o, none⟩).run P w := rfl
      obtain ⟨ab, hab, h⟩ := Look.run_look h
      split at h
      · rename_i T' segs
        obtain ⟨g', cs, fz, h2, h3, h4, h5⟩ := bk_cells hb.mem hab
        rw [h1] at h2; cases h2
        split at h
        · rename_i s hs
          split at h
          · rename_i a r htk
            have he := Look.run_pure1 h
            subst he
            obtain ⟨pre, rest, hcs, hpre, hsr⟩ := segDrop_sound g o segs s cs.toList hs h5
            obtain ⟨ds, rest2, rfl, hcr, hlen, _, hkind⟩ := take_sound lay s a r rest htk hsr
            have hcell := cells_at h3 (pre := pre) (mid := ds) (post := rest2) (by rw [hcs, List.append_assoc]) hpre
            cases lay with
            | one z' =>
              simp only at hkind
              obtain ⟨v, rfl⟩ : ∃ v, ds = [v] := List.length_eq_one_iff.1 hlen
              exact ⟨v, by rw [hrun]; exact run_loadVar_one hagg (by have := hcell 0 v rfl; simpa [Addr.add] using this), hb.same (RV_of_CR hkind hcr)⟩
            | arr n z' =>
              obtain ⟨n', c, rfl⟩ := hkind
              exact ⟨.agg ds.toArray, by rw [hrun]; exact run_loadVar_agg hagg hi (by omega) hcell, hb.same (RV_ag hcr)⟩
            | st l =>
              obtain ⟨n', c, rfl⟩ := hkind
              exact ⟨.agg ds.toArray, by rw [hrun]; exact run_loadVar_agg hagg hi (by omega) hcell, hb.same (RV_ag hcr)⟩
          · exact (Look.run_no h).elim
        · exact (Look.run_no h).elim
      · exact (Look.run_no h).elim
    · -- an element
      rename_i k g o e' i'
      simp only [RV, CR] at hx
      obtain ⟨hv0, gb, h1, hblk, hv⟩ := hx
      simp only [List.cons.injEq, and_true] at hv
      subst hv
      have hrun : (Instr.loadAt T (.pointer (some ⟨gb, bof hv0 + (o + i' * e'), none⟩))).run P w = (loadVar T ⟨gb, bof hv0 + (o + i' * e'), none⟩).run P w := rfl
      split at h
      · have h' := Look.run_look h
        clear h
        obtain ⟨ab, hab, h⟩ := h'
        split at h
        · rename_i T' segs
          obtain ⟨g', cs, fz, h2, h3, h4, h5⟩ := bk_cells hb.mem hab
          rw [h1] at h2; cases h2
          simp only [blk, Option.some.injEq] at hblk
          subst hblk
          split at h
          · rename_i n c hs
            split at h
            · rename_i a ha
              split at h
              · rename_i hfit
                have he := Look.run_pure1 h
                subst he
                obtain ⟨pre, mid, post, hcs, hpre, hmid, hrc⟩ := segAt_sound g o segs n c cs.toList hs h5
                unfold AC.getE at ha
                split at ha
                · rename_i hE
                  obtain ⟨he1, he2⟩ := isE_spec hE
                  have hc' : i' < c.len real := clen_lt he1 hrc hmid hc
                  obtain ⟨d, r1, r2, r3⟩ := RC_get ha he1 hrc hc'
                  obtain ⟨v, q1, q2⟩ := load_fit (P := P) (ad := ⟨g', o + i' * e', none⟩) hfit hagg hi (by omega) r2 (fun j x hx => by
                    have := cells_at h3 hcs hpre _ x (r3 j x hx)
                    rw [add_at] at this ⊢
                    rw [show o + i' * e' + j = o + (i' * e' + j) by omega]; exact this)
                  exact ⟨v, by rw [hrun]; simpa [bof] using q1, hb.same q2⟩
                · cases ha
              · exact (Look.run_no h).elim
            · split at h
              · rename_i hcut _ _
                have he := Look.run_pure1 h
                subst he
                obtain ⟨pre, mid, post, hcs, hpre, hmid, hrc⟩ := segAt_sound g o segs n c cs.toList hs h5
                unfold AC.cutE at hcut
                split at hcut
                · rename_i hE
                  obtain ⟨he1, he2⟩ := isE_spec hE
                  have hc' : i' * e' + e' ≤ c.len real := hc
                  obtain ⟨r1, r2, r3⟩ := RC_cut hcut he1 hrc hc'
                  rw [Nat.mul_one, Nat.mul_one] at r1
                  have hbq := beq_nat (a := Lay.cells (.arr _ _)) (b := e') (by assumption)
                  have hml := RC_len he1 hrc
                  have hdl : ((mid.drop (i' * e')).take e').length = e' := by rw [List.length_take, List.length_drop]; omega
                  have hcell : ∀ (j : Nat) (x : Value), ((mid.drop (i' * e')).take e')[j]? = some x → w.cell? ((⟨g', o + i' * e', none⟩ : Addr).add j) = some x := by
                    intro j x hx
                    rw [List.getElem?_take] at hx
                    split at hx
                    · rw [List.getElem?_drop] at hx
                      have := cells_at h3 hcs hpre _ x hx
                      rw [add_at] at this ⊢
                      rw [show o + i' * e' + j = o + (i' * e' + j) by omega]; exact this
                    · cases hx
                  refine ⟨.agg ((mid.drop (i' * e')).take e').toArray, ?_, hb.same (RV_ag ⟨hdl, r1⟩)⟩
                  rw [hrun]
                  have hz : bof (.pointer (some ⟨g', 0, none⟩)) + (o + i' * e') = o + i' * e' := by simp [bof]
                  rw [hz]
                  exact run_loadVar_agg (by simpa [Lay.isAgg] using hagg) hi (by rw [hdl, ← hbq, hcells]; exact hsz.symm) hcell
                · cases hcut
              · exact (Look.run_no h).elim
          · exact (Look.run_no h).elim
        · rename_i T' e2 c
          obtain ⟨v0, n, cs, h2, h3, h4⟩ := row_cells hb.mem hab
          rw [h1] at h2; cases h2
          split at h
          · rename_i hee
            have hee := beq_nat hee
            subst hee
            split at h
            · rename_i a ha
              split at h
              · rename_i hfit
                have he := Look.run_pure1 h
                subst he
                have hc' : i' < c.len real := hc
                unfold AC.getE at ha
                split at ha
                · rename_i hE
                  obtain ⟨he1, he2⟩ := isE_spec hE
                  obtain ⟨d, r1, r2, r3⟩ := RC_get ha he1 h4 hc'
                  have hlen := RC_len he1 h4
                  obtain ⟨g', o', cap, cur, fz, pre, rest, rfl, g1, g2, g3, g4, g5, g6, g7, g8⟩ := row_open h3 (i := 0) (by rw [hlen]; exact Nat.mul_pos (by omega) he2)
                  rw [blk_slice g4] at hblk
                  simp only [Option.some.injEq] at hblk
                  subst hblk
                  obtain ⟨v, q1, q2⟩ := load_fit (P := P) (ad := ⟨g', o' + (0 + i' * e'), none⟩) hfit hagg hi (by omega) r2 (fun j x hx => by
                    have := cells_at g1 g7 g8 _ x (r3 j x hx)
                    rw [add_at] at this ⊢
                    rw [show o' + (0 + i' * e') + j = o' + (i' * e' + j) by omega]; exact this)
                  exact ⟨v, by rw [hrun]; exact q1, hb.same q2⟩
                · cases ha
              · exact (Look.run_no h).elim
            · exact (Look.run_no h).elim
          · exact (Look.run_no h).elim
        · exact (Look.run_no h).elim
      · exact (Look.run_no h).elim
    · -- an element's field
      rename_i k g o e' i' jf cc
      simp only [RV, CR] at hx
      obtain ⟨hv0, gb, h1, hblk, hv⟩ := hx
      simp only [List.cons.injEq, and_true] at hv
      subst hv
      have hrun : (Instr.loadAt T (.pointer (some ⟨gb, bof hv0 + (o + i' * e') + cc, none⟩))).run P w = (loadVar T ⟨gb, bof hv0 + (o + i' * e') + cc, none⟩).run P w := rfl
      have h' := Look.run_look h
      clear h
      obtain ⟨ab, hab, h⟩ := h'
      split at h
      · rename_i T' e2 c
        obtain ⟨v0, n, cs, h2, h3, h4⟩ := row_cells hb.mem hab
        rw [h1] at h2; cases h2
        split at h
        · rename_i hee
          have hee := beq_nat hee
          subst hee
          split at h
          · rename_i nn l ha
            split at h
            · rename_i a hfa
              split at h
              · rename_i hfit
                have he := Look.run_pure1 h
                subst he
                have hc' : i' < c.len real := hc
                unfold AC.getE at ha
                split at ha
                · rename_i hE
                  obtain ⟨he1, he2⟩ := isE_spec hE
                  obtain ⟨d, r1, r2, r3⟩ := RC_get ha he1 h4 hc'
                  have hlen := RC_len he1 h4
                  obtain ⟨g', o', cap, cur, fz, pre, rest, rfl, g1, g2, g3, g4, g5, g6, g7, g8⟩ := row_open h3 (i := 0) (by rw [hlen]; exact Nat.mul_pos (by omega) he2)
                  rw [blk_slice g4] at hblk
                  simp only [Option.some.injEq] at hblk
                  subst hblk
                  simp only [CR, RC] at r2
                  obtain ⟨p1, p2, p3, rfl, p4, p5⟩ := fieldAt_sound jf cc l a d hfa r2.2
                  obtain ⟨v, q1, q2⟩ := load_fit (P := P) (ad := ⟨g', o' + (0 + i' * e') + cc, none⟩) hfit hagg hi (by omega) p5 (fun j x hx => by
                    have hx2 : (p1 ++ p2 ++ p3)[cc + j]? = some x := by
                      rw [List.append_assoc, List.getElem?_append_right (by omega), show cc + j - p1.length = j by omega, List.getElem?_append_left (List.getElem?_eq_some_iff.1 hx).1]
                      exact hx
                    have := cells_at g1 g7 g8 _ x (r3 _ x hx2)
                    rw [add_at] at this ⊢
                    rw [show o' + (0 + i' * e') + cc + j = o' + (i' * e' + (cc + j)) by omega]; exact this)
                  exact ⟨v, by rw [hrun]; exact q1, hb.same q2⟩
                · cases ha
              · exact (Look.run_no h).elim
            · exact (Look.run_no h).elim
          · exact (Look.run_no h).elim
        · exact (Look.run_no h).elim
      · exact (Look.run_no h).elim
    · exact (Look.run_no h).elim
  · exact (Look.run_no h).elim
end Go.Vc
