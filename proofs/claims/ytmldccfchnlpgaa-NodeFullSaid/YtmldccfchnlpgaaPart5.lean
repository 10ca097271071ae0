/- A part of the proof of given statements: a verified condition generator for the model, and contracts of the program's functions. No condition. -/
import Derived.Test.YtmldccfchnlpgaaPart4
set_option linter.unusedVariables false
set_option linter.unusedSimpArgs false
set_option linter.constructorNameAsVariable false
set_option linter.unusedVariables false
set_option linter.unusedSimpArgs false
namespace Go.Vc
open Go Go.RowKit

/-! ## Contracts that tell new blocks, too: results and memory under the contract's names: 0 .. what was handed, behind these what is new -/
structure GRes where
  c : Prop
  rs : List AV
  ch : List AB
  news : List AB
abbrev GLaw := List AV → List AB → Option GRes
def tgH : Nat → List AB → List (Nat × Nat × AB)
  | _, [] => []
  | i, a :: l => match a with
    | .dead => tgH (Nat.succ i) l
    | a => (0, i, a) :: tgH (Nat.succ i) l
def labs : List AB → List AB → List AB
  | [], b => b
  | a :: l, b => a :: labs l b
def GLeR (s : AS) (l rs : List AV) (t : List (Nat × Nat × AB)) (r : Ren) : Prop :=
  match renOk (keepR t r), lt64 r with
  | true, true => alLe r l rs ∧ meLe r r s.me t
  | _, _ => False
def GLe (pin : List Nat) (s : AS) (l rs : List AV) (t : List (Nat × Nat × AB)) : Prop := GLeR s l rs t (bindM s.me t (bindL l rs (pinI pin)))
def retGOk (F : Fs) (tt : TT) (fr : List ResultVar) (rs : List AV) (ch news : List AB) : VX → AS → Prop :=
  endK F tt fr fun l s => GLe (upto 0 ch) s l rs (tgH 0 (labs ch news))
def rnABds (f : Nat → Option Nat) : List AB → Option (List AB)
  | [] => some []
  | a :: l => match rnABd f a, rnABds f l with
    | some b, some l' => some (b :: l')
    | _, _ => none
def zipKs : List Nat → List AB → Mem
  | k :: ks, a :: l => (k, a) :: zipKs ks l
  | _, _ => []
def isLenB : Nat → List AB → Bool
  | 0, [] => true
  | n + 1, _ :: r => isLenB n r
  | _, _ => false
def gname (n q kb : Nat) (ks : List Nat) (k : Nat) : Option Nat :=
  match Nat.blt k n with
  | true => nth ks k
  | false => match Nat.blt k (n + q) with
    | true => some (kb + (k - n))
    | false => none
def gSpec (n q : Nat) (g : GLaw) : Spec := fun args kb =>
  gather 40 (keysL args []) 0 [] fun ks abs =>
    match rnAL (fun k => idxOf k 0 ks) args, rnABs (fun k => idxOf k 0 ks) abs with
    | some l, some mm => match g l mm with
      | some ⟨c, rs, ch, news⟩ => match rnAL (gname n q kb ks) rs, rnABds (gname n q kb ks) ch, rnABs (gname n q kb ks) news with
        | some rs', some ch', some news' => match isLen n ks, isLenB n ch', isLenB q news', Nat.ble q 8 with
          | true, true, true, true => .ret ⟨c, tupAV rs', mapp (zipMe kb news') (zipKs ks ch')⟩
          | _, _, _, _ => .no
        | _, _, _ => .no
      | none => .no
    | _, _ => .no

theorem labs_eq : ∀ a b : List AB, labs a b = a ++ b
  | [], b => rfl
  | x :: l, b => by simp [labs, labs_eq l b]
theorem isLenB_spec : ∀ {n : Nat} {l : List AB}, isLenB n l = true → l.length = n
  | 0, [], _ => rfl
  | 0, _ :: _, h => by simp [isLenB] at h
  | n + 1, [], h => by simp [isLenB] at h
  | n + 1, _ :: r, h => by simp [isLenB_spec (n := n) (l := r) (by simpa [isLenB] using h)]
theorem rnABds_get {f : Nat → Option Nat} : ∀ {a b : List AB}, rnABds f a = some b → a.length = b.length ∧ ∀ (j : Nat) y, b[j]? = some y → ∃ x, a[j]? = some x ∧ rnABd f x = some y
  | [], b, h => by simp only [rnABds, Option.some.injEq] at h; subst h; simp
  | x :: a, b, h => by
    simp only [rnABds] at h
    split at h
    · rename_i y b' h1 h2
      cases h
      obtain ⟨h3, h4⟩ := rnABds_get h2
      refine ⟨by simp [h3], fun j z hz => ?_⟩
      cases j with
      | zero => simp only [List.getElem?_cons_zero, Option.some.injEq] at hz; subst hz; exact ⟨x, rfl, h1⟩
      | succ j => exact h4 j z (by simpa using hz)
    · cases h
theorem tgH_look : ∀ (l : List AB) (i t : Nat) (ab : AB), i ≤ t → l[t - i]? = some ab → ab.live = true → mlook (tgMem (tgH i l)) t = some ab
  | [], i, t, ab, _, h, _ => by simp at h
  | a :: l, i, t, ab, hi, h, hl => by
    by_cases e : i = t
    · subst e
      simp only [Nat.sub_self, List.getElem?_cons_zero, Option.some.injEq] at h
      subst h
      cases a with
      | dead => simp [AB.live] at hl
      | _ => simp only [tgH, tgMem]; rw [mlook_cons, if_pos rfl]
    · have ih := tgH_look l (i + 1) t ab (by omega) (by rw [show t - i = (t - (i + 1)) + 1 by omega] at h; simpa using h) hl
      cases a with
      | dead => simpa only [tgH] using ih
      | _ => simp only [tgH, tgMem]; rw [mlook_cons, if_neg e]; exact ih
theorem zipKs_look : ∀ (ks : List Nat) (l : List AB) (i k : Nat), l.length = ks.length → mlook (zipKs ks l) k = match idxOf k i ks with
    | some j => l[j - i]?
    | none => none
  | [], l, i, k, h => by cases l <;> simp [zipKs, mlook, idxOf]
  | t :: ks, [], i, k, h => by simp at h
  | t :: ks, a :: l, i, k, h => by
    simp only [zipKs]
    rw [mlook_cons]
    by_cases e : t = k
    · subst e; simp [idxOf]
    · rw [if_neg e, zipKs_look ks l (i + 1) k (by simpa using h)]
      have : idxOf k i (t :: ks) = idxOf k (i + 1) ks := by
        simp only [idxOf]
        split
        · rename_i h; exact absurd (beq_nat h).symm e
        · rfl
      rw [this]
      cases hq : idxOf k (i + 1) ks with
      | none => rfl
      | some j =>
        have := (idxOf_get ks (i + 1) k j hq).1
        simp only
        rw [show j - i = (j - (i + 1)) + 1 by omega]; simp
/-- the caller's names for the contract's: of what is new -/
def renN : Nat → Nat → Nat → Ren
  | _, _, 0 => []
  | kb, n, q + 1 => (kb, some n) :: renN (kb + 1) (n + 1) q
theorem renN_look (R : Ren) : ∀ (q kb n k : Nat), rlook (renN kb n q ++ R) k = if kb ≤ k ∧ k < kb + q then some (some (n + (k - kb))) else rlook R k
  | 0, kb, n, k => by simp [renN]; omega
  | q + 1, kb, n, k => by
    simp only [renN, List.cons_append]
    rw [rlook_cons, renN_look R q (kb + 1) (n + 1) k]
    by_cases e : kb = k
    · subst e; simp
    · rw [if_neg e]
      by_cases h : kb + 1 ≤ k ∧ k < kb + 1 + q
      · rw [if_pos h, if_pos (by omega)]; congr 2; omega
      · rw [if_neg h, if_neg (by omega)]
section
variable {P : Program} {m : Hd} {w : World} {me : Mem} {kb : Nat}
theorem g_sound {x : Cx} (hx : XOK P x) (hmx : P.follows .mixedOrders = true) {f : Nat} {fn : Func} {body : Code} (hf : P.funcs[f]? = some fn) (hbd : fn.body = some body) (hnt : fn.ntmps = x.nt) (hdr : drawsOk x.tt x.dr body = true)
    {n q : Nat} (hn64 : n ≤ 64) (hpin : ∀ j, j < n → j ∈ x.pin) {g : GLaw}
    (h : ∀ l mm c rs ch news, g l mm = some ⟨c, rs, ch, news⟩ → mm.length = n → c → llen l ≤ x.nt ∧ ∃ an cu, vc real x an cu body ⟨zipSl 0 l, zipMe 0 mm, 64⟩ (retGOk real x.tt fn.results.toList rs ch news)) : SpecOK P f (gSpec n q g) := by
  intro m w me kb args vals e hb hv he hc
  unfold gSpec at he
  obtain ⟨ks, abs, hnd, hal, habs, he⟩ := gather_sound 40 (keysL args []) 0 [] (keysL_nodup args [] List.nodup_nil).1 rfl (fun j ab hj => by simp at hj) (Nat.zero_le _) he
  split at he
  · rename_i l mm hl hmm
    split at he
    · rename_i c rs ch news hg
      split at he
      · rename_i rs' ch' news' hrs hch hnw
        split at he
        · rename_i hil hic hin hle
          simp only [Look.run, Option.some.injEq] at he
          subst he
          have hkn := isLen_spec hil
          have hcn := isLenB_spec hic
          have hnn := isLenB_spec hin
          have hq8 : q ≤ 8 := Nat.le_of_ble_eq_true hle
          obtain ⟨hmmlen, hget⟩ := rnABs_get hmm
          have hml : mm.length = ks.length := by omega
          obtain ⟨hlen, an, cu, hvc⟩ := h l mm c rs ch news hg (by omega) hc
          rw [llen_eq] at hlen
          obtain ⟨hcl2, hcget⟩ := rnABds_get hch
          obtain ⟨hnl2, hnget⟩ := rnABs_get hnw
          -- the callee's names
          let okS : Nat → Prop := fun b => Stable m w b ∨ w.heap.size ≤ b ∨ ∃ k v, k ∈ ks ∧ m k = some v ∧ blk v = some b
          let mS : Hd := ⟨m.mu, okS, m.pub⟩
          have hpS : Pres m w mS w := ⟨fun _ _ h => h, fun b hb => ⟨rfl, hb.1, .inl hb, hb.2.2⟩⟩
          let m1 : Hd := hren mS (ren1 0 ks)
          have hm1 : ∀ j, m1 j = (match ks[j]? with
            | some k => m k
            | none => none) := by
            intro j
            show (hren mS (ren1 0 ks)) j = _
            rw [hren_apply, ren1_look]
            simp only [Nat.zero_le, if_true, Nat.sub_zero]
            cases hq : ks[j]? with
            | none => rfl
            | some k => rfl
          have hv1 : RVs m1 w l vals := RVs_le args l vals (rnl_le (same1 ks) args l hl) (RVs_mono hpS args vals hv)
          have hent : ∀ (j : Nat) ab, mm[j]? = some ab → ∃ k ab0 v, ks[j]? = some k ∧ mlook me k = some ab0 ∧ rnAB (fun k => idxOf k 0 ks) ab0 = some ab ∧ ab0.live = true ∧ m k = some v := by
            intro j ab hj
            obtain ⟨ab0, h1, h2⟩ := hget j ab hj
            obtain ⟨k, h3, h4⟩ := habs j ab0 h1
            obtain ⟨_, h5, _⟩ := rnb_le (same1 ks) ab0 ab h2
            obtain ⟨v, h6⟩ := ABR_live (hb.mem.at_ k ab0 h4) h5
            exact ⟨k, ab0, v, h3, h4, h2, h5, h6⟩
          have hme : MemR m1 w (zipMe 0 mm) := by
            refine ⟨fun j ab hj => ?_, fun j j' ab ab' v v' b hj hj' _ _ hne hv hv' hbk => ?_, fun b hp => hb.mem.pubs b hp, fun j ab v b hj _ hv hbk => ?_, fun j ab v b hj _ hv hbk => ?_, fun b h => .inr (.inl h)⟩
            · rw [zipMe_look] at hj
              simp only [Nat.zero_le, if_true, Nat.sub_zero] at hj
              obtain ⟨k, ab0, v, h1, h2, h3, h4, h5⟩ := hent j ab hj
              refine ABR_le (r := ren1 0 ks) (k := j) (o := k) (by rw [ren1_look]; simp [h1]) (rnb_le (same1 ks) ab0 ab h3).1 ?_
              exact ABR_keep (hb.mem.at_ k ab0 h2) (fun _ h => h) (fun _ _ _ _ => rfl) hpS
            · rw [zipMe_look] at hj hj'
              simp only [Nat.zero_le, if_true, Nat.sub_zero] at hj hj'
              obtain ⟨k, ab0, v0, h1, h2, h3, h4, h5⟩ := hent j ab hj
              obtain ⟨k', ab0', v0', h1', h2', h3', h4', h5'⟩ := hent j' ab' hj'
              rw [hm1, h1] at hv
              rw [hm1, h1'] at hv'
              refine hb.mem.apart k k' ab0 ab0' v v' b h2 h2' h4 h4' (fun e => ?_) hv hv' hbk
              subst e
              have e1 := idxOf_of ks 0 k j hnd h1
              have e2 := idxOf_of ks 0 k j' hnd h1'
              rw [e1] at e2
              simp at e2
              exact hne e2
            · rw [zipMe_look] at hj
              simp only [Nat.zero_le, if_true, Nat.sub_zero] at hj
              obtain ⟨k, ab0, v0, h1, h2, h3, h4, h5⟩ := hent j ab hj
              rw [hm1, h1] at hv
              exact hb.mem.live k ab0 v b h2 h4 hv hbk
            · rw [zipMe_look] at hj
              simp only [Nat.zero_le, if_true, Nat.sub_zero] at hj
              obtain ⟨k, ab0, v0, h1, h2, h3, h4, h5⟩ := hent j ab hj
              rw [hm1, h1] at hv
              exact .inr (.inr ⟨k, v, List.mem_of_getElem? h1, hv, hbk⟩)
          have hbd1 : Bd m1 w := by
            intro j v b hj hbk
            rw [hm1] at hj
            split at hj
            · exact hb.bd _ v b hj hbk
            · cases hj
          let E : Env := ⟨w, (List.range n).filterMap (fun j => (m1 j).bind blk), okS, none, (List.range n).filterMap fun j => (m1 j).map fun v => (j, v), m.pub⟩
          have hlk : ∀ j, n ≤ j → m1 j = none := by
            intro j hj
            rw [hm1, List.getElem?_eq_none (by omega)]
          have hvl := RVs_length hv1
          have hr : StR E x.nt ⟨zipSl 0 l, zipMe 0 mm, 64⟩ m1 { tmps := vals.toArray ++ Array.replicate (fn.ntmps - vals.toArray.size) undef, defers := [] } w := by
            refine ⟨entry_sl hv1 _, hme, hbd1, fun k hk => hlk k (by have : 64 ≤ k := hk; omega), by simp; omega, rfl, ⟨rfl, rfl, rfl, Nat.le_refl _, rfl, fun _ _ _ => rfl, fun j v b hj hbk => .inr ?_, fun m0 w1 he => (by cases he), fun j v hj => ?_, fun b h _ _ => h, fun b h => h⟩⟩
            · show b ∈ (List.range n).filterMap _
              rw [List.mem_filterMap]
              refine ⟨j, ?_, by rw [hj]; exact hbk⟩
              rw [List.mem_range]
              by_cases h : j < n
              · exact h
              · rw [hlk j (by omega)] at hj; cases hj
            · have hj' : (j, v) ∈ (List.range n).filterMap fun j => (m1 j).map fun v => (j, v) := hj
              rw [List.mem_filterMap] at hj'
              obtain ⟨i, hi0, hi⟩ := hj'
              cases hq : m1 i with
              | none => rw [hq] at hi; cases hi
              | some u => rw [hq] at hi; cases hi; exact hq
          have hpE : ∀ j v, (j, v) ∈ E.pin → j ∈ x.pin := by
            intro j v hj
            have hj' : (j, v) ∈ (List.range n).filterMap fun j => (m1 j).map fun v => (j, v) := hj
            rw [List.mem_filterMap] at hj'
            obtain ⟨i, hi, hi2⟩ := hj'
            rw [List.mem_range] at hi
            cases hq : m1 i with
            | none => rw [hq] at hi2; cases hi2
            | some u => rw [hq] at hi2; cases hi2; exact hpin _ hi
          refine calls_of_wp hf hbd (code_mono (vc_sound hx hpE (.inl rfl) hmx body _ _ hdr hvc _ _ w hr) ?_)
          intro en a w' hp
          refine ends_sound hx.tt (fun avs vs s' m2 w2 k1 k2 k3 => ?_) hp
          clear hp
          have hpinned : ∀ (j : Nat) v, j < n → m1 j = some v → m2 j = some v := by
            intro j v hj h1
            refine k3.fr.pin j v ?_
            show (j, v) ∈ (List.range n).filterMap _
            rw [List.mem_filterMap]
            exact ⟨j, by rw [List.mem_range]; exact hj, by rw [h1]; rfl⟩
          have hks : ∀ k j, ks[j]? = some k → ∃ ab0 v, mlook me k = some ab0 ∧ ab0.live = true ∧ m k = some v ∧ m1 j = some v ∧ m2 j = some v ∧ j < n := by
            intro k j hj
            have hjn := (List.getElem?_eq_some_iff.1 hj).1
            obtain ⟨ab, hab⟩ : ∃ ab, mm[j]? = some ab := ⟨_, List.getElem?_eq_getElem (by omega)⟩
            obtain ⟨k', ab0, v, h1, h2, _, h4, h5⟩ := hent j ab hab
            rw [hj] at h1; cases h1
            have h6 : m1 j = some v := by rw [hm1, hj]; exact h5
            exact ⟨ab0, v, h2, h4, h5, h6, hpinned j v (by omega) h6, by omega⟩
          unfold GLe at k2
          generalize hrr : bindM s'.me (tgH 0 (labs ch news)) (bindL avs rs (pinI (upto 0 ch))) = r at k2
          unfold GLeR at k2
          split at k2
          rotate_left
          · exact k2.elim
          rename_i hok hlt
          obtain ⟨k2a, k2m⟩ := k2
          have hpinr : ∀ j, j < n → rlook r j = some (some j) := fun j hj => by
            rw [← hrr]; exact bindM_keep _ _ (bindL_keep _ _ _ (pinI_look _ j (by rw [upto_mem]; omega)))
          have hT := MemR_le k3.mem hok k2m
          have hTlook : ∀ (j : Nat) ab, (ch ++ news)[j]? = some ab → ab.live = true → mlook (tgMem (tgH 0 (labs ch news))) j = some ab := fun j ab h1 h2 => by
            rw [labs_eq]; exact tgH_look _ 0 j ab (Nat.zero_le _) (by simpa using h1) h2
          generalize tgH 0 (labs ch news) = T at *
          have hTabr : ∀ (j : Nat) ab, mlook (tgMem T) j = some ab → ABR (hrens m2 r) w2 j ab := by
            intro j ab hj
            rcases me_entry k2m hj with ⟨o, ab0, h1, h2, h3⟩ | ⟨h1, T', e', c', rfl, h2⟩
            · exact ABR_leG .hrens h1 h3 (k3.mem.at_ o ab0 h2)
            · exact ⟨.slice none 0 0, 0, [], (by show (hren m2 r) j = _; rw [hren_apply, h1]), ⟨by simp, .inl ⟨none, rfl, rfl⟩⟩, acNil_RC h2⟩
          have hsz : w.heap.size ≤ w2.heap.size := k3.fr.size
          have hWn : ∀ b, b ∈ E.W → ∃ k v ab0, k ∈ ks ∧ m k = some v ∧ blk v = some b ∧ mlook me k = some ab0 ∧ ab0.live = true := by
            intro b hbW
            have hbW' : b ∈ (List.range n).filterMap (fun j => (m1 j).bind blk) := hbW
            rw [List.mem_filterMap] at hbW'
            obtain ⟨j, hj, hj2⟩ := hbW'
            rw [List.mem_range] at hj
            obtain ⟨k, hk⟩ : ∃ k, ks[j]? = some k := ⟨_, List.getElem?_eq_getElem (by omega)⟩
            obtain ⟨ab0, v, h1, h2, h4, h5, _⟩ := hks k j hk
            rw [h5] at hj2
            exact ⟨k, v, ab0, List.mem_of_getElem? hk, h4, hj2, h1, h2⟩
          have hblk : ∀ b, b < w.heap.size → b ∉ E.W → w2.heap[b]? = w.heap[b]? := fun b h1 h2 => k3.fr.block b h1 h2
          have hown : ∀ j v b, (hren m2 r) j = some v → blk v = some b → (w.heap.size ≤ b ∨ b ∈ E.W) ∧ b < w2.heap.size ∧ ∃ o, m2 o = some v := by
            intro j v b hj hbk
            rcases hren_from hj with ⟨o, ho⟩ | rfl
            · exact ⟨k3.fr.own o v b ho hbk, k3.bd o v b ho hbk, o, ho⟩
            · simp [blk] at hbk
          have hnot : ∀ k v b ab, m k = some v → blk v = some b → mlook me k = some ab → ab.live = true → k ∉ ks → b ∉ E.W := by
            intro k v b ab h1 h2 h3 h4 h5 h6
            obtain ⟨k', v', ab', g1, g2, g3, g4, g5⟩ := hWn b h6
            exact hb.mem.apart k k' ab ab' v v' b h3 g4 h4 g5 (fun e => h5 (e ▸ g1)) h1 g2 h2 g3
          have hksn : ∀ k, k ∈ ks → ¬ (kb ≤ k ∧ k < kb + q) := by
            intro k hk hh
            obtain ⟨j, hj⟩ := List.getElem?_of_mem hk
            obtain ⟨_, v, _, _, h4, _⟩ := hks k j hj
            rw [hb.fresh k hh.1 (by omega)] at h4; cases h4
          let r3 : Ren := renN kb n q ++ ren2 0 ks
          have hr3 : ∀ k, rlook r3 k = if kb ≤ k ∧ k < kb + q then some (some (n + (k - kb))) else (idxOf k 0 ks).map some := fun k => by
            show rlook (renN kb n q ++ ren2 0 ks) k = _
            rw [renN_look, ren2_look]
          have hsame : sameAll r3 (gname n q kb ks) := by
            intro k j hkj
            unfold gname at hkj
            split at hkj
            · rename_i hlt
              have hkn' : k < n := Nat.le_of_ble_eq_true hlt
              rw [nth_get] at hkj
              rw [hr3, if_neg (hksn j (List.mem_of_getElem? hkj)), idxOf_of ks 0 j k hnd hkj]
              simp
            · rename_i hlt
              have hkn' : ¬ k < n := fun hh => by rw [show Nat.blt k n = true from Nat.ble_eq_true_of_le hh] at hlt; cases hlt
              split at hkj
              · rename_i hlt2
                have hkn2 : k < n + q := Nat.le_of_ble_eq_true hlt2
                cases hkj
                rw [hr3, if_pos (by omega)]
                congr 2; omega
              · cases hkj
          let mc : Hd := hrens (hrens m2 r) r3
          let m' : Hd := ⟨fun k => if kb ≤ k ∧ k < kb + q then (hren m2 r) (n + (k - kb)) else m k, m.ok, m2.pub⟩
          have hm'n : ∀ k, kb ≤ k ∧ k < kb + q → m' k = (hren m2 r) (n + (k - kb)) := fun k hk => if_pos hk
          have hm'o : ∀ k, ¬ (kb ≤ k ∧ k < kb + q) → m' k = m k := fun k hk => if_neg hk
          have hT1 : ∀ k j, ks[j]? = some k → ∃ v, m k = some v ∧ (hren m2 r) j = some v := by
            intro k j hj
            obtain ⟨ab0, v, h1, h2, h4, h5, h6, h7⟩ := hks k j hj
            exact ⟨v, h4, by rw [hren_apply, hpinr j h7]; exact h6⟩
          have hmc : ∀ k v, mc k = some v → m' k = some v := by
            intro k v hk
            have hk : (hren (hren m2 r) r3) k = some v := hk
            rw [hren_apply, hr3] at hk
            by_cases hn : kb ≤ k ∧ k < kb + q
            · rw [if_pos hn] at hk
              rw [hm'n k hn]; exact hk
            · rw [if_neg hn] at hk
              rw [hm'o k hn]
              cases hq : idxOf k 0 ks with
              | none => rw [hq] at hk; simp at hk
              | some j =>
                rw [hq] at hk
                simp only [Option.map_some] at hk
                have h1 := (idxOf_get ks 0 k j hq).2
                simp only [Nat.sub_zero] at h1
                obtain ⟨v0, h2, h3⟩ := hT1 k j h1
                rw [h3] at hk; cases hk
                exact h2
          -- names that the contract speaks of
          have hdom : ∀ k, (kb ≤ k ∧ k < kb + q) ∨ k ∈ ks → ∃ j, rlook r3 k = some (some j) ∧ m' k = (hren m2 r) j ∧ ((kb ≤ k ∧ k < kb + q ∧ j = n + (k - kb)) ∨ (ks[j]? = some k ∧ j < n)) := by
            intro k hk
            by_cases hn : kb ≤ k ∧ k < kb + q
            · exact ⟨n + (k - kb), by rw [hr3, if_pos hn], hm'n k hn, .inl ⟨hn.1, hn.2, rfl⟩⟩
            · rcases hk with hk | hk
              · exact absurd hk hn
              · obtain ⟨j, hj⟩ := List.getElem?_of_mem hk
                obtain ⟨v, h1, h2⟩ := hT1 k j hj
                have hjn := (List.getElem?_eq_some_iff.1 hj).1
                exact ⟨j, by rw [hr3, if_neg hn, idxOf_of ks 0 k j hnd hj]; simp, by rw [hm'o k hn, h1, h2], .inr ⟨hj, by omega⟩⟩
          have hlook : ∀ k, mlook (mputs (mapp (zipMe kb news') (zipKs ks ch')) me) k = if kb ≤ k ∧ k < kb + q then news'[k - kb]? else match idxOf k 0 ks with
              | some j => ch'[j]?
              | none => mlook me k := by
            intro k
            rw [mputs_mapp, mlook_mputs, zipMe_look, mlook_mputs, zipKs_look ks ch' 0 k (by omega)]
            by_cases hn : kb ≤ k ∧ k < kb + q
            · rw [if_pos hn.1, if_pos hn]
              rw [List.getElem?_eq_getElem (by omega)]
            · rw [if_neg hn]
              have : (if kb ≤ k then news'[k - kb]? else none) = none := by
                split
                · exact List.getElem?_eq_none (by omega)
                · rfl
              rw [this]
              cases hq : idxOf k 0 ks with
              | none => rfl
              | some j =>
                simp only [Nat.sub_zero]
                have h1 := (idxOf_get ks 0 k j hq).2
                simp only [Nat.sub_zero] at h1
                have h2 := (List.getElem?_eq_some_iff.1 h1).1
                rw [List.getElem?_eq_getElem (by omega)]
          have hfin : ∀ k ab, (kb ≤ k ∧ k < kb + q) ∨ k ∈ ks → mlook (mputs (mapp (zipMe kb news') (zipKs ks ch')) me) k = some ab → ab.live = true →
              ∃ j ab0, rlook r3 k = some (some j) ∧ m' k = (hren m2 r) j ∧ mlook (tgMem T) j = some ab0 ∧ ab0.live = true ∧ abLe r3 ab0 ab ∧ ((kb ≤ k ∧ k < kb + q ∧ j = n + (k - kb)) ∨ (ks[j]? = some k ∧ j < n)) := by
            intro k ab hk hab hlv
            obtain ⟨j, h1, h2, h3⟩ := hdom k hk
            rw [hlook] at hab
            rcases h3 with ⟨h3, h4, h5⟩ | ⟨h3, h4⟩
            · rw [if_pos ⟨h3, h4⟩] at hab
              obtain ⟨x', hx1, hx2⟩ := hnget _ ab hab
              obtain ⟨g1, g2, g3⟩ := rnb_le hsame x' ab hx2
              refine ⟨j, x', h1, h2, hTlook j x' ?_ g2, g2, g1, .inl ⟨h3, h4, h5⟩⟩
              rw [List.getElem?_append_right (by omega), h5, show n + (k - kb) - ch.length = k - kb by omega]
              exact hx1
            · have hkk := List.mem_of_getElem? h3
              rw [if_neg (hksn k hkk), idxOf_of ks 0 k j hnd h3, Nat.zero_add] at hab
              simp only at hab
              obtain ⟨x', hx1, hx2⟩ := hcget j ab hab
              have hxd : x' ≠ .dead := by
                rintro rfl
                simp only [rnABd, Option.some.injEq] at hx2
                subst hx2; cases hlv
              have hx3 : rnAB (gname n q kb ks) x' = some ab := by cases x' <;> first | exact absurd rfl hxd | exact hx2
              obtain ⟨g1, g2, g3⟩ := rnb_le hsame x' ab hx3
              refine ⟨j, x', h1, h2, hTlook j x' ?_ g2, g2, g1, .inr ⟨h3, h4⟩⟩
              rw [List.getElem?_append_left (List.getElem?_eq_some_iff.1 hx1).1]
              exact hx1
          have holdl : ∀ k ab, ¬ ((kb ≤ k ∧ k < kb + q) ∨ k ∈ ks) → mlook (mputs (mapp (zipMe kb news') (zipKs ks ch')) me) k = some ab → mlook me k = some ab ∧ m' k = m k := by
            intro k ab hk hab
            have hk1 : ¬ (kb ≤ k ∧ k < kb + q) := fun h => hk (.inl h)
            rw [hlook, if_neg hk1] at hab
            cases hq : idxOf k 0 ks with
            | none => rw [hq] at hab; exact ⟨hab, hm'o k hk1⟩
            | some j => exact absurd (.inr (List.mem_of_getElem? (idxOf_get ks 0 k j hq).2)) hk
          have hpub : ∀ b, m2.pub b → m.pub b ∨ b ∈ E.W ∨ w.heap.size ≤ b := by
            intro b hp
            by_cases h1 : b < w.heap.size
            · by_cases h2 : b ∈ E.W
              · exact .inr (.inl h2)
              · exact .inl (k3.fr.pub b hp h1 h2)
            · exact .inr (.inr (by omega))
          have tr : Tr m w m' w2 := by
            refine ⟨fun k v hk => ?_, rfl, fun b hp => k3.fr.pubm b hp, fun b hp => ?_, hsz, fun b hb' hno => hblk b hb' (fun hm => ?_), fun k v b hk hv => ?_, k3.fr.os, k3.fr.tape, k3.fr.output⟩
            · rw [hm'o k (fun hh => by rw [hb.fresh k hh.1 (by omega)] at hk; cases hk)]; exact hk
            · rcases hpub b hp with h | h | h
              · exact .inl h
              · obtain ⟨k, v, _, _, h2, h3, _⟩ := hWn b h
                exact .inr (.inl ⟨k, v, h2, h3⟩)
              · exact .inr (.inr h)
            · obtain ⟨k, v, ab0, _, h2, h3, h4, h5⟩ := hWn b hm
              exact hno.elim (hb.mem.live k ab0 v b h4 h5 h2 h3) (fun hno => hno k v h2 h3)
            · by_cases hn : kb ≤ k ∧ k < kb + q
              · rw [hm'n k hn] at hk
                rcases (hown _ v b hk hv).1 with h | h
                · exact .inr h
                · obtain ⟨k', v', _, _, h2, h3, _⟩ := hWn b h
                  exact .inl ⟨k', v', h2, h3⟩
              · rw [hm'o k hn] at hk
                exact .inl ⟨k, v, hk, hv⟩
          have hpc : Pres mc w2 m' w2 := by
            refine ⟨hmc, fun b hs => ⟨rfl, ?_⟩⟩
            have hok2 : m2.ok b ∧ (m2.pub b ∨ ∀ k v, m2 k = some v → blk v ≠ some b) := hs.2.1.1
            have hok3 : okS b := by
              have := hok2.1
              rw [k3.fr.ok] at this
              exact this
            have hokm : m.ok b := by
              rcases hok3 with h | h | ⟨k, v, hk, h1, h2⟩
              · exact h.2.1
              · exact hb.mem.okn b h
              · obtain ⟨j, hj⟩ := List.getElem?_of_mem hk
                obtain ⟨ab0, v', q1, q2, q3, _⟩ := hks k j hj
                rw [q3] at h1; cases h1
                exact hb.mem.okl k ab0 _ b q1 q2 q3 h2
            refine ⟨hs.1, hokm, ?_⟩
            rcases hok2.2 with hp | hno
            · exact .inl hp
            · rcases hok3 with h | h | ⟨k, v, hk, h1, h2⟩
              · rcases h.2.2 with h4 | h4
                · exact .inl (k3.fr.pubm b h4)
                · refine .inr fun k v hk hv => ?_
                  by_cases hn : kb ≤ k ∧ k < kb + q
                  · rw [hm'n k hn] at hk
                    obtain ⟨_, _, o, ho⟩ := hown _ v b hk hv
                    exact hno o v ho hv
                  · rw [hm'o k hn] at hk
                    exact h4 k v hk hv
              · refine .inr fun k v hk hv => ?_
                by_cases hn : kb ≤ k ∧ k < kb + q
                · rw [hm'n k hn] at hk
                  obtain ⟨_, _, o, ho⟩ := hown _ v b hk hv
                  exact hno o v ho hv
                · rw [hm'o k hn] at hk
                  have := hb.bd k v b hk hv; omega
              · obtain ⟨j, hj⟩ := List.getElem?_of_mem hk
                obtain ⟨ab0, v', q1, q2, q3, q4, q5, _⟩ := hks k j hj
                rw [q3] at h1; cases h1
                exact absurd h2 (hno j _ q5)
          refine ⟨_, rfl, m', tr, tupAV_sound (RVs_mono hpc rs' vs (RVs_leG .hrens rs rs' vs (rnl_le hsame rs rs' hrs) (RVs_leG .hrens avs rs vs k2a k1))), ?_, fun k hk => ?_, fun k v b hk hv => ?_⟩
          · refine ⟨fun t ab hab => ?_, fun t t' ab ab' v v' b hab hab' hl hl' hne hv hv' hbk => ?_, k3.mem.pubs, fun t ab v b hab hl hv hbk hp => ?_, fun t ab v b hab hl hv hbk => ?_, fun b h => hb.mem.okn b (Nat.le_trans hsz h)⟩
            · by_cases hd : (kb ≤ t ∧ t < kb + q) ∨ t ∈ ks
              · cases hlv : ab.live with
                | false => cases ab with
                  | dead => trivial
                  | _ => simp [AB.live] at hlv
                | true =>
                  obtain ⟨j, ab0, h1, h2, h3, h4, h5, _⟩ := hfin t ab hd hab hlv
                  exact ABR_keep (ABR_leG .hrens h1 h5 (hTabr j ab0 h3)) (hmc t) (fun _ _ _ _ => rfl) hpc
              · obtain ⟨h1, h2⟩ := holdl t ab hd hab
                cases hlv : ab.live with
                | false => cases ab with
                  | dead => trivial
                  | _ => simp [AB.live] at hlv
                | true =>
                  exact ABR_keep (hb.mem.at_ t ab h1) (fun v hv => h2.trans hv) (fun v b hv hbk => hblk b (hb.bd t v b hv hbk) (hnot t v b ab hv hbk h1 hlv (fun h => hd (.inr h)))) tr.pres
            · intro hbq
              by_cases hd : (kb ≤ t ∧ t < kb + q) ∨ t ∈ ks <;> by_cases hd' : (kb ≤ t' ∧ t' < kb + q) ∨ t' ∈ ks
              · obtain ⟨j, ab0, h1, h2, h3, h4, _, h6⟩ := hfin t ab hd hab hl
                obtain ⟨j', ab0', h1', h2', h3', h4', _, h6'⟩ := hfin t' ab' hd' hab' hl'
                rw [h2] at hv; rw [h2'] at hv'
                refine hT.apart j j' ab0 ab0' v v' b h3 h3' h4 h4' (fun e => hne ?_) hv hv' hbk hbq
                subst e
                rcases h6 with ⟨a1, a2, a3⟩ | ⟨a1, a2⟩ <;> rcases h6' with ⟨b1, b2, b3⟩ | ⟨b1, b2⟩
                · omega
                · omega
                · omega
                · rw [a1] at b1; exact Option.some.inj b1
              · obtain ⟨j, ab0, h1, h2, h3, h4, _, h6⟩ := hfin t ab hd hab hl
                obtain ⟨g1, g2⟩ := holdl t' ab' hd' hab'
                rw [h2] at hv; rw [g2] at hv'
                rcases (hown j v b hv hbk).1 with h | h
                · have := hb.bd t' v' b hv' hbq; omega
                · exact hnot t' v' b ab' hv' hbq g1 hl' (fun h => hd' (.inr h)) h
              · obtain ⟨j, ab0, h1, h2, h3, h4, _, h6⟩ := hfin t' ab' hd' hab' hl'
                obtain ⟨g1, g2⟩ := holdl t ab hd hab
                rw [h2] at hv'; rw [g2] at hv
                rcases (hown j v' b hv' hbq).1 with h | h
                · have := hb.bd t v b hv hbk; omega
                · exact hnot t v b ab hv hbk g1 hl (fun h => hd (.inr h)) h
              · obtain ⟨g1, g2⟩ := holdl t ab hd hab
                obtain ⟨g1', g2'⟩ := holdl t' ab' hd' hab'
                rw [g2] at hv; rw [g2'] at hv'
                exact hb.mem.apart t t' ab ab' v v' b g1 g1' hl hl' hne hv hv' hbk hbq
            · by_cases hd : (kb ≤ t ∧ t < kb + q) ∨ t ∈ ks
              · obtain ⟨j, ab0, h1, h2, h3, h4, _, h6⟩ := hfin t ab hd hab hl
                rw [h2] at hv
                exact hT.live j ab0 v b h3 h4 hv hbk hp
              · obtain ⟨g1, g2⟩ := holdl t ab hd hab
                rw [g2] at hv
                rcases hpub b hp with h | h | h
                · exact hb.mem.live t ab v b g1 hl hv hbk h
                · exact hnot t v b ab hv hbk g1 hl (fun h => hd (.inr h)) h
                · have := hb.bd t v b hv hbk; omega
            · by_cases hd : (kb ≤ t ∧ t < kb + q) ∨ t ∈ ks
              · obtain ⟨j, ab0, h1, h2, h3, h4, _, h6⟩ := hfin t ab hd hab hl
                rw [h2] at hv
                rcases (hown j v b hv hbk).1 with h | h
                · exact hb.mem.okn b h
                · obtain ⟨k, v', ab', _, q2, q3, q4, q5⟩ := hWn b h
                  exact hb.mem.okl k ab' v' b q4 q5 q2 q3
              · obtain ⟨g1, g2⟩ := holdl t ab hd hab
                rw [g2] at hv
                exact hb.mem.okl t ab v b g1 hl hv hbk
          · by_cases hn : kb ≤ k ∧ k < kb + q
            · exact .inr ⟨hn.1, by omega⟩
            · rw [hm'o k hn] at hk
              exact .inl hk
          · by_cases hn : kb ≤ k ∧ k < kb + q
            · rw [hm'n k hn] at hk
              exact (hown _ v b hk hv).2.1
            · rw [hm'o k hn] at hk
              exact Nat.lt_of_lt_of_le (hb.bd k v b hk hv) hsz
        · exact (Look.run_no he).elim
      · exact (Look.run_no he).elim
    · exact (Look.run_no he).elim
  · exact (Look.run_no he).elim
end
/-- one contract for each form of the i-th argument -/
def bySpec (i : Nat) (n b r s : Spec) : Spec := fun args kb => match lget args i with
  | .nl => n args kb
  | .rb _ _ => b args kb
  | .rw _ => r args kb
  | .sl _ _ _ _ _ _ => s args kb
  | _ => .no
theorem by_ok {P : Program} {f i : Nat} {n b r s : Spec} (hn : SpecOK P f n) (hb : SpecOK P f b) (hr : SpecOK P f r) (hs : SpecOK P f s) : SpecOK P f (bySpec i n b r s) := by
  intro m w me kb args vals e h1 h2 h3 h4
  unfold bySpec at h3
  split at h3
  · exact hn m w me kb args vals e h1 h2 h3 h4
  · exact hb m w me kb args vals e h1 h2 h3 h4
  · exact hr m w me kb args vals e h1 h2 h3 h4
  · exact hs m w me kb args vals e h1 h2 h3 h4
  · exact (Look.run_no h3).elim
end Go.Vc
set_option linter.unusedVariables false
set_option linter.unusedSimpArgs false
namespace Go.Vc
open Go Go.RowKit

/-! ## A contract that asks for content that stays, met by a row of the caller's own -/
mutual
/-- no reference to what merely stays -/
def AV.ns : AV → Bool
  | .rb _ _ => false
  | .pr _ => false
  | .tup _ => false
  | .ag _ c => AC.ns c
  | .fv _ l => AL.ns l
  | _ => true
def AC.ns : AC → Bool
  | .vs l => AL.ns l
  | .fn _ _ _ => false
  | .ds s _ => s.plain
  | _ => true
def AL.ns : List AV → Bool
  | [] => true
  | a :: l => match AV.ns a with
    | true => AL.ns l
    | false => false
end
def segsNs : List Seg → Bool
  | [] => true
  | (_, c) :: l => match AC.ns c with
    | true => segsNs l
    | false => false
def AB.ns : AB → Bool
  | .dead => true
  | .bk _ s => segsNs s
  | .row _ _ c => c.ns
  | .mp _ _ vs _ => vs.plain
  | .it _ _ _ _ => true
def abNs : List AB → Bool
  | [] => true
  | a :: l => match a.ns with
    | true => abNs l
    | false => false
def memNs : Mem → Bool
  | [] => true
  | (_, a) :: l => match a.ns with
    | true => memNs l
    | false => false
def AV.nsv : AV → Bool
  | .tup l => AL.ns l
  | a => a.ns
def idk (ks : List Nat) (k : Nat) : Option Nat := match lmem k ks with
  | true => some k
  | false => none
def ren0 : List Nat → Ren
  | [] => []
  | k :: ks => (k, some k) :: ren0 ks
def nameV : AV → Option Nat
  | .rw k => some k
  | .sl k _ _ _ _ _ => some k
  | _ => none
/-- the arguments, rows of the caller's own told by what lies in them; which rows these are -/
def convs (F : Fs) : List PT → List AV → List Nat → (List AV → List Nat → Look) → Look
  | [], [], us, K => K [] us
  | .keep :: ts, a :: r, us, K => convs F ts r us fun l us' => K (a :: l) us'
  | .row k :: ts, a :: r, us, K => match nameV a with
    | some j => .look j fun ab => match ab.live with
      | true => withContent F a k.esz fun c => match k.fits c, AC.nk false c with
        | true, true => convs F ts r (j :: us) fun l us' => K (.rb k.esz c :: l) us'
        | _, _ => .no
      | false => .no
    | none => match a with
      | .nl => convs F ts r us fun l us' => K (.rb k.esz k.nil :: l) us'
      | .z => convs F ts r us fun l us' => K (.rb k.esz k.nil :: l) us'
      | a => convs F ts r us fun l us' => K (a :: l) us'
  | _, _, _, _ => .no
def disj : List Nat → List Nat → Bool
  | [], _ => true
  | k :: us, ks => match lmem k ks with
    | true => false
    | false => disj us ks
def rbSpec (F : Fs) (ts : List PT) (s : Spec) : Spec := fun args kb =>
  convs F ts args [] fun args1 us =>
    match us with
    | [] => s args1 kb
    | us => gather 40 (keysL args1 []) 0 [] fun ks abs =>
      match rnAL (idk ks) args1, rnABs (idk ks) abs, disj us ks, abNs abs with
      | some l, some mm, true, true => match (s l kb).run (zipKs ks abs) with
        | some e => match e.v.nsv, memNs e.puts with
          | true, true => .ret e
          | _, _ => .no
        | none => .no
      | _, _, _, _ => .no

theorem disj_spec : ∀ {us ks : List Nat}, disj us ks = true → ∀ k, k ∈ us → k ∉ ks
  | [], ks, h, k, hk => by simp at hk
  | u :: us, ks, h, k, hk => by
    simp only [disj] at h
    split at h
    · cases h
    · rename_i hm
      rcases List.mem_cons.1 hk with rfl | hk
      · exact lmem_spec hm
      · exact disj_spec h k hk
theorem idk_eq {ks : List Nat} {k j : Nat} (h : idk ks k = some j) : j = k ∧ k ∈ ks := by
  unfold idk at h
  split at h
  · rename_i hm
    refine ⟨(Option.some.inj h).symm, ?_⟩
    clear h
    induction ks with
    | nil => simp [lmem] at hm
    | cons a r ih =>
      simp only [lmem] at hm
      split at hm
      · rename_i e; rw [beq_nat e]; exact List.mem_cons_self
      · exact List.mem_cons_of_mem _ (ih hm)
  · cases h
theorem ren0_look : ∀ (ks : List Nat) (t : Nat), rlook (ren0 ks) t = if t ∈ ks then some (some t) else none
  | [], t => by simp [ren0, rlook]
  | k :: ks, t => by
    rw [ren0, rlook_cons, ren0_look ks t]
    by_cases e : k = t
    · subst e; simp
    · rw [if_neg e]
      have : t ∈ k :: ks ↔ t ∈ ks := ⟨fun h => (List.mem_cons.1 h).resolve_left (fun h => e h.symm), List.mem_cons_of_mem _⟩
      simp only [this]
theorem same0 (ks : List Nat) : sameAll (ren0 ks) (idk ks) := by
  intro k j h
  obtain ⟨rfl, h2⟩ := idk_eq h
  rw [ren0_look, if_pos h2]
section
variable {f : Nat → Option Nat}
mutual
theorem rnAV_id (hf : ∀ k j, f k = some j → j = k) : ∀ (a b : AV), rnAV f a = some b → b = a
  | .i _, b, h => by simp only [rnAV, Option.some.injEq] at h; exact h.symm
  | .w8 _, b, h => by simp only [rnAV, Option.some.injEq] at h; exact h.symm
  | .w16 _, b, h => by simp only [rnAV, Option.some.injEq] at h; exact h.symm
  | .w32 _, b, h => by simp only [rnAV, Option.some.injEq] at h; exact h.symm
  | .w64 _, b, h => by simp only [rnAV, Option.some.injEq] at h; exact h.symm
  | .b _, b, h => by simp only [rnAV, Option.some.injEq] at h; exact h.symm
  | .kb _, b, h => by simp only [rnAV, Option.some.injEq] at h; exact h.symm
  | .s _, b, h => by simp only [rnAV, Option.some.injEq] at h; exact h.symm
  | .nl, b, h => by simp only [rnAV, Option.some.injEq] at h; exact h.symm
  | .pn, b, h => by simp only [rnAV, Option.some.injEq] at h; exact h.symm
  | .z, b, h => by simp only [rnAV, Option.some.injEq] at h; exact h.symm
  | .mn, b, h => by simp only [rnAV, Option.some.injEq] at h; exact h.symm
  | .ag n c, b, h => by
    simp only [rnAV] at h
    split at h
    · rename_i d hd; cases h; rw [rnAC_id hf c d hd]
    · cases h
  | .rb e c, b, h => by
    simp only [rnAV] at h
    split at h
    · cases h; rfl
    · cases h
  | .pr a, b, h => by
    simp only [rnAV] at h
    split at h
    · cases h; rfl
    · cases h
  | .rw k, b, h => by
    simp only [rnAV] at h
    split at h
    · rename_i j hj; cases h; rw [hf k j hj]
    · cases h
  | .p k g o, b, h => by
    simp only [rnAV] at h
    split at h
    · rename_i j hj; cases h; rw [hf k j hj]
    · cases h
  | .sl k g o e a n, b, h => by
    simp only [rnAV] at h
    split at h
    · rename_i j hj; cases h; rw [hf k j hj]
    · cases h
  | .cl k, b, h => by
    simp only [rnAV] at h
    split at h
    · rename_i j hj; cases h; rw [hf k j hj]
    · cases h
  | .mh k, b, h => by
    simp only [rnAV] at h
    split at h
    · rename_i j hj; cases h; rw [hf k j hj]
    · cases h
  | .fv g l, b, h => by
    simp only [rnAV] at h
    split at h
    · rename_i l' hl; cases h; rw [rnAL_id hf l l' hl]
    · cases h
  | .u, b, h => by simp [rnAV] at h
  | .tup _, b, h => by simp [rnAV] at h
  | .pe _ _ _ _ _, b, h => by simp [rnAV] at h
  | .pf _ _ _ _ _ _ _, b, h => by simp [rnAV] at h
theorem rnAC_id (hf : ∀ k j, f k = some j → j = k) : ∀ (a b : AC), rnAC f a = some b → b = a
  | .bt _, b, h => by simp only [rnAC, Option.some.injEq] at h; exact h.symm
  | .wh _, b, h => by simp only [rnAC, Option.some.injEq] at h; exact h.symm
  | .wd _, b, h => by simp only [rnAC, Option.some.injEq] at h; exact h.symm
  | .ww _, b, h => by simp only [rnAC, Option.some.injEq] at h; exact h.symm
  | .is _, b, h => by simp only [rnAC, Option.some.injEq] at h; exact h.symm
  | .ss _, b, h => by simp only [rnAC, Option.some.injEq] at h; exact h.symm
  | .ds _ _, b, h => by simp only [rnAC, Option.some.injEq] at h; exact h.symm
  | .vs l, b, h => by
    simp only [rnAC] at h
    split at h
    · rename_i l' hl; cases h; rw [rnAL_id hf l l' hl]
    · cases h
  | .fn _ _ _, b, h => by simp [rnAC] at h
theorem rnAL_id (hf : ∀ k j, f k = some j → j = k) : ∀ (a b : List AV), rnAL f a = some b → b = a
  | [], b, h => by simp only [rnAL, Option.some.injEq] at h; exact h.symm
  | a :: l, b, h => by
    simp only [rnAL] at h
    split at h
    · rename_i a' l' h1 h2; cases h; rw [rnAV_id hf a a' h1, rnAL_id hf l l' h2]
    · cases h
end
theorem rnSegs_id (hf : ∀ k j, f k = some j → j = k) : ∀ (a b : List Seg), rnSegs f a = some b → b = a
  | [], b, h => by simp only [rnSegs, Option.some.injEq] at h; exact h.symm
  | (n, c) :: l, b, h => by
    simp only [rnSegs] at h
    split at h
    · rename_i a' l' h1 h2; cases h; rw [rnAC_id hf c a' h1, rnSegs_id hf l l' h2]
    · cases h
theorem rnAB_id (hf : ∀ k j, f k = some j → j = k) (a b : AB) (h : rnAB f a = some b) : b = a := by
  cases a with
  | dead => simp [rnAB] at h
  | bk T s =>
    simp only [rnAB] at h
    split at h
    · rename_i s' hs; cases h; rw [rnSegs_id hf s s' hs]
    · cases h
  | row T e c =>
    simp only [rnAB] at h
    split at h
    · rename_i d hd; cases h; rw [rnAC_id hf c d hd]
    · cases h
  | mp T kk vs M => simp only [rnAB, Option.some.injEq] at h; exact h.symm
  | it k a b c =>
    simp only [rnAB] at h
    split at h
    · rename_i j hj; cases h; rw [hf k j hj]
    · cases h
end
section
variable {m m' : Hd} {w : World}
mutual
theorem CR_ns (h : ∀ k v, m k = some v → m' k = some v) : ∀ (a : AV) (cs : List Value), a.ns = true → CR m w a cs → CR m' w a cs
  | .u, cs, hn, hc => by simpa only [CR] using hc
  | .i n, cs, hn, hc => by simpa only [CR] using hc
  | .w8 x, cs, hn, hc => by simpa only [CR] using hc
  | .w16 x, cs, hn, hc => by simpa only [CR] using hc
  | .w32 x, cs, hn, hc => by simpa only [CR] using hc
  | .w64 x, cs, hn, hc => by simpa only [CR] using hc
  | .b x, cs, hn, hc => by simpa only [CR] using hc
  | .kb x, cs, hn, hc => by simpa only [CR] using hc
  | .s x, cs, hn, hc => by simpa only [CR] using hc
  | .ag n c, cs, hn, hc => by simp only [AV.ns] at hn; simp only [CR] at hc ⊢; exact ⟨hc.1, RC_ns h c cs hn hc.2⟩
  | .tup l, cs, hn, hc => by simp [AV.ns] at hn
  | .p k g o, cs, hn, hc => by simp only [CR] at hc ⊢; obtain ⟨g, h1, h2⟩ := hc; exact ⟨g, h _ _ h1, h2⟩
  | .pe k g o e i, cs, hn, hc => by simp only [CR] at hc ⊢; obtain ⟨v, g, h1, h2⟩ := hc; exact ⟨v, g, h _ _ h1, h2⟩
  | .pr a, cs, hn, hc => by simp [AV.ns] at hn
  | .sl k g o e a n, cs, hn, hc => by simp only [CR] at hc ⊢; obtain ⟨v, ad, cap, h1, h2⟩ := hc; exact ⟨v, ad, cap, h _ _ h1, h2⟩
  | .rb e c, cs, hn, hc => by simp [AV.ns] at hn
  | .rw k, cs, hn, hc => by simp only [CR] at hc ⊢; obtain ⟨v, h1, h2⟩ := hc; exact ⟨v, h _ _ h1, h2⟩
  | .nl, cs, hn, hc => by simpa only [CR] using hc
  | .pn, cs, hn, hc => by simpa only [CR] using hc
  | .cl k, cs, hn, hc => by simp only [CR] at hc ⊢; obtain ⟨v, h1, h2⟩ := hc; exact ⟨v, h _ _ h1, h2⟩
  | .z, cs, hn, hc => by simpa only [CR] using hc
  | .mh k, cs, hn, hc => by simp only [CR] at hc ⊢; obtain ⟨v, h1, h2⟩ := hc; exact ⟨v, h _ _ h1, h2⟩
  | .mn, cs, hn, hc => by simpa only [CR] using hc
  | .pf k g o e i j c, cs, hn, hc => by simp only [CR] at hc ⊢; obtain ⟨v, g, h1, h2⟩ := hc; exact ⟨v, g, h _ _ h1, h2⟩
  | .fv f l, cs, hn, hc => by simp only [AV.ns] at hn; simp only [CR] at hc ⊢; obtain ⟨vs, h1, h2⟩ := hc; exact ⟨vs, h1, LR_ns h l vs hn h2⟩
theorem RC_ns (h : ∀ k v, m k = some v → m' k = some v) : ∀ (c : AC) (cs : List Value), c.ns = true → RC m w c cs → RC m' w c cs
  | .bt xs, cs, hn, hc => by simpa only [RC] using hc
  | .wh xs, cs, hn, hc => by simpa only [RC] using hc
  | .wd xs, cs, hn, hc => by simpa only [RC] using hc
  | .ww xs, cs, hn, hc => by simpa only [RC] using hc
  | .is xs, cs, hn, hc => by simpa only [RC] using hc
  | .ss xs, cs, hn, hc => by simpa only [RC] using hc
  | .vs l, cs, hn, hc => by simp only [AC.ns] at hn; simp only [RC] at hc ⊢; exact LR_ns h l cs hn hc
  | .fn e n f, cs, hn, hc => by simp [AC.ns] at hn
  | .ds sh xs, cs, hn, hc => by
    simp only [AC.ns] at hn
    simp only [RC] at hc ⊢
    obtain ⟨css, h1, h2, h3⟩ := hc
    exact ⟨css, h1, h2, fun j x y hx hy => ⟨(h3 j x y hx hy).1, DR_move (sh := false) (fun h => by cases h) sh y x (.inr hn) (h3 j x y hx hy).2⟩⟩
theorem LR_ns (h : ∀ k v, m k = some v → m' k = some v) : ∀ (l : List AV) (cs : List Value), AL.ns l = true → LR m w l cs → LR m' w l cs
  | [], cs, hn, hc => by simpa only [LR] using hc
  | a :: l, cs, hn, hc => by
    simp only [AL.ns] at hn
    split at hn
    · rename_i ha
      simp only [LR] at hc ⊢
      obtain ⟨c1, c2, h1, h2, h3⟩ := hc
      exact ⟨c1, c2, h1, CR_ns h a c1 ha h2, LR_ns h l c2 hn h3⟩
    · cases hn
end
theorem RV_ns1 (h : ∀ k v, m k = some v → m' k = some v) (a : AV) (v : Value) (hn : a.ns = true) (hv : RV m w a v) : RV m' w a v := by
  cases a with
  | ag n c =>
    simp only [AV.ns] at hn
    simp only [RV] at hv ⊢
    obtain ⟨cs, h1, h2, h3⟩ := hv
    exact ⟨cs, h1, h2, RC_ns h c cs hn h3⟩
  | tup l => simp [AV.ns] at hn
  | u => simp [RV]
  | _ => simp only [RV] at hv ⊢; exact CR_ns h _ _ hn hv
theorem RVs_ns (h : ∀ k v, m k = some v → m' k = some v) : ∀ (l : List AV) (vs : List Value), AL.ns l = true → RVs m w l vs → RVs m' w l vs
  | [], vs, hn, hv => by simpa only [RVs] using hv
  | a :: l, vs, hn, hv => by
    simp only [AL.ns] at hn
    split at hn
    · rename_i ha
      simp only [RVs] at hv ⊢
      obtain ⟨v, r, h1, h2, h3⟩ := hv
      exact ⟨v, r, h1, RV_ns1 h a v ha h2, RVs_ns h l r hn h3⟩
    · cases hn
theorem RV_nsv (h : ∀ k v, m k = some v → m' k = some v) (a : AV) (v : Value) (hn : a.nsv = true) (hv : RV m w a v) : RV m' w a v := by
  cases a with
  | tup l =>
    simp only [AV.nsv] at hn
    simp only [RV] at hv ⊢
    obtain ⟨vs, h1, h2⟩ := hv
    exact ⟨vs, h1, RVs_ns h l vs hn h2⟩
  | _ => exact RV_ns1 h _ _ hn hv
theorem SegsR_ns (h : ∀ k v, m k = some v → m' k = some v) : ∀ (l : List Seg) (cs : List Value), segsNs l = true → SegsR m w l cs → SegsR m' w l cs
  | [], cs, hn, hc => by simpa only [SegsR] using hc
  | (n, c) :: l, cs, hn, hc => by
    simp only [segsNs] at hn
    split at hn
    · rename_i ha
      simp only [SegsR] at hc ⊢
      obtain ⟨c1, c2, h1, h2, h3, h4⟩ := hc
      exact ⟨c1, c2, h1, h2, RC_ns h c c1 ha h3, SegsR_ns h l c2 hn h4⟩
    · cases hn
theorem ER_ns {kk : KK} {vs : Sh} (hn : vs.plain = true) : ∀ (l : List (Nat × D × D)) (es : List MapEntry), ER m w kk vs l es → ER m' w kk vs l es
  | [], es, he => he
  | (b, k, d) :: l, es, he => by
    obtain ⟨e, r, h1, h2, h3, ⟨cs, g1, g2⟩, h5⟩ := he
    exact ⟨e, r, h1, h2, h3, ⟨cs, DR_move (sh := false) (fun h => by cases h) vs d cs (.inr hn) g1, g2⟩, ER_ns hn l r h5⟩
theorem ABR_ns (h : ∀ k v, m k = some v → m' k = some v) {k : Nat} {ab : AB} (hn : ab.ns = true) (ha : ABR m w k ab) : ABR m' w k ab := by
  cases ab with
  | dead => trivial
  | bk T segs =>
    obtain ⟨g, cs, fz, h1, h2, h3, h4⟩ := ha
    exact ⟨g, cs, fz, h _ _ h1, h2, h3, SegsR_ns h segs _ hn h4⟩
  | row T e c =>
    obtain ⟨v, n, cs, h1, h2, h3⟩ := ha
    exact ⟨v, n, cs, h _ _ h1, h2, RC_ns h c cs hn h3⟩
  | mp T kk vs M =>
    obtain ⟨r, es, h1, h2, h3, h4⟩ := ha
    exact ⟨r, es, h _ _ h1, h2, ER_ns hn _ _ h3, h4⟩
  | it k0 a b c =>
    obtain ⟨r, rm, h1, h2, h3⟩ := ha
    exact ⟨r, rm, h _ _ h1, h _ _ h2, h3⟩
end
theorem abNs_get : ∀ {l : List AB}, abNs l = true → ∀ (j : Nat) a, l[j]? = some a → a.ns = true
  | [], h, j, a, hj => by simp at hj
  | b :: l, h, j, a, hj => by
    simp only [abNs] at h
    split at h
    · rename_i hb
      cases j with
      | zero => simp only [List.getElem?_cons_zero, Option.some.injEq] at hj; subst hj; exact hb
      | succ j => exact abNs_get h j a (by simpa using hj)
    · cases h
theorem memNs_look : ∀ {l : Mem}, memNs l = true → ∀ k a, mlook l k = some a → a.ns = true
  | [], h, k, a, hj => by simp [mlook] at hj
  | (t, b) :: l, h, k, a, hj => by
    simp only [memNs] at h
    split at h
    · rename_i hb
      rw [mlook_cons] at hj
      split at hj
      · cases hj; exact hb
      · exact memNs_look h k a hj
    · cases h
end Go.Vc
set_option linter.unusedVariables false
set_option linter.unusedSimpArgs false
namespace Go.Vc
open Go Go.RowKit

/-- an argument: as it is; a row of the caller's own, told by what lies in it -/
def ArgR (m : Hd) (w : World) (me : Mem) (us : List Nat) (a : AV) (v : Value) : Prop :=
  RV m w a v ∨ ∃ e c, a = .rb e c ∧ AC.nk false c = true ∧ ∃ ad n cap cs, v = .slice ad n cap ∧ RC m w c cs ∧ cs.length = n * e ∧ n ≤ cap ∧
    (0 < n → ∃ b, ad = some b ∧ b.block < w.heap.size ∧ (∀ j x, cs[j]? = some x → w.cell? (b.add j) = some x) ∧ ∃ k v0 ab, k ∈ us ∧ m k = some v0 ∧ blk v0 = some b.block ∧ mlook me k = some ab ∧ ab.live = true)
def ArgsR (m : Hd) (w : World) (me : Mem) (us : List Nat) : List AV → List Value → Prop
  | [], vs => vs = []
  | a :: l, vs => ∃ v r, vs = v :: r ∧ ArgR m w me us a v ∧ ArgsR m w me us l r
section
variable {P : Program} {m : Hd} {w : World} {me : Mem} {kb : Nat}
theorem ArgR_more {us us' : List Nat} (h : ∀ k, k ∈ us → k ∈ us') {a : AV} {v : Value} (ha : ArgR m w me us a v) : ArgR m w me us' a v := by
  rcases ha with ha | ⟨e, c, h1, h2, ad, n, cap, cs, h3, h4, h5, h6, h7⟩
  · exact .inl ha
  · refine .inr ⟨e, c, h1, h2, ad, n, cap, cs, h3, h4, h5, h6, fun hn => ?_⟩
    obtain ⟨b, g1, g2, g3, k, v0, ab, g4, g5⟩ := h7 hn
    exact ⟨b, g1, g2, g3, k, v0, ab, h k g4, g5⟩
theorem ArgsR_nil : ∀ {l : List AV} {vs : List Value}, ArgsR m w me [] l vs → RVs m w l vs
  | [], vs, h => by simp only [RVs]; exact h
  | a :: l, vs, h => by
    obtain ⟨v, r, h1, h2, h3⟩ := h
    simp only [RVs]
    refine ⟨v, r, h1, ?_, ArgsR_nil h3⟩
    rcases h2 with h2 | ⟨e, c, rfl, g2, ad, n, cap, cs, rfl, g4, g5, g6, g7⟩
    · exact h2
    · simp only [RV, CR]
      refine ⟨ad, n, cap, cs, rfl, g4, g5, g6, fun hn => ?_⟩
      obtain ⟨b, _, _, _, k, _, _, hk, _⟩ := g7 hn
      simp at hk
theorem name_blk {a : AV} {j : Nat} (hn : nameV a = some j) {b : Addr} {n cap : Nat} (hv : RV m w a (.slice (some b) n cap)) (h0 : 0 < n) (hc : n ≤ cap) : ∃ v0, m j = some v0 ∧ blk v0 = some b.block := by
  cases a <;> simp only [nameV, Option.some.injEq, reduceCtorEq] at hn
  · subst hn
    simp only [RV, CR] at hv
    obtain ⟨v0, ad, cap', h1, h2, h3, h4, _⟩ := hv
    simp only [List.cons.injEq, and_true, Value.slice.injEq] at h2
    obtain ⟨rfl, rfl, rfl⟩ := h2
    obtain ⟨g, g1, g2⟩ := h4 (by omega)
    refine ⟨v0, h1, ?_⟩
    rw [g1]
    have := Option.some.inj g2
    rw [this]
  · subst hn
    simp only [RV, CR] at hv
    obtain ⟨v0, h1, h2, _⟩ := hv
    simp only [List.cons.injEq, and_true] at h2
    subst h2
    exact ⟨_, h1, blk_slice (by omega)⟩
theorem convs_sound (hb : Base m w me kb) : ∀ (ts : List PT) (args : List AV) (us : List Nat) (vals : List Value) (K : List AV → List Nat → Look) (e : Eff), RVs m w args vals → (convs real ts args us K).run me = some e → e.c →
    ∃ l us' e0, (K l us').run me = some e0 ∧ e0.c ∧ e0.v = e.v ∧ e0.puts = e.puts ∧ (∀ k, k ∈ us → k ∈ us') ∧ ArgsR m w me us' l vals
  | [], [], us, vals, K, e, hv, h, hc => ⟨[], us, e, h, hc, rfl, rfl, fun _ h => h, by simp only [RVs] at hv; exact hv⟩
  | .keep :: ts, a :: r, us, vals, K, e, hv, h, hc => by
    simp only [convs] at h
    simp only [RVs] at hv
    obtain ⟨v, q, rfl, h1, h2⟩ := hv
    obtain ⟨l, us', e0, g1, g2, g3, g4, g5, g6⟩ := convs_sound hb ts r us q _ e h2 h hc
    exact ⟨a :: l, us', e0, g1, g2, g3, g4, g5, v, q, rfl, .inl h1, g6⟩
  | .row k :: ts, a :: r, us, vals, K, e, hv, h, hc => by
    simp only [RVs] at hv
    obtain ⟨v, q, rfl, h1, h2⟩ := hv
    have empty : ∀ ad, v = .slice ad 0 0 → RV m w (.rb k.esz k.nil) v := by
      rintro ad rfl
      simp only [RV, CR]
      exact ⟨ad, 0, 0, [], rfl, by cases k <;> simp [EK.nil, RC], by simp, by omega, fun h => by omega⟩
    simp only [convs] at h
    split at h
    · rename_i j hj
      obtain ⟨ab, hab, h⟩ := Look.run_look h
      split at h
      · rename_i hlv
        obtain ⟨c, cs, e1, k1, k2, k3, k4, k5, k6, k6b, k7⟩ := content_sound hb h1 h hc
        split at k1
        · rename_i hf hnk
          obtain ⟨l, us', e0, g1, g2, g3, g4, g5, g6⟩ := convs_sound hb ts r (j :: us) q _ e1 h2 k1 k2
          refine ⟨_ :: l, us', e0, g1, g2, g3.trans k3, g4.trans k4, fun t ht => g5 t (List.mem_cons_of_mem _ ht), v, q, rfl, .inr ?_, g6⟩
          obtain ⟨ad, cap, rfl, q1, q2, q3⟩ := k7
          refine ⟨_, c, rfl, hnk, ad, _, cap, cs, rfl, k5, q1, q2, fun hn => ?_⟩
          obtain ⟨b, rfl, hb2⟩ := q3 hn
          obtain ⟨v0, p1, p2⟩ := name_blk hj h1 hn q2
          refine ⟨b, rfl, ?_, hb2, j, v0, ab, g5 j List.mem_cons_self, p1, p2, hab, hlv⟩
          exact hb.bd _ _ _ p1 p2
        · exact (Look.run_no k1).elim
      · exact (Look.run_no h).elim
    · split at h
      · obtain ⟨l, us', e0, g1, g2, g3, g4, g5, g6⟩ := convs_sound hb ts r us q _ e h2 h hc
        refine ⟨_ :: l, us', e0, g1, g2, g3, g4, g5, v, q, rfl, .inl ?_, g6⟩
        simp only [RV, CR, List.cons.injEq, and_true] at h1
        exact empty none h1
      · obtain ⟨l, us', e0, g1, g2, g3, g4, g5, g6⟩ := convs_sound hb ts r us q _ e h2 h hc
        refine ⟨_ :: l, us', e0, g1, g2, g3, g4, g5, v, q, rfl, .inl ?_, g6⟩
        simp only [RV, CR, List.cons.injEq, and_true] at h1
        obtain ⟨ad, h1⟩ := h1
        exact empty ad h1
      · obtain ⟨l, us', e0, g1, g2, g3, g4, g5, g6⟩ := convs_sound hb ts r us q _ e h2 h hc
        exact ⟨_ :: l, us', e0, g1, g2, g3, g4, g5, v, q, rfl, .inl h1, g6⟩
  | [], _ :: _, us, vals, K, e, hv, h, hc => by simp only [convs] at h; exact (Look.run_no h).elim
  | .keep :: _, [], us, vals, K, e, hv, h, hc => by simp only [convs] at h; exact (Look.run_no h).elim
  | .row _ :: _, [], us, vals, K, e, hv, h, hc => by simp only [convs] at h; exact (Look.run_no h).elim

theorem rb_ok {f : Nat} {ts : List PT} {s : Spec} (hs : SpecOK P f s) : SpecOK P f (rbSpec real ts s) := by
  intro m w me kb args vals e hb hv he hc
  unfold rbSpec at he
  obtain ⟨args1, us, e1, he1, hc1, ev, ep, _, ha⟩ := convs_sound hb ts args [] vals _ e hv he hc
  have back : (Calls P f vals.toArray w fun en w' => ∃ v, en = .returned v ∧ ∃ m', OkE m w me kb e1.v e1.puts v m' w') → Calls P f vals.toArray w fun en w' => ∃ v, en = .returned v ∧ ∃ m', OkE m w me kb e.v e.puts v m' w' := by
    rw [ev, ep]; exact id
  refine back ?_
  clear back ev ep hc he hv e
  have he := he1
  clear he1
  split at he
  · exact hs m w me kb args1 vals e1 hb (ArgsR_nil ha) he hc1
  · obtain ⟨ks, abs, hnd, hal, habs, he⟩ := gather_sound 40 (keysL args1 []) 0 [] (keysL_nodup args1 [] List.nodup_nil).1 rfl (fun j ab hj => by simp at hj) (Nat.zero_le _) he
    split at he
    · rename_i l mm hl hmm hdj hns
      split at he
      · rename_i e2 hrun
        split at he
        · rename_i hnv hnp
          simp only [Look.run, Option.some.injEq] at he
          subst he
          have hidf : ∀ k j, idk ks k = some j → j = k := fun k j h => (idk_eq h).1
          have hl1 := rnAL_id hidf _ _ hl
          subst hl1
          obtain ⟨hmml, hmmg⟩ := rnABs_get hmm
          -- the callee's names
          let m1 : Hd := ⟨(hren m (ren0 ks)).mu, fun _ => True, m.pub⟩
          have hm1 : ∀ k, m1 k = if k ∈ ks then m k else none := by
            intro k
            show (hren m (ren0 ks)) k = _
            rw [hren_apply, ren0_look]
            by_cases h : k ∈ ks
            · rw [if_pos h, if_pos h]
            · rw [if_neg h, if_neg h]
          have hent : ∀ k, k ∈ ks → ∃ (j : Nat) (ab : AB) (v : Value), ks[j]? = some k ∧ abs[j]? = some ab ∧ mlook me k = some ab ∧ ab.live = true ∧ ab.ns = true ∧ rnAB (idk ks) ab = some ab ∧ m k = some v := by
            intro k hk
            obtain ⟨j, hj⟩ := List.getElem?_of_mem hk
            have hjl := (List.getElem?_eq_some_iff.1 hj).1
            obtain ⟨ab, hab⟩ : ∃ ab, abs[j]? = some ab := ⟨_, List.getElem?_eq_getElem (by omega)⟩
            obtain ⟨k', h1, h2⟩ := habs j ab hab
            rw [hj] at h1; cases h1
            obtain ⟨y, hy⟩ : ∃ y, mm[j]? = some y := ⟨_, List.getElem?_eq_getElem (by omega)⟩
            obtain ⟨x, hx1, hx2⟩ := hmmg j y hy
            rw [hab] at hx1; cases hx1
            have hyx := rnAB_id hidf _ _ hx2
            subst hyx
            obtain ⟨_, h5, _⟩ := rnb_le (same0 ks) _ _ hx2
            obtain ⟨v, h6⟩ := ABR_live (hb.mem.at_ k _ h2) h5
            exact ⟨j, _, v, hj, hab, h2, h5, abNs_get hns j _ hab, hx2, h6⟩
          have hlkS : ∀ k, mlook (zipKs ks abs) k = if k ∈ ks then mlook me k else none := by
            intro k
            rw [zipKs_look ks abs 0 k hal]
            by_cases h : k ∈ ks
            · obtain ⟨j, ab, v, h1, h2, h3, _⟩ := hent k h
              rw [if_pos h, idxOf_of ks 0 k j hnd h1, h3]
              simpa using h2
            · rw [if_neg h]
              cases hq : idxOf k 0 ks with
              | none => rfl
              | some j => exact absurd (List.mem_of_getElem? (idxOf_get ks 0 k j hq).2) h
          have hsub : ∀ k v, m1 k = some v → m k = some v ∧ k ∈ ks := by
            intro k v h
            rw [hm1] at h
            split at h
            · exact ⟨h, by assumption⟩
            · cases h
          have hpr : Pres (hren m (ren0 ks)) w m1 w := ⟨fun _ _ h => h, fun b hb => ⟨rfl, hb.1, trivial, hb.2.2⟩⟩
          have hdis := disj_spec hdj
          -- arguments
          have hvS : ∀ (l0 : List AV) (vs : List Value), ArgsR m w me us l0 vs → rnAL (idk ks) l0 = some l0 → RVs m1 w l0 vs := by
            intro l0
            induction l0 with
            | nil => intro vs h _; simp only [RVs]; exact h
            | cons a r ih =>
              intro vs h hr
              obtain ⟨v, q, rfl, h2, h3⟩ := h
              simp only [rnAL] at hr
              split at hr
              · rename_i a' r' ha' hr'
                have ea := rnAV_id hidf _ _ ha'
                have er := rnAL_id hidf _ _ hr'
                subst ea er
                simp only [RVs]
                refine ⟨v, q, rfl, ?_, ih q h3 hr'⟩
                rcases h2 with h2 | ⟨e0, c, rfl, g2, ad, n, cap, cs, rfl, g4, g5, g6, g7⟩
                · obtain ⟨p1, p2⟩ := rn_le (same0 ks) _ _ ha'
                  exact RV_mono hpr _ _ (RV_le _ _ _ p1 p2 h2)
                · simp only [RV, CR]
                  refine ⟨ad, n, cap, cs, rfl, RC_move (sh := false) (fun h => by cases h) c cs g2 g4, g5, g6, fun hn => ?_⟩
                  obtain ⟨b, rfl, q2, q3, k, v0, ab, q4, q5, q6, q7, q8⟩ := g7 hn
                  refine ⟨b, rfl, ⟨q2, trivial, .inr fun k' v' hk' hv' => ?_⟩, q3⟩
                  obtain ⟨s1, s2⟩ := hsub k' v' hk'
                  obtain ⟨_, ab', _, _, _, s3, s4, _⟩ := hent k' s2
                  exact hb.mem.apart k k' ab ab' v0 v' _ q7 s3 q8 s4 (fun e => hdis k q4 (e ▸ s2)) q5 s1 q6 hv'
              · cases hr
          have hRV := hvS _ _ ha hl
          have hbS : Base m1 w (zipKs ks abs) kb := by
            refine ⟨⟨fun k ab hk => ?_, fun k k' ab ab' v v' b hk hk' hlv hlv' hne hv hv' hbk => ?_, fun b hp => hb.mem.pubs b hp, fun k ab v b hk hlv hv hbk => ?_, fun _ _ _ _ _ _ _ _ => trivial, fun _ _ => trivial⟩, fun k v b hk hbk => hb.bd k v b (hsub k v hk).1 hbk, fun k h1 h2 => ?_⟩
            · rw [hlkS] at hk
              split at hk
              · rename_i hm
                obtain ⟨_, ab', _, _, _, s3, s4, _, s6, _⟩ := hent k hm
                rw [s3] at hk; cases hk
                refine ABR_keep (ABR_le (r := ren0 ks) (k := k) (o := k) (by rw [ren0_look, if_pos hm]) (rnb_le (same0 ks) _ _ s6).1 (hb.mem.at_ k _ s3)) (fun _ h => h) (fun _ _ _ _ => rfl) hpr
              · cases hk
            · rw [hlkS] at hk hk'
              split at hk
              · split at hk'
                · exact hb.mem.apart k k' ab ab' v v' b hk hk' hlv hlv' hne (hsub _ _ hv).1 (hsub _ _ hv').1 hbk
                · cases hk'
              · cases hk
            · rw [hlkS] at hk
              split at hk
              · exact hb.mem.live k ab v b hk hlv (hsub _ _ hv).1 hbk
              · cases hk
            · rw [hm1, hb.fresh k h1 h2]; simp
          refine (hs m1 w (zipKs ks abs) kb _ vals e2 hbS hRV hrun hc1).mono ?_
          rintro en w' ⟨v, rfl, m', ⟨tr, rv, mem, keys, bd⟩⟩
          refine ⟨v, rfl, ?_⟩
          let m2 : Hd := ⟨fun k => match m k with
            | some v => some v
            | none => m' k, m.ok, m'.pub⟩
          have hm2o : ∀ k v, m k = some v → m2 k = some v := by
            intro k v h
            show (match m k with
              | some v => some v
              | none => m' k) = _
            rw [h]
          have hm2n : ∀ k, m k = none → m2 k = m' k := by
            intro k h
            show (match m k with
              | some v => some v
              | none => m' k) = _
            rw [h]
          have hext : ∀ k v, m' k = some v → m2 k = some v := by
            intro k v h
            cases hq : m k with
            | none => rw [hm2n k hq]; exact h
            | some v0 =>
              rw [hm2o k v0 hq]
              have h1 : m1 k ≠ none := by
                rcases keys k (by rw [h]; simp) with h1 | h1
                · exact h1
                · rw [hb.fresh k h1.1 h1.2] at hq; cases hq
              cases hq1 : m1 k with
              | none => exact absurd hq1 h1
              | some v1 =>
                have e1 := (hsub k v1 hq1).1
                have e2 := tr.mu k v1 hq1
                rw [e2] at h; cases h
                rw [hq] at e1; exact e1
          have hm2c : ∀ k v, m2 k = some v → m k = some v ∨ (m k = none ∧ m' k = some v) := by
            intro k v h
            cases hq : m k with
            | none => exact .inr ⟨rfl, by rw [hm2n k hq] at h; exact h⟩
            | some v0 => rw [hm2o k v0 hq] at h; exact .inl h
          have tr2 : Tr m w m2 w' := by
            refine ⟨hm2o, rfl, fun b h => tr.pub b h, fun b h => ?_, tr.size, fun b h hn => ?_, fun k v b hk hv => ?_, tr.os, tr.tape, tr.output⟩
            · rcases tr.pubn b h with h1 | ⟨k, v, h1, h2⟩ | h1
              · exact .inl h1
              · exact .inr (.inl ⟨k, v, (hsub k v h1).1, h2⟩)
              · exact .inr (.inr h1)
            · refine tr.old b h ?_
              rcases hn with hn | hn
              · exact .inl hn
              · exact .inr fun k v hk hv => hn k v (hsub k v hk).1 hv
            · rcases hm2c k v hk with h1 | ⟨_, h1⟩
              · exact .inl ⟨k, v, h1, hv⟩
              · rcases tr.own k v b h1 hv with ⟨k0, v0, h2, h3⟩ | h2
                · exact .inl ⟨k0, v0, (hsub k0 v0 h2).1, h3⟩
                · exact .inr h2
          -- each entry: the callee's, or as it was
          have hcase : ∀ t ab, mlook (mputs e2.puts me) t = some ab → (mlook (mputs e2.puts (zipKs ks abs)) t = some ab ∧ ab.ns = true) ∨ (t ∉ ks ∧ mlook me t = some ab) := by
            intro t ab h
            rw [mlook_mputs] at h ⊢
            cases hq : mlook e2.puts t with
            | some a => rw [hq] at h; cases h; exact .inl ⟨rfl, memNs_look hnp t _ hq⟩
            | none =>
              rw [hq] at h
              by_cases hm : t ∈ ks
              · refine .inl ⟨?_, ?_⟩
                · simp only; rw [hlkS, if_pos hm]; exact h
                · obtain ⟨_, ab', _, _, _, s3, _, s5, _⟩ := hent t hm
                  have h' : mlook me t = some ab := h
                  rw [s3] at h'; cases h'; exact s5
              · exact .inr ⟨hm, h⟩
          have hcov : ∀ t ab, mlook (mputs e2.puts (zipKs ks abs)) t = some ab → ab.live = true → ∃ v, m' t = some v ∧ m2 t = some v := by
            intro t ab h hl
            obtain ⟨v, hv⟩ := ABR_live (mem.at_ t ab h) hl
            exact ⟨v, hv, hext t v hv⟩
          have hold : ∀ t ab, t ∉ ks → mlook me t = some ab → ab.live = true → ∃ v, m t = some v ∧ m2 t = some v ∧ ∀ b, blk v = some b → b < w.heap.size ∧ ∀ k0 v0, m1 k0 = some v0 → blk v0 ≠ some b := by
            intro t ab hm h hl
            obtain ⟨v, hv⟩ := ABR_live (hb.mem.at_ t ab h) hl
            refine ⟨v, hv, hm2o t v hv, fun b hbk => ⟨hb.bd t v b hv hbk, fun k0 v0 h0 hb0 => ?_⟩⟩
            obtain ⟨s1, s2⟩ := hsub k0 v0 h0
            obtain ⟨_, ab0, _, _, _, s3, s4, _⟩ := hent k0 s2
            exact hb.mem.apart t k0 ab ab0 v v0 b h s3 hl s4 (fun e => hm (e ▸ s2)) hv s1 hbk hb0
          refine ⟨m2, tr2, RV_nsv hext _ _ hnv rv, ?_, fun k hk => ?_, fun k v b hk hv => ?_⟩
          · refine ⟨fun t ab hab => ?_, fun t t' ab ab' v v' b hab hab' hl hl' hne hv hv' hbk => ?_, mem.pubs, fun t ab v b hab hl hv hbk hp => ?_, fun t ab v b hab hl hv hbk => ?_, fun b h => hb.mem.okn b (Nat.le_trans tr.size h)⟩
            · rcases hcase t ab hab with ⟨h1, h2⟩ | ⟨h1, h2⟩
              · exact ABR_ns hext h2 (mem.at_ t ab h1)
              · cases hlv : ab.live with
                | false => cases ab with
                  | dead => trivial
                  | _ => simp [AB.live] at hlv
                | true =>
                  obtain ⟨v, g1, g2, g3⟩ := hold t ab h1 h2 hlv
                  refine ABR_keep (hb.mem.at_ t ab h2) (fun v hv => hm2o t v hv) (fun v1 b hv hbk => ?_) tr2.pres
                  rw [g1] at hv; cases hv
                  obtain ⟨p1, p2⟩ := g3 b hbk
                  exact tr.old b p1 (.inr p2)
            · intro hbq
              rcases hcase t ab hab with ⟨h1, h2⟩ | ⟨h1, h2⟩ <;> rcases hcase t' ab' hab' with ⟨h1', h2'⟩ | ⟨h1', h2'⟩
              · obtain ⟨u, g1, g2⟩ := hcov t ab h1 hl
                obtain ⟨u', g1', g2'⟩ := hcov t' ab' h1' hl'
                rw [g2] at hv; cases hv
                rw [g2'] at hv'; cases hv'
                exact mem.apart t t' ab ab' v v' b h1 h1' hl hl' hne g1 g1' hbk hbq
              · obtain ⟨u, g1, g2⟩ := hcov t ab h1 hl
                obtain ⟨u', g1', g2', g3'⟩ := hold t' ab' h1' h2' hl'
                rw [g2] at hv; cases hv
                rw [g2'] at hv'; cases hv'
                obtain ⟨p1, p2⟩ := g3' b hbq
                rcases tr.own t v b g1 hbk with ⟨k0, v0, q1, q2⟩ | q1
                · exact p2 k0 v0 q1 q2
                · omega
              · obtain ⟨u, g1, g2, g3⟩ := hold t ab h1 h2 hl
                obtain ⟨u', g1', g2'⟩ := hcov t' ab' h1' hl'
                rw [g2] at hv; cases hv
                rw [g2'] at hv'; cases hv'
                obtain ⟨p1, p2⟩ := g3 b hbk
                rcases tr.own t' v' b g1' hbq with ⟨k0, v0, q1, q2⟩ | q1
                · exact p2 k0 v0 q1 q2
                · omega
              · obtain ⟨u, g1, g2, g3⟩ := hold t ab h1 h2 hl
                obtain ⟨u', g1', g2', g3'⟩ := hold t' ab' h1' h2' hl'
                rw [g2] at hv; cases hv
                rw [g2'] at hv'; cases hv'
                exact hb.mem.apart t t' ab ab' v v' b h2 h2' hl hl' hne g1 g1' hbk hbq
            · rcases hcase t ab hab with ⟨h1, h2⟩ | ⟨h1, h2⟩
              · obtain ⟨u, g1, g2⟩ := hcov t ab h1 hl
                rw [g2] at hv; cases hv
                exact mem.live t ab v b h1 hl g1 hbk hp
              · obtain ⟨u, g1, g2, g3⟩ := hold t ab h1 h2 hl
                rw [g2] at hv; cases hv
                obtain ⟨p1, p2⟩ := g3 b hbk
                rcases tr.pubn b hp with q | ⟨k0, v0, q1, q2⟩ | q
                · exact hb.mem.live t ab v b h2 hl g1 hbk q
                · exact p2 k0 v0 q1 q2
                · omega
            · rcases hcase t ab hab with ⟨h1, h2⟩ | ⟨h1, h2⟩
              · obtain ⟨u, g1, g2⟩ := hcov t ab h1 hl
                rw [g2] at hv; cases hv
                rcases tr.own t v b g1 hbk with ⟨k0, v0, q1, q2⟩ | q1
                · obtain ⟨s1, s2⟩ := hsub k0 v0 q1
                  obtain ⟨_, ab0, _, _, _, s3, s4, _⟩ := hent k0 s2
                  exact hb.mem.okl k0 ab0 v0 b s3 s4 s1 q2
                · exact hb.mem.okn b q1
              · obtain ⟨u, g1, g2, g3⟩ := hold t ab h1 h2 hl
                rw [g2] at hv; cases hv
                exact hb.mem.okl t ab v b h2 hl g1 hbk
          · cases hq : m k with
            | some v0 => exact .inl (by simp)
            | none =>
              rw [hm2n k hq] at hk
              rcases keys k hk with h1 | h1
              · exfalso
                apply h1
                rw [hm1, hq]; simp
              · exact .inr h1
          · rcases hm2c k v hk with h1 | ⟨_, h1⟩
            · exact Nat.lt_of_lt_of_le (hb.bd k v b h1 hv) tr.size
            · exact bd k v b h1 hv
        · exact (Look.run_no he).elim
      · exact (Look.run_no he).elim
    · exact (Look.run_no he).elim
end
end Go.Vc
set_option linter.unusedVariables false
set_option linter.unusedSimpArgs false
set_option maxRecDepth 100000
set_option maxHeartbeats 1000000
namespace Go.Proofs.Ytmldccfchnlpgaa
open Go Go.Vc
/-! ## Small words about numbers and guards -/
theorem lt_g {j n : Nat} (h : ¬ real.pB (real.lti (real.int j) (real.int n)) false) : j < n := by
  simp only [real, Bool.not_eq_false, decide_eq_true_eq] at h
  omega
theorem ge_g {j n : Nat} (h : ¬ real.pB (real.lti (real.int j) (real.int n)) true) : n ≤ j := by
  simp only [real, Bool.not_eq_true, decide_eq_false_iff_not] at h
  omega
theorem le_g {a n : Nat} (h : ¬ real.pB (real.lei (real.int a) (real.int n)) false) : a ≤ n := by
  simp only [real, Bool.not_eq_false, decide_eq_true_eq] at h
  omega
theorem gt_g {a n : Nat} (h : ¬ real.pB (real.lei (real.int a) (real.int n)) true) : n < a := by
  simp only [real, Bool.not_eq_true, decide_eq_false_iff_not] at h
  omega
theorem eqB_self (x : List UInt8) : real.eqB x x = true := beq_self_eq_true x
theorem addi1 {i : Nat} (h : i ≤ 1000000000000000) : real.addi (real.int i) (real.int 1) = real.int (i + 1) := by
  show IntKind.i64.wrap ((i : Int) + 1) = ((i + 1 : Nat) : Int)
  rw [wrap_sm (by omega) (by omega)]; omega
theorem addiN {i k : Nat} (h : i ≤ 1000000000000000) (hk : k ≤ 1000000000000000) : real.addi (real.int i) (real.int k) = real.int (i + k) := by
  show IntKind.i64.wrap ((i : Int) + (k : Int)) = ((i + k : Nat) : Int)
  rw [wrap_sm (by omega) (by omega)]; omega
theorem sub_stepN {j n : Nat} (h : j < n) : real.subn n (j + 1) < real.subn n j := by show n - (j + 1) < n - j; omega
theorem addi0 {k : Nat} (hk : k ≤ 1000000) : real.addi 0 (real.int k) = real.int k := by
  show IntKind.i64.wrap (0 + (k : Int)) = (k : Int)
  rw [wrap_sm (by omega) (by omega)]; omega
theorem subiN {i k : Nat} (h : k ≤ i) (hi : i ≤ 1000000000000000) : real.subi (real.int i) (real.int k) = real.int (i - k) := by
  show IntKind.i64.wrap ((i : Int) - (k : Int)) = ((i - k : Nat) : Int)
  rw [wrap_sm (by omega) (by omega)]; omega
section
variable {F : Fs} (hF : real = F)
include hF
theorem ltF {j n : Nat} (h : ¬ F.pB (F.lti (F.int j) (F.int n)) false) : j < n := by subst hF; exact lt_g h
theorem geF {j n : Nat} (h : ¬ F.pB (F.lti (F.int j) (F.int n)) true) : n ≤ j := by subst hF; exact ge_g h
theorem leF {j n : Nat} (h : ¬ F.pB (F.lei (F.int j) (F.int n)) false) : j ≤ n := by subst hF; exact le_g h
theorem gtF {j n : Nat} (h : ¬ F.pB (F.lei (F.int j) (F.int n)) true) : n < j := by subst hF; exact gt_g h
theorem addi1F {i : Nat} (h : i ≤ 1000000000000000) : F.addi (F.int i) (F.int 1) = F.int (i + 1) := by subst hF; exact addi1 h
theorem addiF {i k : Nat} (h : i ≤ 1000000000000000) (hk : k ≤ 1000000000000000) : F.addi (F.int i) (F.int k) = F.int (i + k) := by subst hF; exact addiN h hk
theorem subiF {i k : Nat} (h : k ≤ i) (hi : i ≤ 1000000000000000) : F.subi (F.int i) (F.int k) = F.int (i - k) := by subst hF; exact subiN h hi
theorem stepF {j n : Nat} (h : j < n) : F.subn n (j + 1) < F.subn n j := by subst hF; exact sub_stepN h
theorem natF (i : Nat) : F.nat (F.int i) = i := by subst hF; rfl
theorem trueF {b : Bool} (h : ¬ F.pB b false) : b = true := by
  subst hF; cases b with
  | true => rfl
  | false => exact absurd rfl h
theorem falseF {b : Bool} (h : ¬ F.pB b true) : b = false := by
  subst hF; cases b with
  | false => rfl
  | true => exact absurd rfl h
theorem noF {b : Bool} (e : b = true) (h : ¬ F.pB b true) : False := by subst hF; exact h e
theorem inF {i n : Nat} (h : i < n) : F.pIn (F.int i) n := by subst hF; exact ⟨Int.natCast_nonneg _, Int.ofNat_lt.2 h⟩
end
end Go.Proofs.Ytmldccfchnlpgaa
set_option linter.unusedVariables false
set_option linter.unusedSimpArgs false
set_option maxRecDepth 100000
set_option maxHeartbeats 1000000
namespace Go.Proofs.Ytmldccfchnlpgaa
open Go Go.Vc
theorem isKey_yes {x : List UInt8} (h1 : 1 ≤ x.length) : real.lei (real.int (real.lenB x)) (real.int 60) = us.isKey x := by
  show decide ((x.length : Int) ≤ 60) = (decide (1 ≤ x.length) && decide (x.length ≤ 60))
  rw [decide_eq_true h1, Bool.true_and]
  congr 1
  apply propext
  omega
theorem isKey_no {x : List UInt8} (h1 : ¬ 1 ≤ x.length) : false = us.isKey x := by
  show false = (decide (1 ≤ x.length) && decide (x.length ≤ 60))
  rw [decide_eq_false h1, Bool.false_and]
theorem r_node_isKey : Ready Try.prog 105 := by unfold Ready; kernel_rfl
noncomputable def sp_node_isKey (F : Fs) (U : Us) : Specs := []
theorem ok_node_isKey : SpecsOK Try.prog (sp_node_isKey real us) := sp_nil
noncomputable def g_node_isKey (F : Fs) (U : Us) : Law
  | [.s x] => some (True, [.val (.b (U.isKey x))])
  | _ => none
noncomputable def s_node_isKey (F : Fs) (U : Us) : Vc.Spec := pureSpec F false [.keep] (g_node_isKey F U)
noncomputable def x_node_isKey (F : Fs) (U : Us) : Cx := ⟨Try.f105.ntmps, tt F, sp_node_isKey F U, [], [], [], []⟩
theorem c_node_isKey (x : List UInt8) : vc real (x_node_isKey real us) [] [] (Try.f105.body.getD .skip) ⟨zipSl 0 [.s x], [], 64⟩ (retOk real (tt real) false Try.f105.results.toList [.val (.b (us.isKey x))]) := by
  generalize hU : us = U
  generalize hF : real = F
  cbv
  repeat' first | apply And.intro | refine Classical.or_iff_not_imp_left.2 (fun _ => ?_) | exact trivial
  all_goals try (subst hF hU; simp only [real, us, Nat.le_eq, Int.cast_ofNat_Int, decide_eq_false_iff_not, decide_eq_true_eq, List.length_take, List.length_drop, List.length_append, List.length_replicate, List.length_set, List.length_cons, List.length_nil, List.length_zipWith] at *; (try simp (disch := omega) only [wrap_sm] at *); omega)
  · rename_i h; subst hF hU; exact isKey_yes (le_g (n := x.length) h)
  · rename_i h; subst hF hU; exact isKey_no (Nat.not_le.2 (gt_g (n := x.length) h))
theorem k_node_isKey : SpecOK Try.prog 105 (s_node_isKey real us) := by
  refine pure_sound (x := x_node_isKey real us) ⟨tt_ok, ok_node_isKey, Go.Vc.ks_nil⟩ mixed Try.func105 rfl rfl (by kernel_rfl) ?_
  intro l c rs hg hc
  unfold g_node_isKey at hg
  split at hg
  · cases hg; exact ⟨Nat.le_of_ble_eq_true rfl, [], [], c_node_isKey _⟩
  · cases hg

/-! ## A leaf's size -/
theorem min_r {a b : Int} : real.mini a b = min a b := by
  show (if b < a then b else a) = min a b
  split <;> omega
theorem nsz_lo (l : List D) : ∀ i, 3 ≤ u_nsz l i ∧ u_nsz l i ≤ 100000
  | 0 => by simp [u_nsz]
  | i + 1 => by
    have h := nsz_lo l i
    simp only [u_nsz]
    omega
theorem nsz_full (l : List D) (i : Nat) (h : u_nsz l i = 100000) : ∀ k, u_nsz l (i + k) = 100000
  | 0 => h
  | k + 1 => by
    rw [← Nat.add_assoc, u_nsz, nsz_full l i h k]
    omega
/-- how a pair's text is told by the machine -/
def pkM (l : List D) (i : Nat) : List UInt8 := real.dS (real.dF (real.getD l (real.nat (real.int i))) 0)
def pvM (l : List D) (i : Nat) : List UInt8 := real.dS (real.dF (real.getD l (real.nat (real.int i))) 1)
def sizeM (l : List D) (i : Nat) (n : Int) : Int := real.addi n (real.addi (real.addi (real.mini (real.int (real.lenB (pkM l i))) (real.int 100000)) (real.mini (real.int (real.lenB (pvM l i))) (real.int 100000))) (real.int 4))
theorem size_step (l : List D) (i : Nat) (n : Int) (h0 : 0 ≤ n) (h1 : n ≤ 100000) (hn : real.mini n (real.int 100000) = us.nsz l i) : real.p0 (sizeM l i n) ∧ real.pLeI (sizeM l i n) (real.int 300004) ∧ real.mini (sizeM l i n) (real.int 100000) = us.nsz l (i + 1) := by
  have hn2 : n = u_nsz l i := by
    rw [min_r] at hn
    have : min n (100000 : Int) = u_nsz l i := hn
    omega
  have e : sizeM l i n = n + ((min ((pk l i).length : Int) 100000 + min ((pv l i).length : Int) 100000) + 4) := by
    unfold sizeM
    rw [min_r, min_r]
    have e1 : real.addi (min (real.int (real.lenB (pkM l i))) (real.int 100000)) (min (real.int (real.lenB (pvM l i))) (real.int 100000)) = min ((pk l i).length : Int) 100000 + min ((pv l i).length : Int) 100000 := by
      show IntKind.i64.wrap (min ((pk l i).length : Int) 100000 + min ((pv l i).length : Int) 100000) = _
      rw [wrap_sm (by omega) (by omega)]
    rw [e1]
    have e2 : real.addi (min ((pk l i).length : Int) 100000 + min ((pv l i).length : Int) 100000) (real.int 4) = min ((pk l i).length : Int) 100000 + min ((pv l i).length : Int) 100000 + 4 := by
      show IntKind.i64.wrap (min ((pk l i).length : Int) 100000 + min ((pv l i).length : Int) 100000 + 4) = _
      rw [wrap_sm (by omega) (by omega)]
    rw [e2]
    show IntKind.i64.wrap _ = _
    rw [wrap_sm (by omega) (by omega)]
  rw [e]
  refine ⟨?_, ?_, ?_⟩
  · show (0 : Int) ≤ _; omega
  · show _ ≤ (300004 : Int); omega
  · rw [min_r]
    show min _ (100000 : Int) = u_nsz l (i + 1)
    rw [u_nsz, ← hn2]
    omega
theorem size_out (l : List D) (i : Nat) (n : Int) (hi : i ≤ l.length) (hn : real.mini n (real.int 100000) = us.nsz l i) (h : ¬ real.pB (real.lti (real.int 100000) n) false) : real.mini n (real.int 100000) = us.nsz l (real.lenD l) := by
  have h1 : (100000 : Int) < n := by
    simp only [real, Bool.not_eq_false, decide_eq_true_eq] at h
    exact h
  have h2 : u_nsz l i = 100000 := by
    rw [min_r] at hn
    have : min n (100000 : Int) = u_nsz l i := hn
    omega
  have h3 := nsz_full l i h2 (l.length - i)
  rw [show i + (l.length - i) = l.length by omega] at h3
  rw [hn]
  show u_nsz l i = u_nsz l l.length
  rw [h2, h3]
theorem size_le {n : Int} (h : ¬ real.pB (real.lti (real.int 100000) n) true) : n ≤ 100000 := by
  simp only [real, Bool.not_eq_true, decide_eq_false_iff_not] at h
  have h : ¬ ((100000 : Int) < n) := h
  omega
theorem r_node_Size : Ready Try.prog 51 := by unfold Ready; kernel_rfl
noncomputable def sp_node_Size (F : Fs) (U : Us) : Specs := []
theorem ok_node_Size : SpecsOK Try.prog (sp_node_Size real us) := sp_nil
noncomputable def an_node_Size (F : Fs) (U : Us) (l : List D) : Anns := [(3, ⟨Nat × Int, fun s => F.pLe s.1 (F.lenD l) ∧ F.p0 s.2 ∧ F.pLeI s.2 (F.int 300004) ∧ F.mini s.2 (F.int 100000) = U.nsz l s.1, fun s => F.subn (F.lenD l) s.1, fun s => ⟨[(3, .i s.2), (6, .rb 2 (.ds (.t [.s, .s]) l)), (7, .i (F.int (F.lenD l))), (8, .i (F.int s.1))], []⟩⟩)]
noncomputable def g_node_Size (F : Fs) (U : Us) : Law
  | [.rb 2 (.ds (.t [.s, .s]) l)] => some (F.pLe (F.lenD l) 1000000000000, [.val (.i (U.nsz l (F.lenD l)))])
  | _ => none
noncomputable def s_node_Size (F : Fs) (U : Us) : Vc.Spec := pureSpec F false [.row (.kD (.t [.s, .s]))] (g_node_Size F U)
noncomputable def x_node_Size (F : Fs) (U : Us) : Cx := ⟨Try.f51.ntmps, tt F, sp_node_Size F U, [], [], [], []⟩
theorem c_node_Size (l : List D) (hc : real.pLe (real.lenD l) 1000000000000) : vc real (x_node_Size real us) (an_node_Size real us l) [] (Try.f51.body.getD .skip) ⟨zipSl 0 [.rb 2 (.ds (.t [.s, .s]) l)], [], 64⟩ (retOk real (tt real) false Try.f51.results.toList [.val (.i (us.nsz l (real.lenD l)))]) := by
  generalize hU : us = U
  generalize hF : real = F
  have hl : l.length ≤ 1000000000000 := hc
  cbv
  repeat' first | apply And.intro | refine Classical.or_iff_not_imp_left.2 (fun _ => ?_) | exact trivial
  all_goals try (subst hF hU; simp only [real, us, Nat.le_eq, Int.cast_ofNat_Int, decide_eq_false_iff_not, decide_eq_true_eq, List.length_take, List.length_drop, List.length_append, List.length_replicate, List.length_set, List.length_cons, List.length_nil, List.length_zipWith] at *; (try simp (disch := omega) only [wrap_sm] at *); omega)
  · refine ⟨((0, 3) : Nat × Int), ?_⟩
    cbv; subst hF hU
    exact ⟨⟨Nat.zero_le _, by show (0 : Int) ≤ 3; decide, by show (3 : Int) ≤ 300004; decide, rfl⟩, ⟨rfl, trivial⟩, trivial⟩
  · intro (s : Nat × Int) hs
    obtain ⟨i, n⟩ := s
    have hi : i ≤ l.length := by subst hF; exact hs.1
    have h0 : 0 ≤ n := by subst hF; exact hs.2.1
    have hn : F.mini n (F.int 100000) = U.nsz l i := hs.2.2.2
    clear hs
    cbv
    repeat' first | apply And.intro | refine Classical.or_iff_not_imp_left.2 (fun _ => ?_) | exact trivial
    all_goals try (subst hF hU; simp only [real, us, Nat.le_eq, Int.cast_ofNat_Int, decide_eq_false_iff_not, decide_eq_true_eq, List.length_take, List.length_drop, List.length_append, List.length_replicate, List.length_set, List.length_cons, List.length_nil, List.length_zipWith] at *; (try simp (disch := omega) only [wrap_sm] at *); omega)
    · rename_i h; subst hF hU; exact size_out l i n hi hn h
    · refine ⟨((i + 1, F.addi n (F.addi (F.addi (F.mini (F.int (F.lenB (F.dS (F.dF (F.getD l (F.nat (F.int i))) 0)))) (F.int 100000)) (F.mini (F.int (F.lenB (F.dS (F.dF (F.getD l (F.nat (F.int i))) 1)))) (F.int 100000))) (F.int 4))) : Nat × Int), ?_⟩
      rename_i g1 g2
      have hlt : i < l.length := by subst hF; exact lt_g g1
      have h1 : n ≤ 100000 := by subst hF; exact size_le g2
      cbv; subst hF hU
      have h := size_step l i n h0 h1 hn
      exact ⟨⟨hlt, h.1, h.2.1, h.2.2⟩, sub_stepN hlt, ⟨addi1 (by omega), trivial⟩, trivial⟩
    · rename_i g1
      have hge : l.length ≤ i := by subst hF; exact ge_g g1
      have e : i = l.length := by omega
      subst hF hU e
      exact hn
theorem k_node_Size : SpecOK Try.prog 51 (s_node_Size real us) := by
  refine pure_sound (x := x_node_Size real us) ⟨tt_ok, ok_node_Size, Go.Vc.ks_nil⟩ mixed Try.func51 rfl rfl (by kernel_rfl) ?_
  intro l c rs hg hc
  unfold g_node_Size at hg
  split at hg
  · cases hg; exact ⟨Nat.le_of_ble_eq_true rfl, an_node_Size real us _, [], c_node_Size _ hc⟩
  · cases hg

theorem eq8_t {a b : UInt8} (h : ¬ real.pB (real.eq8 a b) false) : a = b := by
  simp only [real, Bool.not_eq_false, beq_iff_eq] at h; exact h
theorem eq8_f {a b : UInt8} (h : ¬ real.pB (real.eq8 a b) true) : a ≠ b := by
  simp only [real, Bool.not_eq_true, beq_eq_false_iff_ne] at h; exact h
theorem c8_1 : real.ofI8 (real.int 1) = 1 := by decide
theorem c8_2 : real.ofI8 (real.int 2) = 2 := by decide
theorem kind_yes {b : List UInt8} (h : 0 < b.length) (hb : b.getD 0 0 = 1 ∨ b.getD 0 0 = 2) : real.wrapi (real.toI8 (real.getB b (real.nat (real.int 0)))) = us.kind b := by
  show IntKind.i64.wrap ((b.getD 0 0).toNat : Int) = u_kind b
  unfold u_kind
  rw [if_neg (by omega)]
  rcases hb with e | e
  · rw [e]; rfl
  · rw [e]; rfl
theorem kind_no {b : List UInt8} (h : b.length = 0 ∨ (b.getD 0 0 ≠ 1 ∧ b.getD 0 0 ≠ 2)) : real.int 0 = us.kind b := by
  show 0 = u_kind b
  unfold u_kind
  rcases h with e | e
  · rw [if_pos e]
  · split
    · rfl
    · rw [if_neg e.1, if_neg e.2]
theorem r_node_Kind : Ready Try.prog 58 := by unfold Ready; kernel_rfl
noncomputable def sp_node_Kind (F : Fs) (U : Us) : Specs := []
theorem ok_node_Kind : SpecsOK Try.prog (sp_node_Kind real us) := sp_nil
noncomputable def g_node_Kind (F : Fs) (U : Us) : Law
  | [.rb 1 (.bt b)] => some (True, [.val (.i (U.kind b))])
  | _ => none
noncomputable def s_node_Kind (F : Fs) (U : Us) : Vc.Spec := pureSpec F false [.row .kB] (g_node_Kind F U)
noncomputable def x_node_Kind (F : Fs) (U : Us) : Cx := ⟨Try.f58.ntmps, tt F, sp_node_Kind F U, [], [], [], []⟩
theorem c_node_Kind (b : List UInt8) : vc real (x_node_Kind real us) [] [] (Try.f58.body.getD .skip) ⟨zipSl 0 [.rb 1 (.bt b)], [], 64⟩ (retOk real (tt real) false Try.f58.results.toList [.val (.i (us.kind b))]) := by
  generalize hU : us = U
  generalize hF : real = F
  cbv
  repeat' first | apply And.intro | refine Classical.or_iff_not_imp_left.2 (fun _ => ?_) | exact trivial
  all_goals try (subst hF hU; simp only [real, us, Nat.le_eq, Int.cast_ofNat_Int, decide_eq_false_iff_not, decide_eq_true_eq, List.length_take, List.length_drop, List.length_append, List.length_replicate, List.length_set, List.length_cons, List.length_nil, List.length_zipWith] at *; (try simp (disch := omega) only [wrap_sm] at *); omega)
  · rename_i g1 _ g3; subst hF hU; exact kind_yes (lt_g (n := b.length) g1) (.inr ((eq8_t g3).trans c8_2))
  · rename_i g1 g2 g3; subst hF hU; exact kind_no (.inr ⟨fun e => eq8_f g2 (e.trans c8_1.symm), fun e => eq8_f g3 (e.trans c8_2.symm)⟩)
  · rename_i g1 g2; subst hF hU; exact kind_yes (lt_g (n := b.length) g1) (.inl ((eq8_t g2).trans c8_1))
  · rename_i g1; subst hF hU; exact kind_no (.inl (Nat.le_zero.1 (ge_g (n := b.length) g1)))
theorem k_node_Kind : SpecOK Try.prog 58 (s_node_Kind real us) := by
  refine pure_sound (x := x_node_Kind real us) ⟨tt_ok, ok_node_Kind, Go.Vc.ks_nil⟩ mixed Try.func58 rfl rfl (by kernel_rfl) ?_
  intro l c rs hg hc
  unfold g_node_Kind at hg
  split at hg
  · cases hg; exact ⟨Nat.le_of_ble_eq_true rfl, [], [], c_node_Kind _⟩
  · cases hg

end Go.Proofs.Ytmldccfchnlpgaa
set_option linter.unusedVariables false
set_option linter.unusedSimpArgs false
set_option maxRecDepth 100000
set_option maxHeartbeats 1000000
namespace Go.Proofs.Ytmldccfchnlpgaa
open Go Go.Vc
theorem okP_of {l : List D} : ∀ (n i : Nat), u_okN l n = true → i < n → u_okP l i = true
  | 0, i, _, h => by omega
  | n + 1, i, hn, h => by
    simp only [u_okN, Bool.and_eq_true] at hn
    by_cases e : i = n
    · rw [e]; exact hn.2
    · exact okP_of n i hn.1 (by omega)
theorem okN_le {l : List D} : ∀ (n i : Nat), u_okN l n = true → i ≤ n → u_okN l i = true
  | 0, i, hn, h => by rw [show i = 0 by omega]; rfl
  | n + 1, i, hn, h => by
    by_cases e : i = n + 1
    · rw [e]; exact hn
    · simp only [u_okN, Bool.and_eq_true] at hn
      exact okN_le n i hn.1 (by omega)
theorem okP_len {l : List D} {i : Nat} (h : u_okP l i = true) : 1 ≤ (pk l i).length ∧ (pk l i).length ≤ 60 ∧ (pv l i).length ≤ 150 := by
  simp only [u_okP, u_isKey, Bool.and_eq_true, decide_eq_true_eq] at h
  exact ⟨h.1.1.1, h.1.1.2, h.1.2⟩
theorem nsz_mono (l : List D) (i : Nat) : ∀ k, u_nsz l i ≤ u_nsz l (i + k)
  | 0 => Int.le_refl _
  | k + 1 => by
    have h := nsz_mono l i k
    have h2 := nsz_lo l (i + k)
    rw [← Nat.add_assoc, u_nsz]
    omega
theorem textN_len (x : List UInt8) (h : x.length ≤ 65535) : (u_text x).length = 2 + x.length := by
  have : (us.text x).length = 2 + x.length := by rw [text_eq x h]; simp; omega
  exact this
theorem leafP_len {l : List D} : ∀ (i : Nat), u_okN l i = true → u_nsz l i < 100000 → ((u_leafP l i).length : Int) = u_nsz l i
  | 0, _, _ => rfl
  | i + 1, h, hn => by
    simp only [u_okN, Bool.and_eq_true] at h
    have hk := okP_len h.2
    have h3 := nsz_mono l i 1
    have ih := leafP_len i h.1 (by omega)
    rw [u_nsz] at hn ⊢
    rw [u_leafP, List.length_append, List.length_append, textN_len _ (by omega), textN_len _ (by omega)]
    omega
theorem leaf_90 {l : List D} {i : Nat} (hi : i < l.length) (h : u_okP l i = false) : us.leafB l = [] ∧ real.int 90 = us.leafE l := by
  have h1 : u_okN l l.length = false := by
    cases e : u_okN l l.length with
    | false => rfl
    | true => rw [okP_of _ i e hi] at h; cases h
  have h2 : u_leafE l = 90 := by unfold u_leafE; rw [if_pos h1]
  refine ⟨?_, h2.symm⟩
  show u_leafB l = []
  unfold u_leafB
  rw [h2]; rfl
theorem leaf_11 {l : List D} (h : u_okN l l.length = true) (hs : ¬ real.pB (real.lti (real.int 480) (us.nsz l (real.lenD l))) false) : us.leafB l = [] ∧ real.int 11 = us.leafE l := by
  have h1 : 480 < u_nsz l l.length := by
    simp only [real, Bool.not_eq_false, decide_eq_true_eq] at hs
    exact hs
  have h2 : u_leafE l = 11 := by unfold u_leafE; rw [if_neg (by rw [h]; simp), if_pos h1]
  refine ⟨?_, h2.symm⟩
  show u_leafB l = []
  unfold u_leafB
  rw [h2]; rfl
theorem leaf_sz {l : List D} (hs : ¬ real.pB (real.lti (real.int 480) (us.nsz l (real.lenD l))) true) : u_nsz l l.length ≤ 480 := by
  simp only [real, Bool.not_eq_true, decide_eq_false_iff_not] at hs
  have : ¬ ((480 : Int) < u_nsz l l.length) := hs
  omega
theorem leaf_0 {l : List D} (h : u_okN l l.length = true) (hs : u_nsz l l.length ≤ 480) : us.leafP l l.length = us.leafB l ∧ real.int 0 = us.leafE l := by
  have h2 : u_leafE l = 0 := by unfold u_leafE; rw [if_neg (by rw [h]; simp), if_neg (by omega)]
  refine ⟨?_, h2.symm⟩
  show u_leafP l l.length = u_leafB l
  unfold u_leafB
  rw [if_pos h2]
theorem not_key {l : List D} {i : Nat} (h : ¬ real.pB (real.notb (us.isKey (pkM l i))) false) : u_okP l i = false := by
  have : u_isKey (pk l i) = false := by
    have h2 : ¬ (!(u_isKey (pk l i))) = false := h
    simpa using h2
  unfold u_okP
  rw [this]; rfl
theorem is_key {l : List D} {i : Nat} (h : ¬ real.pB (real.notb (us.isKey (pkM l i))) true) : u_isKey (pk l i) = true := by
  simp only [real] at h
  have h2 : ¬ (!(u_isKey (pk l i))) = true := h
  simpa using h2
theorem not_val {l : List D} {i : Nat} (h : ¬ real.pB (real.lti (real.int 150) (real.int (real.lenB (pvM l i)))) false) : u_okP l i = false := by
  have h1 : 150 < (pv l i).length := lt_g h
  unfold u_okP
  rw [decide_eq_false (by omega), Bool.and_false, Bool.false_and]
theorem is_val {l : List D} {i : Nat} (h : ¬ real.pB (real.lti (real.int 150) (real.int (real.lenB (pvM l i)))) true) : (pv l i).length ≤ 150 := ge_g h
def pkP (l : List D) (i : Nat) : List UInt8 := real.dS (real.dF (real.getD l (real.nat (real.subi (real.int i) (real.int 1)))) 0)
theorem pkP_eq {l : List D} {i : Nat} (h : 0 < i) (hi : i ≤ 1000000000000) : pkP l i = pk l (i - 1) := by
  unfold pkP
  rw [subiN (by omega) (by omega)]
  rfl
theorem not_ord {l : List D} {i : Nat} (hi : i ≤ 1000000000000) (h0 : ¬ real.pB (real.lti (real.int 0) (real.int i)) false) (h : ¬ real.pB (real.notb (real.ltS (pkP l i) (pkM l i))) false) : u_okP l i = false := by
  have h1 := lt_g h0
  rw [pkP_eq h1 hi] at h
  have h2 : real.ltS (pk l (i - 1)) (pk l i) = false := by
    have h3 : ¬ (!(real.ltS (pk l (i - 1)) (pk l i))) = false := h
    simpa using h3
  have h4 : decide (i = 0) = false := decide_eq_false (by omega)
  unfold u_okP
  rw [h2, h4]
  simp
theorem is_ord {l : List D} {i : Nat} (hi : i ≤ 1000000000000) (h0 : ¬ real.pB (real.lti (real.int 0) (real.int i)) false) (h : ¬ real.pB (real.notb (real.ltS (pkP l i) (pkM l i))) true) : real.ltS (pk l (i - 1)) (pk l i) = true := by
  have h1 := lt_g h0
  rw [pkP_eq h1 hi] at h
  have h3 : ¬ (!(real.ltS (pk l (i - 1)) (pk l i))) = true := h
  simpa using h3
theorem okN_step {l : List D} {i : Nat} (h : u_okN l i = true) (hk : u_isKey (pk l i) = true) (hv : (pv l i).length ≤ 150) (ho : i = 0 ∨ real.ltS (pk l (i - 1)) (pk l i) = true) : us.okN l (i + 1) = true := by
  show (u_okN l i && u_okP l i) = true
  unfold u_okP
  rw [h, hk, decide_eq_true hv]
  rcases ho with e | e
  · rw [decide_eq_true e]; rfl
  · rw [e, Bool.or_true]; rfl
theorem okN_zero (l : List D) : real.pB (us.okN l 0) true := rfl
theorem leafP_zero {l : List D} (h : l.length ≤ 1000000000000) : real.appB [real.ofI8 (real.int 1)] (us.put (real.ofI64 (real.int (real.lenD l))) (real.int 2)) = us.leafP l 0 := by
  have e : real.ofI64 (real.int (real.lenD l)) = UInt64.ofNat l.length := by
    show UInt64.ofNat ((l.length : Int) % 2 ^ 64).toNat = _
    congr 1
    omega
  rw [e, c8_1]
  rfl
theorem leaf_fitP {l : List D} {j : Nat} (h : u_okN l l.length = true) (hs : u_nsz l l.length ≤ 480) (hj : j ≤ l.length) : real.pLe (real.lenB (us.leafP l j)) 900000 := by
  have hok := okN_le _ j h hj
  have hm := nsz_mono l j (l.length - j)
  rw [show j + (l.length - j) = l.length by omega] at hm
  have hpl := leafP_len j hok (by omega)
  show (u_leafP l j).length ≤ 900000
  omega
theorem leaf_fit {l : List D} {j : Nat} (h : u_okN l l.length = true) (hs : u_nsz l l.length ≤ 480) (hj : j < l.length) : real.pLe (real.lenB (pkM l j)) 1000000 ∧ real.pLe (real.lenB (pvM l j)) 1000000 ∧ real.pLe (real.lenB (real.appB (us.leafP l j) (us.text (pkM l j)))) 900000 := by
  have hk := okP_len (okP_of _ j h hj)
  have hok := okN_le _ j h (Nat.le_of_lt hj)
  have hm := nsz_mono l j (l.length - j)
  rw [show j + (l.length - j) = l.length by omega] at hm
  have hpl := leafP_len j hok (by omega)
  refine ⟨?_, ?_, ?_⟩
  · show (pk l j).length ≤ 1000000; omega
  · show (pv l j).length ≤ 1000000; omega
  · show (u_leafP l j ++ u_text (pk l j)).length ≤ 900000
    rw [List.length_append, textN_len _ (by omega)]; omega
theorem leafP_step {l : List D} {i : Nat} : real.appB (real.appB (us.leafP l i) (us.text (pkM l i))) (us.text (pvM l i)) = us.leafP l (i + 1) := rfl
end Go.Proofs.Ytmldccfchnlpgaa
namespace Go.Proofs.Ytmldccfchnlpgaa
open Go Go.Vc
attribute [local irreducible] u_leafB u_leafE u_leafP u_okN u_okP u_nsz u_isKey
theorem r_node_Leaf : Ready Try.prog 49 := by unfold Ready; kernel_rfl
noncomputable def sp_node_Leaf (F : Fs) (U : Us) : Specs := [(105, s_node_isKey F U), (51, s_node_Size F U), (106, s_bits_Put F U), (107, s_bits_Text F U)]
theorem ok_node_Leaf : SpecsOK Try.prog (sp_node_Leaf real us) := sp_cons r_node_isKey k_node_isKey (sp_cons r_node_Size k_node_Size (sp_cons r_bits_Put k_bits_Put (sp_cons r_bits_Text k_bits_Text sp_nil)))
noncomputable def an_node_Leaf (F : Fs) (U : Us) (l : List D) : Anns := [(2, ⟨Nat, fun i => F.pLe i (F.lenD l) ∧ F.pB (U.okN l i) true, fun i => F.subn (F.lenD l) i, fun i => ⟨[(0, .rb 2 (.ds (.t [.s, .s]) l)), (9, .rb 2 (.ds (.t [.s, .s]) l)), (10, .i (F.int (F.lenD l))), (11, .i (F.int i))], []⟩⟩),
  (11, ⟨Nat, fun i => F.pLe i (F.lenD l), fun i => F.subn (F.lenD l) i, fun i => ⟨[(6, .rw 5), (50, .rb 2 (.ds (.t [.s, .s]) l)), (51, .i (F.int (F.lenD l))), (52, .i (F.int i))], [(6, 5, .row 5 1 (.bt (U.leafP l i)))]⟩⟩)]
noncomputable def g_node_Leaf (F : Fs) (U : Us) : Law
  | [.rb 2 (.ds (.t [.s, .s]) l)] => some (F.pLe (F.lenD l) 1000000000000, [.row 5 1 (.bt (U.leafB l)), .val (.i (U.leafE l))])
  | _ => none
noncomputable def s_node_Leaf (F : Fs) (U : Us) : Vc.Spec := pureSpec F false [.row (.kD (.t [.s, .s]))] (g_node_Leaf F U)
noncomputable def x_node_Leaf (F : Fs) (U : Us) : Cx := ⟨Try.f49.ntmps, tt F, sp_node_Leaf F U, [], [(4, ([(21, [17, 19])], [])), (13, ([(5, [2, 3])], [(3, [4000]), (6, [3])]))], [], []⟩
theorem c_node_Leaf (l : List D) (hc : real.pLe (real.lenD l) 1000000000000) : vc real (x_node_Leaf real us) (an_node_Leaf real us l) [] (Try.f49.body.getD .skip) ⟨zipSl 0 [.rb 2 (.ds (.t [.s, .s]) l)], [], 64⟩ (retOk real (tt real) false Try.f49.results.toList [.row 5 1 (.bt (us.leafB l)), .val (.i (us.leafE l))]) := by
  generalize hU : us = U
  generalize hF : real = F
  have hl : l.length ≤ 1000000000000 := hc
  cbv
  repeat' first | apply And.intro | refine Classical.or_iff_not_imp_left.2 (fun _ => ?_) | exact trivial
  all_goals try (subst hF hU; simp only [real, us, Nat.le_eq, Int.cast_ofNat_Int, decide_eq_false_iff_not, decide_eq_true_eq, List.length_take, List.length_drop, List.length_append, List.length_replicate, List.length_set, List.length_cons, List.length_nil, List.length_zipWith] at *; (try simp (disch := omega) only [wrap_sm] at *); omega)
  · refine ⟨(0 : Nat), ?_⟩
    cbv; subst hF hU
    exact ⟨⟨Nat.zero_le _, okN_zero l⟩, trivial⟩
  · intro (i : Nat) hi
    have h1 : i ≤ l.length := by subst hF; exact hi.1
    have h2 : u_okN l i = true := by subst hF hU; exact hi.2
    clear hi
    cbv
    repeat' first | apply And.intro | refine Classical.or_iff_not_imp_left.2 (fun _ => ?_) | exact trivial
    all_goals try (subst hF hU; simp only [real, us, Nat.le_eq, Int.cast_ofNat_Int, decide_eq_false_iff_not, decide_eq_true_eq, List.length_take, List.length_drop, List.length_append, List.length_replicate, List.length_set, List.length_cons, List.length_nil, List.length_zipWith] at *; (try simp (disch := omega) only [wrap_sm] at *); omega)
    · rename_i g1 _ _ g4 g5; subst hF hU; exact (leaf_90 (lt_g g1) (not_ord (by omega) g4 g5)).1
    · rename_i g1 _ _ g4 g5; subst hF hU; exact (leaf_90 (lt_g g1) (not_ord (by omega) g4 g5)).2
    · rename_i g1 g2 g3 g4 g5
      refine ⟨(i + 1 : Nat), ?_⟩
      cbv; subst hF hU
      have hlt := lt_g (n := l.length) g1
      exact ⟨⟨hlt, okN_step h2 (is_key g2) (is_val g3) (.inr (is_ord (by omega) g4 g5))⟩, sub_stepN hlt, ⟨addi1 (by omega), trivial⟩, trivial⟩
    · rename_i g1 g2 g3 g4
      refine ⟨(i + 1 : Nat), ?_⟩
      cbv; subst hF hU
      have hlt := lt_g (n := l.length) g1
      exact ⟨⟨hlt, okN_step h2 (is_key g2) (is_val g3) (.inl (Nat.le_zero.1 (ge_g g4)))⟩, sub_stepN hlt, ⟨addi1 (by omega), trivial⟩, trivial⟩
    · rename_i g1 _ g3; subst hF hU; exact (leaf_90 (lt_g g1) (not_val g3)).1
    · rename_i g1 _ g3; subst hF hU; exact (leaf_90 (lt_g g1) (not_val g3)).2
    · rename_i g1 g2; subst hF hU; exact (leaf_90 (lt_g g1) (not_key g2)).1
    · rename_i g1 g2; subst hF hU; exact (leaf_90 (lt_g g1) (not_key g2)).2
    · rename_i g1 g2
      subst hF hU
      have e : i = l.length := by have := ge_g (n := l.length) g1; omega
      subst e; exact (leaf_11 h2 g2).1
    · rename_i g1 g2
      subst hF hU
      have e : i = l.length := by have := ge_g (n := l.length) g1; omega
      subst e; exact (leaf_11 h2 g2).2
    · refine ⟨(0 : Nat), ?_⟩
      cbv; subst hF hU
      exact ⟨Nat.zero_le _, leafP_zero hl, trivial⟩
    · rename_i g1 g2
      have e : i = l.length := by subst hF; have := ge_g (n := l.length) g1; omega
      have hs : u_nsz l l.length ≤ 480 := by subst hF hU; exact leaf_sz g2
      subst e
      clear g1 g2 h1
      intro (j : Nat) hj
      have h1 : j ≤ l.length := by subst hF; exact hj
      clear hj
      have hok := okN_le _ j h2 h1
      have hm := nsz_mono l j (l.length - j)
      rw [show j + (l.length - j) = l.length by omega] at hm
      have hpl := leafP_len j hok (by omega)
      cbv
      repeat' first | apply And.intro | refine Classical.or_iff_not_imp_left.2 (fun _ => ?_) | exact trivial
      all_goals try (subst hF hU; simp only [real, us, Nat.le_eq, Int.cast_ofNat_Int, decide_eq_false_iff_not, decide_eq_true_eq, List.length_take, List.length_drop, List.length_append, List.length_replicate, List.length_set, List.length_cons, List.length_nil, List.length_zipWith] at *; (try simp (disch := omega) only [wrap_sm] at *); omega)
      · rename_i g1; subst hF hU; exact (leaf_fit h2 hs (lt_g g1)).1
      · subst hF hU; exact leaf_fitP h2 hs h1
      · rename_i g1; subst hF hU; exact (leaf_fit h2 hs (lt_g g1)).2.1
      · rename_i g1; subst hF hU; exact (leaf_fit h2 hs (lt_g g1)).2.2
      · rename_i g1
        refine ⟨(j + 1 : Nat), ?_⟩
        cbv; subst hF hU
        have hlt := lt_g (n := l.length) g1
        exact ⟨hlt, sub_stepN hlt, ⟨addi1 (by omega), trivial⟩, leafP_step, trivial⟩
      · rename_i g1; subst hF hU
        have e : j = l.length := by have := ge_g (n := l.length) g1; omega
        subst e; exact (leaf_0 h2 hs).1
      · subst hF hU; exact (leaf_0 h2 hs).2
theorem k_node_Leaf : SpecOK Try.prog 49 (s_node_Leaf real us) := by
  refine pure_sound (x := x_node_Leaf real us) ⟨tt_ok, ok_node_Leaf, Go.Vc.ks_nil⟩ mixed Try.func49 rfl rfl (by kernel_rfl) ?_
  intro l c rs hg hc
  unfold g_node_Leaf at hg
  split at hg
  · cases hg; exact ⟨Nat.le_of_ble_eq_true rfl, an_node_Leaf real us _, [], c_node_Leaf _ hc⟩
  · cases hg

end Go.Proofs.Ytmldccfchnlpgaa
set_option linter.unusedVariables false
set_option linter.unusedSimpArgs false
set_option maxRecDepth 100000
set_option maxHeartbeats 1000000
namespace Go.Proofs.Ytmldccfchnlpgaa
open Go Go.Vc
theorem okQ_of {l : List (List UInt8)} : ∀ (n i : Nat), u_okK l n = true → i < n → u_okQ l i = true
  | 0, i, _, h => by omega
  | n + 1, i, hn, h => by
    simp only [u_okK, Bool.and_eq_true] at hn
    by_cases e : i = n
    · rw [e]; exact hn.2
    · exact okQ_of n i hn.1 (by omega)
theorem okK_le {l : List (List UInt8)} : ∀ (n i : Nat), u_okK l n = true → i ≤ n → u_okK l i = true
  | 0, i, hn, h => by rw [show i = 0 by omega]; rfl
  | n + 1, i, hn, h => by
    by_cases e : i = n + 1
    · rw [e]; exact hn
    · simp only [u_okK, Bool.and_eq_true] at hn
      exact okK_le n i hn.1 (by omega)
theorem okQ_len {l : List (List UInt8)} {i : Nat} (h : u_okQ l i = true) : 1 ≤ (l.getD i []).length ∧ (l.getD i []).length ≤ 60 := by
  simp only [u_okQ, u_isKey, Bool.and_eq_true, decide_eq_true_eq] at h
  exact ⟨h.1.1, h.1.2⟩
theorem bsz_lo (l : List (List UInt8)) : ∀ i, 7 ≤ u_bsz l i ∧ u_bsz l i ≤ 100000
  | 0 => by simp [u_bsz]
  | i + 1 => by
    have h := bsz_lo l i
    simp only [u_bsz]
    omega
theorem bsz_mono (l : List (List UInt8)) (i : Nat) : ∀ k, u_bsz l i ≤ u_bsz l (i + k)
  | 0 => Int.le_refl _
  | k + 1 => by
    have h := bsz_mono l i k
    have h2 := bsz_lo l (i + k)
    rw [← Nat.add_assoc, u_bsz]
    omega
theorem brP_len {l : List (List UInt8)} : ∀ (i : Nat), u_okK l i = true → u_bsz l i < 100000 → ((u_brP l i).length : Int) + 4 * i + 4 = u_bsz l i
  | 0, _, _ => rfl
  | i + 1, h, hn => by
    simp only [u_okK, Bool.and_eq_true] at h
    have hk := okQ_len h.2
    have h3 := bsz_mono l i 1
    have ih := brP_len i h.1 (by omega)
    rw [u_bsz] at hn ⊢
    rw [u_brP, List.length_append, textN_len _ (by omega)]
    omega
theorem putBig_len (x : UInt32) : (u_putBig x).length = 4 := rfl
theorem brR_len (l : List (List UInt8)) (kids : List UInt32) : ∀ i, (u_brR l kids i).length = (u_brP l l.length).length + 4 * i
  | 0 => rfl
  | i + 1 => by rw [u_brR, List.length_append, brR_len l kids i, putBig_len]; omega
def ksM (l : List (List UInt8)) (i : Nat) : List UInt8 := real.getS l (real.nat (real.int i))
def ksP (l : List (List UInt8)) (i : Nat) : List UInt8 := real.getS l (real.nat (real.subi (real.int i) (real.int 1)))
theorem ksP_eq {l : List (List UInt8)} {i : Nat} (h : 0 < i) (hi : i ≤ 1000000000000) : ksP l i = l.getD (i - 1) [] := by
  unfold ksP
  rw [subiN (by omega) (by omega)]
  rfl
theorem br_90 {l : List (List UInt8)} {kids : List UInt32} (h : l.length = 0 ∨ kids.length ≠ l.length + 1 ∨ u_okK l l.length = false) : us.brB l kids = [] ∧ real.int 90 = us.brE l kids := by
  have h2 : u_brE l kids = 90 := by unfold u_brE; rw [if_pos h]
  refine ⟨?_, h2.symm⟩
  show u_brB l kids = []
  unfold u_brB
  rw [h2]; rfl
theorem br_bad {l : List (List UInt8)} {kids : List UInt32} {i : Nat} (hi : i < l.length) (h : u_okQ l i = false) : us.brB l kids = [] ∧ real.int 90 = us.brE l kids := by
  refine br_90 (.inr (.inr ?_))
  cases e : u_okK l l.length with
  | false => rfl
  | true => rw [okQ_of _ i e hi] at h; cases h
theorem br_none {l : List (List UInt8)} {kids : List UInt32} (h : ¬ real.pB (real.eqi (real.int (real.lenS l)) (real.int 0)) false) : us.brB l kids = [] ∧ real.int 90 = us.brE l kids := by
  refine br_90 (.inl ?_)
  have h1 : ¬ (((l.length : Int) == 0) = false) := h
  simpa using h1
theorem br_some {l : List (List UInt8)} (h : ¬ real.pB (real.eqi (real.int (real.lenS l)) (real.int 0)) true) : l.length ≠ 0 := by
  have h1 : ¬ (((l.length : Int) == 0) = true) := h
  simpa using h1
theorem br_kids {l : List (List UInt8)} {kids : List UInt32} (hk : kids.length ≤ 1000000000000) (h : ¬ real.pB (real.notb (real.eqi (real.subi (real.int (real.lenW kids)) (real.int 1)) (real.int (real.lenS l)))) true) : kids.length = l.length + 1 := by
  have e : real.subi (real.int (real.lenW kids)) (real.int 1) = (kids.length : Int) - 1 := by
    show IntKind.i64.wrap ((kids.length : Int) - 1) = _
    rw [wrap_sm (by omega) (by omega)]
  rw [e] at h
  have h1 : ¬ ((!(((kids.length : Int) - 1) == (l.length : Int))) = true) := h
  simp at h1
  omega
theorem br_nokids {l : List (List UInt8)} {kids : List UInt32} (hk : kids.length ≤ 1000000000000) (h : ¬ real.pB (real.notb (real.eqi (real.subi (real.int (real.lenW kids)) (real.int 1)) (real.int (real.lenS l)))) false) : us.brB l kids = [] ∧ real.int 90 = us.brE l kids := by
  refine br_90 (.inr (.inl ?_))
  have e : real.subi (real.int (real.lenW kids)) (real.int 1) = (kids.length : Int) - 1 := by
    show IntKind.i64.wrap ((kids.length : Int) - 1) = _
    rw [wrap_sm (by omega) (by omega)]
  rw [e] at h
  have h1 : ¬ ((!(((kids.length : Int) - 1) == (l.length : Int))) = false) := h
  simp at h1
  omega
theorem not_keyS {l : List (List UInt8)} {i : Nat} (h : ¬ real.pB (real.notb (us.isKey (ksM l i))) false) : u_okQ l i = false := by
  have : u_isKey (l.getD i []) = false := by
    have h2 : ¬ (!(u_isKey (l.getD i []))) = false := h
    simpa using h2
  unfold u_okQ
  rw [this]; rfl
theorem is_keyS {l : List (List UInt8)} {i : Nat} (h : ¬ real.pB (real.notb (us.isKey (ksM l i))) true) : u_isKey (l.getD i []) = true := by
  have h2 : ¬ (!(u_isKey (l.getD i []))) = true := h
  simpa using h2
theorem not_ordS {l : List (List UInt8)} {i : Nat} (hi : i ≤ 1000000000000) (h0 : ¬ real.pB (real.lti (real.int 0) (real.int i)) false) (h : ¬ real.pB (real.notb (real.ltS (ksP l i) (ksM l i))) false) : u_okQ l i = false := by
  have h1 := lt_g h0
  rw [ksP_eq h1 hi] at h
  have h2 : real.ltS (l.getD (i - 1) []) (l.getD i []) = false := by
    have h3 : ¬ (!(real.ltS (l.getD (i - 1) []) (l.getD i []))) = false := h
    simpa using h3
  have h4 : decide (i = 0) = false := decide_eq_false (by omega)
  unfold u_okQ
  rw [h2, h4]
  simp
theorem is_ordS {l : List (List UInt8)} {i : Nat} (hi : i ≤ 1000000000000) (h0 : ¬ real.pB (real.lti (real.int 0) (real.int i)) false) (h : ¬ real.pB (real.notb (real.ltS (ksP l i) (ksM l i))) true) : real.ltS (l.getD (i - 1) []) (l.getD i []) = true := by
  have h1 := lt_g h0
  rw [ksP_eq h1 hi] at h
  have h3 : ¬ (!(real.ltS (l.getD (i - 1) []) (l.getD i []))) = true := h
  simpa using h3
theorem okK_step {l : List (List UInt8)} {i : Nat} (h : u_okK l i = true) (hk : u_isKey (l.getD i []) = true) (ho : i = 0 ∨ real.ltS (l.getD (i - 1) []) (l.getD i []) = true) : us.okK l (i + 1) = true := by
  show (u_okK l i && u_okQ l i) = true
  unfold u_okQ
  rw [h, hk]
  rcases ho with e | e
  · rw [decide_eq_true e]; rfl
  · rw [e, Bool.or_true]; rfl
theorem okK_zero (l : List (List UInt8)) : real.pB (us.okK l 0) true := rfl
theorem bsz_zero (l : List (List UInt8)) : real.int 7 = us.bsz l 0 := rfl
theorem bsz_step {l : List (List UInt8)} {i : Nat} (hk : u_isKey (l.getD i []) = true) : real.mini (real.addi (real.addi (real.addi (us.bsz l i) (real.int (real.lenB (ksM l i)))) (real.int 2)) (real.int 4)) (real.int 100000) = us.bsz l (i + 1) := by
  have h := bsz_lo l i
  have h2 : (l.getD i []).length ≤ 60 := by
    simp only [u_isKey, Bool.and_eq_true, decide_eq_true_eq] at hk
    exact hk.2
  have e1 : real.addi (us.bsz l i) (real.int (real.lenB (ksM l i))) = u_bsz l i + ((l.getD i []).length : Int) := by
    show IntKind.i64.wrap (u_bsz l i + ((l.getD i []).length : Int)) = _
    rw [wrap_sm (by omega) (by omega)]
  have e2 : real.addi (u_bsz l i + ((l.getD i []).length : Int)) (real.int 2) = u_bsz l i + ((l.getD i []).length : Int) + 2 := by
    show IntKind.i64.wrap (u_bsz l i + ((l.getD i []).length : Int) + 2) = _
    rw [wrap_sm (by omega) (by omega)]
  have e3 : real.addi (u_bsz l i + ((l.getD i []).length : Int) + 2) (real.int 4) = u_bsz l i + ((l.getD i []).length : Int) + 2 + 4 := by
    show IntKind.i64.wrap (u_bsz l i + ((l.getD i []).length : Int) + 2 + 4) = _
    rw [wrap_sm (by omega) (by omega)]
  rw [e1, e2, e3, min_r]
  rfl
theorem br_11 {l : List (List UInt8)} {kids : List UInt32} (h0 : l.length ≠ 0) (hk : kids.length = l.length + 1) (h : u_okK l l.length = true) (hs : ¬ real.pB (real.lti (real.int 480) (us.bsz l l.length)) false) : us.brB l kids = [] ∧ real.int 11 = us.brE l kids := by
  have h1 : 480 < u_bsz l l.length := by
    simp only [real, Bool.not_eq_false, decide_eq_true_eq] at hs
    exact hs
  have hn : ¬ (l.length = 0 ∨ kids.length ≠ l.length + 1 ∨ u_okK l l.length = false) := by
    rintro (e | e | e)
    · exact h0 e
    · exact e hk
    · rw [h] at e; cases e
  have h2 : u_brE l kids = 11 := by unfold u_brE; rw [if_neg hn, if_pos h1]
  refine ⟨?_, h2.symm⟩
  show u_brB l kids = []
  unfold u_brB
  rw [h2]; rfl
theorem br_sz {l : List (List UInt8)} (hs : ¬ real.pB (real.lti (real.int 480) (us.bsz l l.length)) true) : u_bsz l l.length ≤ 480 := by
  simp only [real, Bool.not_eq_true, decide_eq_false_iff_not] at hs
  have : ¬ ((480 : Int) < u_bsz l l.length) := hs
  omega
theorem br_0 {l : List (List UInt8)} {kids : List UInt32} (h0 : l.length ≠ 0) (hk : kids.length = l.length + 1) (h : u_okK l l.length = true) (hs : u_bsz l l.length ≤ 480) : u_brE l kids = 0 ∧ u_brR l kids kids.length = u_brB l kids := by
  have hn : ¬ (l.length = 0 ∨ kids.length ≠ l.length + 1 ∨ u_okK l l.length = false) := by
    rintro (e | e | e)
    · exact h0 e
    · exact e hk
    · rw [h] at e; cases e
  have h2 : u_brE l kids = 0 := by unfold u_brE; rw [if_neg hn, if_neg (by omega)]
  refine ⟨h2, ?_⟩
  unfold u_brB
  rw [if_pos h2]
theorem br_end {l : List (List UInt8)} {kids : List UInt32} (h0 : l.length ≠ 0) (hk : kids.length = l.length + 1) (h : u_okK l l.length = true) (hs : u_bsz l l.length ≤ 480) : us.brQ l kids kids.length = us.brB l kids ∧ real.int 0 = us.brE l kids := by
  obtain ⟨h1, h2⟩ := br_0 h0 hk h hs
  refine ⟨?_, h1.symm⟩
  show u_brQ l kids kids.length = u_brB l kids
  unfold u_brQ
  rw [Nat.sub_self, Nat.mul_zero, List.replicate_zero, List.append_nil, h2]
theorem brP_zero {l : List (List UInt8)} (h : l.length ≤ 1000000000000) : real.appB [real.ofI8 (real.int 2)] (us.put (real.ofI64 (real.int (real.lenS l))) (real.int 2)) = us.brP l 0 := by
  have e : real.ofI64 (real.int (real.lenS l)) = UInt64.ofNat l.length := by
    show UInt64.ofNat ((l.length : Int) % 2 ^ 64).toNat = _
    congr 1
    omega
  rw [e, c8_2]
  rfl
theorem brP_step {l : List (List UInt8)} {i : Nat} : real.appB (us.brP l i) (us.text (ksM l i)) = us.brP l (i + 1) := rfl
theorem muli4 {n : Nat} (h : n ≤ 1000000000000) : real.muli (real.int 4) (real.int n) = real.int (4 * n) := by
  show IntKind.i64.wrap (4 * (n : Int)) = ((4 * n : Nat) : Int)
  rw [wrap_sm (by omega) (by omega)]; omega
theorem brQ_zero {l : List (List UInt8)} {kids : List UInt32} (hk : kids.length ≤ 1000000000000) : real.appB (us.brP l l.length) (real.repB (real.nat (real.muli (real.int 4) (real.int (real.lenW kids))))) = us.brQ l kids 0 := by
  have e : real.nat (real.muli (real.int 4) (real.int (real.lenW kids))) = 4 * kids.length := by
    show real.nat (real.muli (real.int 4) (real.int kids.length)) = _
    rw [muli4 hk]; rfl
  rw [e]
  show u_brP l l.length ++ List.replicate (4 * kids.length) 0 = u_brR l kids 0 ++ List.replicate (4 * (kids.length - 0)) 0
  rw [Nat.sub_zero]; rfl
theorem brQ_len (l : List (List UInt8)) (kids : List UInt32) (i : Nat) (h : i ≤ kids.length) : (u_brQ l kids i).length = (u_brP l l.length).length + 4 * kids.length := by
  unfold u_brQ
  rw [List.length_append, brR_len, List.length_replicate]; omega
/-- where the i-th kid stands -/
theorem at_eq {l : List (List UInt8)} {i : Nat} (hl : (u_brP l l.length).length ≤ 1000) (hi : i ≤ 1000) : real.addi (real.int (real.lenB (us.brP l l.length))) (real.muli (real.int 4) (real.int i)) = real.int ((u_brP l l.length).length + 4 * i) := by
  rw [muli4 (by omega)]
  exact addiN (i := (u_brP l l.length).length) (by omega) (by omega)
theorem splice4 (o f : List UInt8) (a : Nat) (ho : a + 4 ≤ o.length) (hf : f.length = 4) (n : Nat) (hn : n = o.length - a) : real.splB o a (real.cutB (real.cutB f 0 4) 0 (real.minn (real.lenB (real.cutB f 0 4)) n)) = o.take a ++ f ++ o.drop (a + 4) := by
  have e1 : real.cutB f 0 4 = f := by
    show List.take 4 (List.drop 0 f) = f
    rw [List.drop_zero, List.take_of_length_le (by omega)]
  rw [e1]
  have e2 : real.minn (real.lenB f) n = 4 := by show min f.length n = 4; omega
  rw [e2, e1]
  show o.take a ++ f ++ o.drop (a + f.length) = _
  rw [hf]
theorem brQ_stepN {l : List (List UInt8)} {kids : List UInt32} {i : Nat} (h : i < kids.length) : (u_brQ l kids i).take ((u_brP l l.length).length + 4 * i) ++ u_putBig (kids.getD i 0) ++ (u_brQ l kids i).drop ((u_brP l l.length).length + 4 * i + 4) = u_brQ l kids (i + 1) := by
  have hl := brR_len l kids i
  unfold u_brQ
  rw [← hl, List.take_left, List.drop_append, List.drop_eq_nil_of_le (by omega), List.nil_append, show (u_brR l kids i).length + 4 - (u_brR l kids i).length = 4 by omega, List.drop_replicate, show 4 * (kids.length - i) - 4 = 4 * (kids.length - (i + 1)) by omega]
  rfl
theorem br_fitP {l : List (List UInt8)} {j : Nat} (h : u_okK l l.length = true) (hs : u_bsz l l.length ≤ 480) (hj : j ≤ l.length) : real.pLe (real.lenB (us.brP l j)) 900000 := by
  have hok := okK_le _ j h hj
  have hm := bsz_mono l j (l.length - j)
  rw [show j + (l.length - j) = l.length by omega] at hm
  have hpl := brP_len j hok (by omega)
  show (u_brP l j).length ≤ 900000
  omega
theorem br_fit {l : List (List UInt8)} {j : Nat} (h : u_okK l l.length = true) (hj : j < l.length) : real.pLe (real.lenB (ksM l j)) 1000000 := by
  have hk := okQ_len (okQ_of _ j h hj)
  show (l.getD j []).length ≤ 1000000
  omega
theorem br_small {l : List (List UInt8)} (h : u_okK l l.length = true) (hs : u_bsz l l.length ≤ 480) : (u_brP l l.length).length + 4 * l.length + 4 ≤ 480 := by
  have hpl := brP_len l.length h (by omega)
  omega
theorem br_zeros {l : List (List UInt8)} {kids : List UInt32} (h : u_okK l l.length = true) (hs : u_bsz l l.length ≤ 480) (hk : kids.length = l.length + 1) : real.p0 (real.muli (real.int 4) (real.int (real.lenW kids))) ∧ real.pMk (real.muli (real.int 4) (real.int (real.lenW kids))) 1 := by
  have h1 := br_small h hs
  have e : real.muli (real.int 4) (real.int (real.lenW kids)) = ((4 * kids.length : Nat) : Int) := muli4 (n := kids.length) (by omega)
  rw [e]
  exact ⟨Int.natCast_nonneg _, Int.natCast_nonneg _, by omega, by omega⟩
theorem br_pos {l : List (List UInt8)} {kids : List UInt32} {i : Nat} (h : u_okK l l.length = true) (hs : u_bsz l l.length ≤ 480) (hk : kids.length = l.length + 1) (hi : i < kids.length) :
    real.p0 (real.addi (real.int (real.lenB (us.brP l (real.lenS l)))) (real.muli (real.int 4) (real.int i))) ∧ real.pLe (real.nat (real.addi (real.int (real.lenB (us.brP l (real.lenS l)))) (real.muli (real.int 4) (real.int i)))) (real.lenB (us.brQ l kids i)) ∧
    real.pLe (real.addn (real.nat (real.addi (real.int (real.lenB (us.brP l (real.lenS l)))) (real.muli (real.int 4) (real.int i)))) (real.subn (real.lenB (us.brQ l kids i)) (real.nat (real.addi (real.int (real.lenB (us.brP l (real.lenS l)))) (real.muli (real.int 4) (real.int i)))))) (real.lenB (us.brQ l kids i)) := by
  have h1 := br_small h hs
  have hl := brQ_len l kids i (Nat.le_of_lt hi)
  have e : real.addi (real.int (real.lenB (us.brP l (real.lenS l)))) (real.muli (real.int 4) (real.int i)) = real.int ((u_brP l l.length).length + 4 * i) := at_eq (l := l) (i := i) (by omega) (by omega)
  rw [e]
  refine ⟨Int.natCast_nonneg _, ?_, ?_⟩
  · show (u_brP l l.length).length + 4 * i ≤ (u_brQ l kids i).length; omega
  · show (u_brP l l.length).length + 4 * i + ((u_brQ l kids i).length - ((u_brP l l.length).length + 4 * i)) ≤ (u_brQ l kids i).length; omega
theorem putBig_fit (x : UInt32) : real.pLe (real.addn 0 4) (real.lenB (us.putBig x)) := Nat.le_refl 4
theorem br_cap {l : List (List UInt8)} {kids : List UInt32} (h : u_okK l l.length = true) (hs : u_bsz l l.length ≤ 480) (hk : kids.length = l.length + 1) : real.pCap (real.addn (real.lenB (us.brP l l.length)) (real.lenB (real.repB (real.nat (real.muli (real.int 4) (real.int (real.lenW kids))))))) 1 := by
  have h1 := br_small h hs
  have e : real.muli (real.int 4) (real.int (real.lenW kids)) = ((4 * kids.length : Nat) : Int) := muli4 (n := kids.length) (by omega)
  rw [e]
  have e2 : real.addn (real.lenB (us.brP l l.length)) (real.lenB (real.repB (real.nat ((4 * kids.length : Nat) : Int)))) = (u_brP l l.length).length + 4 * kids.length := by
    show (u_brP l l.length).length + (List.replicate (4 * kids.length) (0 : UInt8)).length = _
    rw [List.length_replicate]
  rw [e2]
  exact ⟨by omega, by omega⟩
theorem br_copy {l : List (List UInt8)} {kids : List UInt32} {i : Nat} (h : u_okK l l.length = true) (hs : u_bsz l l.length ≤ 480) (hk : kids.length = l.length + 1) (hi : i < kids.length) :
    real.splB (us.brQ l kids i) (real.nat (real.addi (real.int (real.lenB (us.brP l (real.lenS l)))) (real.muli (real.int 4) (real.int i)))) (real.cutB (real.cutB (us.putBig (real.getW kids (real.nat (real.int i)))) 0 4) 0 (real.minn (real.lenB (real.cutB (us.putBig (real.getW kids (real.nat (real.int i)))) 0 4)) (real.subn (real.lenB (us.brQ l kids i)) (real.nat (real.addi (real.int (real.lenB (us.brP l (real.lenS l)))) (real.muli (real.int 4) (real.int i))))))) = us.brQ l kids (i + 1) := by
  have h1 := br_small h hs
  have hl := brQ_len l kids i (Nat.le_of_lt hi)
  have e : real.nat (real.addi (real.int (real.lenB (us.brP l (real.lenS l)))) (real.muli (real.int 4) (real.int i))) = (u_brP l l.length).length + 4 * i := by
    have := at_eq (l := l) (i := i) (by omega) (by omega)
    exact congrArg real.nat this
  rw [e]
  have hs4 := splice4 (u_brQ l kids i) (u_putBig (kids.getD i 0)) ((u_brP l l.length).length + 4 * i) (by omega) rfl ((u_brQ l kids i).length - ((u_brP l l.length).length + 4 * i)) rfl
  exact hs4.trans (brQ_stepN hi)
theorem br_at {l : List (List UInt8)} {kids : List UInt32} {i : Nat} (h : u_okK l l.length = true) (hs : u_bsz l l.length ≤ 480) (hk : kids.length = l.length + 1) (hi : i < kids.length) :
    real.addi (real.int (real.lenB (us.brP l (real.lenS l)))) (real.muli (real.int 4) (real.int i)) = real.int ((u_brP l l.length).length + 4 * i) ∧ (u_brP l l.length).length + 4 * i ≤ (u_brQ l kids i).length := by
  have h1 := br_small h hs
  have hl := brQ_len l kids i (Nat.le_of_lt hi)
  exact ⟨at_eq (l := l) (i := i) (by omega) (by omega), by omega⟩
end Go.Proofs.Ytmldccfchnlpgaa
set_option linter.unusedVariables false
set_option linter.unusedSimpArgs false
set_option maxRecDepth 100000
set_option maxHeartbeats 1000000
namespace Go.Proofs.Ytmldccfchnlpgaa
open Go Go.Vc
attribute [local irreducible] u_brB u_brE u_brP u_brR u_brQ u_okK u_okQ u_bsz u_isKey
theorem r_node_Branch : Ready Try.prog 50 := by unfold Ready; kernel_rfl
noncomputable def sp_node_Branch (F : Fs) (U : Us) : Specs := [(105, s_node_isKey F U), (106, s_bits_Put F U), (107, s_bits_Text F U), (103, s_bits_PutBig F U)]
theorem ok_node_Branch : SpecsOK Try.prog (sp_node_Branch real us) := sp_cons r_node_isKey k_node_isKey (sp_cons r_bits_Put k_bits_Put (sp_cons r_bits_Text k_bits_Text (sp_cons r_bits_PutBig k_bits_PutBig sp_nil)))
noncomputable def an_node_Branch (F : Fs) (U : Us) (ks : List (List UInt8)) (kids : List UInt32) : Anns := [(5, ⟨Nat, fun i => F.pLe i (F.lenS ks) ∧ F.pB (U.okK ks i) true, fun i => F.subn (F.lenS ks) i, fun i => ⟨[(0, .rb 1 (.ss ks)), (1, .rb 1 (.wd kids)), (6, .i (U.bsz ks i)), (27, .rb 1 (.ss ks)), (28, .i (F.int (F.lenS ks))), (29, .i (F.int i))], []⟩⟩),
  (15, ⟨Nat, fun i => F.pLe i (F.lenS ks), fun i => F.subn (F.lenS ks) i, fun i => ⟨[(1, .rb 1 (.wd kids)), (9, .rw 5), (65, .rb 1 (.ss ks)), (66, .i (F.int (F.lenS ks))), (67, .i (F.int i))], [(9, 5, .row 5 1 (.bt (U.brP ks i)))]⟩⟩),
  (22, ⟨Nat, fun i => F.pLe i (F.lenW kids), fun i => F.subn (F.lenW kids) i, fun i => ⟨[(9, .rw 5), (12, .i (F.int (F.lenB (U.brP ks (F.lenS ks))))), (82, .rb 1 (.wd kids)), (83, .i (F.int (F.lenW kids))), (84, .i (F.int i))], [(9, 5, .row 5 1 (.bt (U.brQ ks kids i)))]⟩⟩)]
noncomputable def g_node_Branch (F : Fs) (U : Us) : Law
  | [.rb 1 (.ss ks), .rb 1 (.wd kids)] => some (F.pLe (F.lenS ks) 1000000000000 ∧ F.pLe (F.lenW kids) 1000000000000, [.row 5 1 (.bt (U.brB ks kids)), .val (.i (U.brE ks kids))])
  | _ => none
noncomputable def s_node_Branch (F : Fs) (U : Us) : Vc.Spec := pureSpec F false [.row .kS, .row .kW] (g_node_Branch F U)
noncomputable def x_node_Branch (F : Fs) (U : Us) : Cx := ⟨Try.f50.ntmps, tt F, sp_node_Branch F U, [], [(25, ([(6, [5])], []))], [], []⟩
theorem c_node_Branch (ks : List (List UInt8)) (kids : List UInt32) (hc : real.pLe (real.lenS ks) 1000000000000 ∧ real.pLe (real.lenW kids) 1000000000000) : vc real (x_node_Branch real us) (an_node_Branch real us ks kids) [] (Try.f50.body.getD .skip) ⟨zipSl 0 [.rb 1 (.ss ks), .rb 1 (.wd kids)], [], 64⟩ (retOk real (tt real) false Try.f50.results.toList [.row 5 1 (.bt (us.brB ks kids)), .val (.i (us.brE ks kids))]) := by
  generalize hU : us = U
  generalize hF : real = F
  have hk : ks.length ≤ 1000000000000 := hc.1
  have hq : kids.length ≤ 1000000000000 := hc.2
  cbv
  repeat' first | apply And.intro | refine Classical.or_iff_not_imp_left.2 (fun _ => ?_) | exact trivial
  all_goals try (subst hF hU; simp only [real, us, Nat.le_eq, Int.cast_ofNat_Int, decide_eq_false_iff_not, decide_eq_true_eq, List.length_take, List.length_drop, List.length_append, List.length_replicate, List.length_set, List.length_cons, List.length_nil, List.length_zipWith] at *; (try simp (disch := omega) only [wrap_sm] at *); omega)
  · rename_i g1 g2; subst hF hU; exact (br_nokids hq g2).1
  · rename_i g1 g2; subst hF hU; exact (br_nokids hq g2).2
  · refine ⟨(0 : Nat), ?_⟩
    cbv; subst hF hU
    exact ⟨⟨Nat.zero_le _, okK_zero ks⟩, ⟨bsz_zero ks, trivial⟩, trivial⟩
  · rename_i g1 g2
    have h0 : ks.length ≠ 0 := by subst hF; exact br_some g1
    have hkq : kids.length = ks.length + 1 := by subst hF; exact br_kids hq g2
    clear g1 g2
    intro (i : Nat) hi
    have h1 : i ≤ ks.length := by subst hF; exact hi.1
    have h2 : u_okK ks i = true := by subst hF hU; exact hi.2
    clear hi
    cbv
    repeat' first | apply And.intro | refine Classical.or_iff_not_imp_left.2 (fun _ => ?_) | exact trivial
    all_goals try (subst hF hU; simp only [real, us, Nat.le_eq, Int.cast_ofNat_Int, decide_eq_false_iff_not, decide_eq_true_eq, List.length_take, List.length_drop, List.length_append, List.length_replicate, List.length_set, List.length_cons, List.length_nil, List.length_zipWith] at *; (try simp (disch := omega) only [wrap_sm] at *); omega)
    · rename_i g1 _ g3 g4; subst hF hU; exact (br_bad (lt_g g1) (not_ordS (by omega) g3 g4)).1
    · rename_i g1 _ g3 g4; subst hF hU; exact (br_bad (lt_g g1) (not_ordS (by omega) g3 g4)).2
    · rename_i g1 g2 g3 g4
      refine ⟨(i + 1 : Nat), ?_⟩
      cbv; subst hF hU
      have hlt := lt_g (n := ks.length) g1
      exact ⟨⟨hlt, okK_step h2 (is_keyS g2) (.inr (is_ordS (by omega) g3 g4))⟩, sub_stepN hlt, ⟨bsz_step (is_keyS g2), addi1 (by omega), trivial⟩, trivial⟩
    · rename_i g1 g2 g3
      refine ⟨(i + 1 : Nat), ?_⟩
      cbv; subst hF hU
      have hlt := lt_g (n := ks.length) g1
      exact ⟨⟨hlt, okK_step h2 (is_keyS g2) (.inl (Nat.le_zero.1 (ge_g g3)))⟩, sub_stepN hlt, ⟨bsz_step (is_keyS g2), addi1 (by omega), trivial⟩, trivial⟩
    · rename_i g1 g2; subst hF hU; exact (br_bad (lt_g g1) (not_keyS g2)).1
    · rename_i g1 g2; subst hF hU; exact (br_bad (lt_g g1) (not_keyS g2)).2
    · rename_i g1 g2
      subst hF hU
      have e : i = ks.length := by have := ge_g (n := ks.length) g1; omega
      subst e; exact (br_11 h0 hkq h2 g2).1
    · rename_i g1 g2
      subst hF hU
      have e : i = ks.length := by have := ge_g (n := ks.length) g1; omega
      subst e; exact (br_11 h0 hkq h2 g2).2
    · refine ⟨(0 : Nat), ?_⟩
      cbv; subst hF hU
      exact ⟨Nat.zero_le _, brP_zero hk, trivial⟩
    · rename_i g1 g2
      have e : i = ks.length := by subst hF; have := ge_g (n := ks.length) g1; omega
      subst e
      have hs : u_bsz ks ks.length ≤ 480 := by subst hF hU; exact br_sz g2
      clear g1 g2 h1
      intro (j : Nat) hj
      have h1 : j ≤ ks.length := by subst hF; exact hj
      clear hj
      cbv
      repeat' first | apply And.intro | refine Classical.or_iff_not_imp_left.2 (fun _ => ?_) | exact trivial
      all_goals try (subst hF hU; simp only [real, us, Nat.le_eq, Int.cast_ofNat_Int, decide_eq_false_iff_not, decide_eq_true_eq, List.length_take, List.length_drop, List.length_append, List.length_replicate, List.length_set, List.length_cons, List.length_nil, List.length_zipWith] at *; (try simp (disch := omega) only [wrap_sm] at *); omega)
      · rename_i g1; subst hF hU; exact br_fit h2 (lt_g (n := ks.length) g1)
      · subst hF hU; exact br_fitP h2 hs h1
      · rename_i g1
        refine ⟨(j + 1 : Nat), ?_⟩
        cbv; subst hF hU
        have hlt := lt_g (n := ks.length) g1
        exact ⟨hlt, sub_stepN hlt, ⟨addi1 (by omega), trivial⟩, brP_step, trivial⟩
      · rename_i g1
        subst hF hU
        have e : j = ks.length := by have := ge_g (n := ks.length) g1; omega
        subst e; exact br_cap h2 hs hkq
      · rename_i g1
        have e : j = ks.length := by subst hF; have := ge_g (n := ks.length) g1; omega
        refine ⟨(0 : Nat), ?_⟩
        cbv; subst hF hU e
        exact ⟨Nat.zero_le _, ⟨rfl, trivial⟩, brQ_zero hq, trivial⟩
      · rename_i g1
        have e : j = ks.length := by subst hF; have := ge_g (n := ks.length) g1; omega
        subst e
        clear g1 h1
        intro (i : Nat) hi
        have h1 : i ≤ kids.length := by subst hF; exact hi
        clear hi
        cbv
        repeat' first | apply And.intro | refine Classical.or_iff_not_imp_left.2 (fun _ => ?_) | exact trivial
        all_goals try (subst hF hU; simp only [real, us, Nat.le_eq, Int.cast_ofNat_Int, decide_eq_false_iff_not, decide_eq_true_eq, List.length_take, List.length_drop, List.length_append, List.length_replicate, List.length_set, List.length_cons, List.length_nil, List.length_zipWith] at *; (try simp (disch := omega) only [wrap_sm] at *); omega)
        · rename_i g1; subst hF hU; exact (br_pos h2 hs hkq (lt_g (n := kids.length) g1)).1
        · rename_i g1; subst hF hU; exact (br_pos h2 hs hkq (lt_g (n := kids.length) g1)).2.1
        · subst hF hU; exact putBig_fit _
        · rename_i g1; subst hF hU; exact (br_pos h2 hs hkq (lt_g (n := kids.length) g1)).2.2
        · rename_i g1
          refine ⟨(i + 1 : Nat), ?_⟩
          cbv; subst hF hU
          have hlt := lt_g (n := kids.length) g1
          exact ⟨hlt, sub_stepN hlt, ⟨addi1 (by omega), trivial⟩, br_copy h2 hs hkq hlt, trivial⟩
        · rename_i g1; subst hF hU
          have e : i = kids.length := by have := ge_g (n := kids.length) g1; omega
          subst e; exact (br_end h0 hkq h2 hs).1
        · subst hF hU; exact (br_end h0 hkq h2 hs).2
  · rename_i g1; subst hF hU; exact (br_none g1).1
  · rename_i g1; subst hF hU; exact (br_none g1).2
theorem k_node_Branch : SpecOK Try.prog 50 (s_node_Branch real us) := by
  refine pure_sound (x := x_node_Branch real us) ⟨tt_ok, ok_node_Branch, Go.Vc.ks_nil⟩ mixed Try.func50 rfl rfl (by kernel_rfl) ?_
  intro l c rs hg hc
  unfold g_node_Branch at hg
  split at hg
  · cases hg; exact ⟨Nat.le_of_ble_eq_true rfl, an_node_Branch real us _ _, [], c_node_Branch _ _ hc⟩
  · cases hg

end Go.Proofs.Ytmldccfchnlpgaa
set_option linter.unusedVariables false
set_option linter.unusedSimpArgs false
set_option maxRecDepth 100000
set_option maxHeartbeats 1000000
namespace Go.Proofs.Ytmldccfchnlpgaa
open Go Go.Vc
theorem nszR_step (l : List D) (i : Nat) : real.mini (real.int 100000) (real.addi (real.addi (real.addi (us.nsz l i) (real.int 4)) (real.mini (real.int 100000) (real.int (real.lenB (pkM l i))))) (real.mini (real.int 100000) (real.int (real.lenB (pvM l i))))) = us.nsz l (i + 1) := by
  have h := nsz_lo l i
  rw [min_r, min_r, min_r]
  have e1 : real.addi (us.nsz l i) (real.int 4) = u_nsz l i + 4 := by
    show IntKind.i64.wrap (u_nsz l i + 4) = _
    rw [wrap_sm (by omega) (by omega)]
  rw [e1]
  have e2 : real.addi (u_nsz l i + 4) (min (real.int 100000) (real.int (real.lenB (pkM l i)))) = u_nsz l i + 4 + min 100000 ((pk l i).length : Int) := by
    show IntKind.i64.wrap (u_nsz l i + 4 + min 100000 ((pk l i).length : Int)) = _
    rw [wrap_sm (by omega) (by omega)]
  rw [e2]
  have e3 : real.addi (u_nsz l i + 4 + min 100000 ((pk l i).length : Int)) (min (real.int 100000) (real.int (real.lenB (pvM l i)))) = u_nsz l i + 4 + min 100000 ((pk l i).length : Int) + min 100000 ((pv l i).length : Int) := by
    show IntKind.i64.wrap (u_nsz l i + 4 + min 100000 ((pk l i).length : Int) + min 100000 ((pv l i).length : Int)) = _
    rw [wrap_sm (by omega) (by omega)]
  rw [e3]
  rfl
theorem nszR_stepF {F : Fs} {U : Us} (hF : real = F) (hU : us = U) (l : List D) (i : Nat) : F.mini (F.int 100000) (F.addi (F.addi (F.addi (U.nsz l i) (F.int 4)) (F.mini (F.int 100000) (F.int (F.lenB (F.dS (F.dF (F.getD l (F.nat (F.int i))) 0)))))) (F.mini (F.int 100000) (F.int (F.lenB (F.dS (F.dF (F.getD l (F.nat (F.int i))) 1)))))) = U.nsz l (i + 1) := by
  subst hF hU
  exact nszR_step l i
theorem nsz_zero (l : List D) : real.int 3 = us.nsz l 0 := rfl
theorem okQ_lo {l : List (List UInt8)} {i : Nat} (h : ¬ real.pB (real.lti (real.int (real.lenB (ksM l i))) (real.int 1)) false) : u_okQ l i = false := by
  have h1 : (l.getD i []).length < 1 := lt_g h
  unfold u_okQ u_isKey
  rw [decide_eq_false (by omega), Bool.false_and, Bool.false_and]
theorem okQ_hi {l : List (List UInt8)} {i : Nat} (h : ¬ real.pB (real.lti (real.int 60) (real.int (real.lenB (ksM l i)))) false) : u_okQ l i = false := by
  have h1 : 60 < (l.getD i []).length := lt_g h
  have h2 : decide ((l.getD i []).length ≤ 60) = false := decide_eq_false (by omega)
  unfold u_okQ u_isKey
  rw [h2, Bool.and_false, Bool.false_and]
theorem okQ_key {l : List (List UInt8)} {i : Nat} (h : ¬ real.pB (real.lti (real.int (real.lenB (ksM l i))) (real.int 1)) true) (h2 : ¬ real.pB (real.lti (real.int 60) (real.int (real.lenB (ksM l i)))) true) : u_isKey (l.getD i []) = true := by
  have g1 : 1 ≤ (l.getD i []).length := ge_g h
  have g2 : (l.getD i []).length ≤ 60 := ge_g h2
  unfold u_isKey
  rw [decide_eq_true g1, decide_eq_true g2]; rfl
theorem okK_no {l : List (List UInt8)} {i : Nat} (hi : i < l.length) (h : u_okQ l i = false) : false = us.okK l (real.lenS l) := by
  show false = u_okK l l.length
  cases e : u_okK l l.length with
  | false => rfl
  | true => rw [okQ_of _ i e hi] at h; cases h
/-! ## The document's leaf -/
theorem keysOf_len (l : List D) (n : Nat) : (u_keysOf l n).length = n := by simp [u_keysOf]
theorem keysOf_get (l : List D) (n i : Nat) (h : i < n) : (u_keysOf l n).getD i [] = pk l i := by
  simp only [u_keysOf, List.getD_eq_getElem?_getD, List.getElem?_map, List.getElem?_range h]
  rfl
theorem keysOf_zero (l : List D) : [] = us.keysOf l 0 := rfl
theorem keysOf_step (l : List D) (i : Nat) : real.appS (us.keysOf l i) [pkM l i] = us.keysOf l (i + 1) := by
  show (List.range i).map (pk l) ++ [pk l i] = (List.range (i + 1)).map (pk l)
  rw [List.range_succ, List.map_append]; rfl
theorem keys_cap {l : List D} {i : Nat} (x : List UInt8) (hi : i ≤ l.length) (hl : l.length ≤ 1000000000000) : real.pCap (real.addn (real.lenS (us.keysOf l i)) (real.lenS [x])) 16 := by
  have e : real.addn (real.lenS (us.keysOf l i)) (real.lenS [x]) = i + 1 := by
    show (u_keysOf l i).length + 1 = i + 1
    rw [keysOf_len]
  rw [e]
  exact ⟨by omega, by omega⟩
theorem okQ_keys {l : List D} {n i : Nat} (h : i < n) (hv : (pv l i).length ≤ 150) : u_okQ (u_keysOf l n) i = u_okP l i := by
  unfold u_okQ u_okP
  rw [keysOf_get l n i h, decide_eq_true hv, Bool.and_true]
  by_cases e : i = 0
  · rw [decide_eq_true e, Bool.true_or, Bool.true_or]
  · rw [keysOf_get l n (i - 1) (by omega)]
theorem okK_keys {l : List D} {n : Nat} (hv : ∀ j, j < n → (pv l j).length ≤ 150) : ∀ k, k ≤ n → u_okK (u_keysOf l n) k = u_okN l k
  | 0, _ => rfl
  | k + 1, h => by
    rw [u_okK, u_okN, okK_keys hv k (by omega), okQ_keys (by omega) (hv k (by omega))]
theorem keys_no {l : List D} (hv : ∀ j, j < l.length → (pv l j).length ≤ 150) (h : ¬ real.pB (real.notb (us.okK (us.keysOf l l.length) (real.lenS (us.keysOf l l.length)))) false) : us.leafB l = [] ∧ real.int 90 = us.leafE l := by
  have h1 : u_okN l l.length = false := by
    rw [← okK_keys hv l.length (Nat.le_refl _)]
    have h2 : ¬ (!(u_okK (u_keysOf l l.length) (u_keysOf l l.length).length)) = false := h
    rw [keysOf_len] at h2
    simpa using h2
  have h2 : u_leafE l = 90 := by unfold u_leafE; rw [if_pos h1]
  refine ⟨?_, h2.symm⟩
  show u_leafB l = []
  unfold u_leafB
  rw [h2]; rfl
theorem keys_yes {l : List D} (hv : ∀ j, j < l.length → (pv l j).length ≤ 150) (h : ¬ real.pB (real.notb (us.okK (us.keysOf l l.length) (real.lenS (us.keysOf l l.length)))) true) : u_okN l l.length = true := by
  rw [← okK_keys hv l.length (Nat.le_refl _)]
  have h2 : ¬ (!(u_okK (u_keysOf l l.length) (u_keysOf l l.length).length)) = true := h
  rw [keysOf_len] at h2
  simpa using h2
/-! ## The document's branch -/
theorem byte32 (x : UInt32) (s : Nat) (h : s < 32) : real.ofI8 (real.toI32 (real.shr32 x (s : Int))) = UInt8.ofNat (x.toNat / 2 ^ s) := by
  show UInt8.ofNat (((UInt32.ofNat (x.toNat / 2 ^ (min ((s : Int)).toNat 32))).toNat : Int) % 2 ^ 8).toNat = _
  have hx := x.toNat_lt
  have e : min ((s : Int)).toNat 32 = s := by omega
  rw [e]
  have h2 : x.toNat / 2 ^ s < 4294967296 := Nat.lt_of_le_of_lt (Nat.div_le_self _ _) hx
  rw [UInt32.toNat_ofNat_of_lt' (by simp [UInt32.size]; omega)]
  generalize x.toNat / 2 ^ s = y
  apply UInt8.toNat_inj.1
  rw [UInt8.toNat_ofNat', UInt8.toNat_ofNat']
  omega
theorem putBig4 (x : UInt32) : us.put (real.ofI64 (real.toI32 x)) (real.int 4) = u_putBig x := by
  have hx := x.toNat_lt
  have e : real.ofI64 (real.toI32 x) = UInt64.ofNat x.toNat := by
    show UInt64.ofNat ((x.toNat : Int) % 2 ^ 64).toNat = _
    congr 1
    omega
  rw [e]
  have e2 : (UInt64.ofNat x.toNat).toNat = x.toNat := UInt64.toNat_ofNat_of_lt' (by simp [UInt64.size]; omega)
  show putK (UInt64.ofNat x.toNat) 4 = u_putBig x
  have c24 : real.toI64 (real.ofI64 (real.int 24)) = ((24 : Nat) : Int) := by decide
  have c16 : real.toI64 (real.ofI64 (real.int 16)) = ((16 : Nat) : Int) := by decide
  have c8 : real.toI64 (real.ofI64 (real.int 8)) = ((8 : Nat) : Int) := by decide
  have c0 : real.ofI8 (real.toI32 x) = UInt8.ofNat (x.toNat / 2 ^ 0) := by
    rw [← byte32 x 0 (by omega)]
    have : real.shr32 x ((0 : Nat) : Int) = x := by simp [real]
    rw [this]
  simp only [putK, u_putBig, e2]
  rw [c24, c16, c8, byte32 x 24 (by omega), byte32 x 16 (by omega), byte32 x 8 (by omega), c0]
theorem brR_step {l : List (List UInt8)} {kids : List UInt32} {i : Nat} : real.appB (us.brR l kids i) (us.put (real.ofI64 (real.toI32 (real.getW kids (real.nat (real.int i))))) (real.int 4)) = us.brR l kids (i + 1) := by
  rw [putBig4]
  rfl
theorem brR_zero {l : List (List UInt8)} {kids : List UInt32} : us.brP l l.length = us.brR l kids 0 := rfl
theorem brS_len {l : List (List UInt8)} : ∀ i, u_okK l i = true → i ≤ 1000000000000 → (u_brP l i).length + 4 * i + 4 ≤ 7 + 66 * i ∧ min (100000 : Int) ((u_brP l i).length + 4 * i + 4 : Int) = u_bsz l i
  | 0, _, _ => by
    constructor
    · exact Nat.le_refl 7
    · rfl
  | i + 1, h, hi => by
    simp only [u_okK, Bool.and_eq_true] at h
    have hk := okQ_len h.2
    have ih := brS_len i h.1 (by omega)
    rw [u_brP, List.length_append, textN_len _ (by omega), u_bsz, ← ih.2]
    omega
theorem brS_over {l : List (List UInt8)} {i : Nat} (h : u_okK l l.length = true) (hl : l.length ≤ 1000000000000) (hi : i < l.length) (hs : ¬ real.pB (real.lti (real.int 480) (real.int (real.lenB (real.appB (us.brP l i) (us.text (ksM l i)))))) false) : 480 < u_bsz l l.length := by
  have h1 : 480 < (u_brP l (i + 1)).length := lt_g hs
  have h2 := (brS_len (i + 1) (okK_le _ _ h (by omega)) (by omega)).2
  have h3 := bsz_mono l (i + 1) (l.length - (i + 1))
  rw [show i + 1 + (l.length - (i + 1)) = l.length by omega] at h3
  omega
theorem br_11' {l : List (List UInt8)} {kids : List UInt32} (h0 : l.length ≠ 0) (hk : kids.length = l.length + 1) (h : u_okK l l.length = true) (h1 : 480 < u_bsz l l.length) : us.brB l kids = [] ∧ real.int 11 = us.brE l kids := by
  have hn : ¬ (l.length = 0 ∨ kids.length ≠ l.length + 1 ∨ u_okK l l.length = false) := by
    rintro (e | e | e)
    · exact h0 e
    · exact e hk
    · rw [h] at e; cases e
  have h2 : u_brE l kids = 11 := by unfold u_brE; rw [if_neg hn, if_pos h1]
  refine ⟨?_, h2.symm⟩
  show u_brB l kids = []
  unfold u_brB
  rw [h2]; rfl
theorem br_last {l : List (List UInt8)} {kids : List UInt32} (hk : kids.length = l.length + 1) (h : u_okK l l.length = true) (hl : l.length ≤ 1000000000000) : min (100000 : Int) ((u_brR l kids kids.length).length : Int) = u_bsz l l.length := by
  have h1 := (brS_len l.length h hl).2
  rw [brR_len, ← h1, hk]
  omega
theorem brS_some {l : List (List UInt8)} (h : ¬ real.pB (real.lti (real.int (real.lenS l)) (real.int 1)) true) : l.length ≠ 0 := by
  have : 1 ≤ l.length := ge_g h
  omega
theorem brS_none {l : List (List UInt8)} {kids : List UInt32} (h : ¬ real.pB (real.lti (real.int (real.lenS l)) (real.int 1)) false) : us.brB l kids = [] ∧ real.int 90 = us.brE l kids := by
  have : l.length < 1 := lt_g h
  exact br_90 (.inl (by omega))
theorem brS_keys {l : List (List UInt8)} {kids : List UInt32} (h : ¬ real.pB (real.notb (us.okK l (real.lenS l))) false) : us.brB l kids = [] ∧ real.int 90 = us.brE l kids := by
  refine br_90 (.inr (.inr ?_))
  have h2 : ¬ (!(u_okK l l.length)) = false := h
  simpa using h2
theorem brS_ok {l : List (List UInt8)} (h : ¬ real.pB (real.notb (us.okK l (real.lenS l))) true) : u_okK l l.length = true := by
  have h2 : ¬ (!(u_okK l l.length)) = true := h
  simpa using h2
theorem brP_zero_len (l : List (List UInt8)) : real.pLe (real.lenB (us.brP l 0)) 480 := by show 3 ≤ 480; decide
theorem brS_len_le {l : List (List UInt8)} {i : Nat} (hs : ¬ real.pB (real.lti (real.int 480) (real.int (real.lenB (real.appB (us.brP l i) (us.text (ksM l i)))))) true) : real.pLe (real.lenB (us.brP l (i + 1))) 480 := ge_g hs
theorem br_lastOver {l : List (List UInt8)} {kids : List UInt32} (hk : kids.length = l.length + 1) (h : u_okK l l.length = true) (hl : l.length ≤ 1000000000000) (hs : ¬ real.pB (real.lti (real.int 480) (real.int (real.lenB (us.brR l kids kids.length)))) false) : 480 < u_bsz l l.length := by
  have h1 : 480 < (u_brR l kids kids.length).length := lt_g hs
  have := br_last hk h hl
  omega
theorem br_lastFit {l : List (List UInt8)} {kids : List UInt32} (hk : kids.length = l.length + 1) (h : u_okK l l.length = true) (hl : l.length ≤ 1000000000000) (hs : ¬ real.pB (real.lti (real.int 480) (real.int (real.lenB (us.brR l kids kids.length)))) true) : u_bsz l l.length ≤ 480 := by
  have h1 : (u_brR l kids kids.length).length ≤ 480 := ge_g hs
  have := br_last hk h hl
  omega
theorem br_endR {l : List (List UInt8)} {kids : List UInt32} (h0 : l.length ≠ 0) (hk : kids.length = l.length + 1) (h : u_okK l l.length = true) (hs : u_bsz l l.length ≤ 480) : us.brR l kids kids.length = us.brB l kids ∧ real.int 0 = us.brE l kids := by
  obtain ⟨h1, h2⟩ := br_0 h0 hk h hs
  exact ⟨h2, h1.symm⟩
theorem brS_small {l : List (List UInt8)} {kids : List UInt32} {i : Nat} (h : u_okK l l.length = true) (hl : l.length ≤ 1000000000000) (hs : (u_brP l l.length).length ≤ 480) (hi : i ≤ kids.length) (hk : kids.length = l.length + 1) : (u_brR l kids i).length ≤ 900000 := by
  have h1 : ∀ n, u_okK l n = true → 3 * n ≤ (u_brP l n).length := by
    intro n
    induction n with
    | zero => intro _; simp
    | succ n ih =>
      intro h
      simp only [u_okK, Bool.and_eq_true] at h
      have hk := okQ_len h.2
      have := ih h.1
      rw [u_brP, List.length_append, textN_len _ (by omega)]
      omega
  have := h1 _ h
  rw [brR_len]
  omega
end Go.Proofs.Ytmldccfchnlpgaa
set_option linter.unusedVariables false
set_option linter.unusedSimpArgs false
set_option maxRecDepth 100000
set_option maxHeartbeats 1000000
namespace Go.Proofs.Ytmldccfchnlpgaa
open Go Go.Vc
attribute [local irreducible] u_brB u_brE u_brP u_brR u_brQ u_okK u_okQ u_bsz u_isKey u_leafB u_leafE u_leafP u_okN u_okP u_nsz u_keysOf
theorem r_ref8_Size : Ready Try.prog 133 := by unfold Ready; kernel_rfl
noncomputable def sp_ref8_Size (F : Fs) (U : Us) : Specs := []
theorem ok_ref8_Size : SpecsOK Try.prog (sp_ref8_Size real us) := sp_nil
noncomputable def an_ref8_Size (F : Fs) (U : Us) (l : List D) : Anns := [(3, ⟨Nat, fun i => F.pLe i (F.lenD l), fun i => F.subn (F.lenD l) i, fun i => ⟨[(0, .rb 2 (.ds (.t [.s, .s]) l)), (3, .i (U.nsz l i)), (4, .i (F.int i))], []⟩⟩)]
noncomputable def g_ref8_Size (F : Fs) (U : Us) : Law
  | [.rb 2 (.ds (.t [.s, .s]) l)] => some (F.pLe (F.lenD l) 1000000000000, [.val (.i (U.nsz l (F.lenD l)))])
  | _ => none
noncomputable def s_ref8_Size (F : Fs) (U : Us) : Vc.Spec := pureSpec F false [.row (.kD (.t [.s, .s]))] (g_ref8_Size F U)
noncomputable def x_ref8_Size (F : Fs) (U : Us) : Cx := ⟨Try.f133.ntmps, tt F, sp_ref8_Size F U, [], [(5, ([(12, [4, 6, 7, 8]), (14, [4, 6, 7, 8]), (15, [4, 6, 7, 8]), (16, [4, 6, 7, 8])], []))], [], []⟩
theorem c_ref8_Size (l : List D) (hc : real.pLe (real.lenD l) 1000000000000) : vc real (x_ref8_Size real us) (an_ref8_Size real us l) [] (Try.f133.body.getD .skip) ⟨zipSl 0 [.rb 2 (.ds (.t [.s, .s]) l)], [], 64⟩ (retOk real (tt real) false Try.f133.results.toList [.val (.i (us.nsz l (real.lenD l)))]) := by
  generalize hU : us = U
  generalize hF : real = F
  have hl : l.length ≤ 1000000000000 := hc
  cbv
  repeat' first | apply And.intro | refine Classical.or_iff_not_imp_left.2 (fun _ => ?_) | exact trivial
  all_goals try (subst hF hU; simp only [real, us, Nat.le_eq, Int.cast_ofNat_Int, decide_eq_false_iff_not, decide_eq_true_eq, List.length_take, List.length_drop, List.length_append, List.length_replicate, List.length_set, List.length_cons, List.length_nil, List.length_zipWith] at *; (try simp (disch := omega) only [wrap_sm] at *); omega)
  · refine ⟨(0 : Nat), ?_⟩
    cbv; subst hF hU
    exact ⟨Nat.zero_le _, ⟨nsz_zero l, trivial⟩, trivial⟩
  · intro (i : Nat) hi
    have h1 : i ≤ l.length := by subst hF; exact hi
    clear hi
    cbv
    repeat' first | apply And.intro | refine Classical.or_iff_not_imp_left.2 (fun _ => ?_) | exact trivial
    all_goals try (subst hF hU; simp only [real, us, Nat.le_eq, Int.cast_ofNat_Int, decide_eq_false_iff_not, decide_eq_true_eq, List.length_take, List.length_drop, List.length_append, List.length_replicate, List.length_set, List.length_cons, List.length_nil, List.length_zipWith] at *; (try simp (disch := omega) only [wrap_sm] at *); omega)
    · rename_i g1
      refine ⟨(i + 1 : Nat), ?_⟩
      have hlt : i < l.length := by subst hF; exact lt_g g1
      cbv
      exact ⟨by subst hF; exact hlt, by subst hF; exact sub_stepN hlt, ⟨nszR_stepF hF hU l i, addi1F hF (by omega), trivial⟩, trivial⟩
    · rename_i g1
      subst hF hU
      have e : i = l.length := by have := ge_g (n := l.length) g1; omega
      subst e; rfl
theorem k_ref8_Size : SpecOK Try.prog 133 (s_ref8_Size real us) := by
  refine pure_sound (x := x_ref8_Size real us) ⟨tt_ok, ok_ref8_Size, Go.Vc.ks_nil⟩ mixed Try.func133 rfl rfl (by kernel_rfl) ?_
  intro l c rs hg hc
  unfold g_ref8_Size at hg
  split at hg
  · cases hg; exact ⟨Nat.le_of_ble_eq_true rfl, an_ref8_Size real us _, [], c_ref8_Size _ hc⟩
  · cases hg

theorem r_ref8_keys : Ready Try.prog 132 := by unfold Ready; kernel_rfl
noncomputable def sp_ref8_keys (F : Fs) (U : Us) : Specs := []
theorem ok_ref8_keys : SpecsOK Try.prog (sp_ref8_keys real us) := sp_nil
noncomputable def an_ref8_keys (F : Fs) (U : Us) (ks : List (List UInt8)) : Anns := [(2, ⟨Nat, fun i => F.pLe i (F.lenS ks) ∧ F.pB (U.okK ks i) true, fun i => F.subn (F.lenS ks) i, fun i => ⟨[(0, .rb 1 (.ss ks)), (3, .i (F.int i))], []⟩⟩)]
noncomputable def g_ref8_keys (F : Fs) (U : Us) : Law
  | [.rb 1 (.ss ks)] => some (F.pLe (F.lenS ks) 1000000000000, [.val (.b (U.okK ks (F.lenS ks)))])
  | _ => none
noncomputable def s_ref8_keys (F : Fs) (U : Us) : Vc.Spec := pureSpec F false [.row .kS] (g_ref8_keys F U)
noncomputable def x_ref8_keys (F : Fs) (U : Us) : Cx := ⟨Try.f132.ntmps, tt F, sp_ref8_keys F U, [], [(4, ([(25, [21, 22]), (26, [21, 22])], []))], [], []⟩
theorem c_ref8_keys (ks : List (List UInt8)) (hc : real.pLe (real.lenS ks) 1000000000000) : vc real (x_ref8_keys real us) (an_ref8_keys real us ks) [] (Try.f132.body.getD .skip) ⟨zipSl 0 [.rb 1 (.ss ks)], [], 64⟩ (retOk real (tt real) false Try.f132.results.toList [.val (.b (us.okK ks (real.lenS ks)))]) := by
  generalize hU : us = U
  generalize hF : real = F
  have hk : ks.length ≤ 1000000000000 := hc
  cbv
  repeat' first | apply And.intro | refine Classical.or_iff_not_imp_left.2 (fun _ => ?_) | exact trivial
  all_goals try (subst hF hU; simp only [real, us, Nat.le_eq, Int.cast_ofNat_Int, decide_eq_false_iff_not, decide_eq_true_eq, List.length_take, List.length_drop, List.length_append, List.length_replicate, List.length_set, List.length_cons, List.length_nil, List.length_zipWith] at *; (try simp (disch := omega) only [wrap_sm] at *); omega)
  · refine ⟨(0 : Nat), ?_⟩
    cbv; subst hF hU
    exact ⟨⟨Nat.zero_le _, okK_zero ks⟩, trivial⟩
  · intro (i : Nat) hi
    have h1 : i ≤ ks.length := by subst hF; exact hi.1
    have h2 : u_okK ks i = true := by subst hF hU; exact hi.2
    clear hi
    cbv
    repeat' first | apply And.intro | refine Classical.or_iff_not_imp_left.2 (fun _ => ?_) | exact trivial
    all_goals try (subst hF hU; simp only [real, us, Nat.le_eq, Int.cast_ofNat_Int, decide_eq_false_iff_not, decide_eq_true_eq, List.length_take, List.length_drop, List.length_append, List.length_replicate, List.length_set, List.length_cons, List.length_nil, List.length_zipWith] at *; (try simp (disch := omega) only [wrap_sm] at *); omega)
    · rename_i g1 _ _ g4 g5; subst hF hU; exact okK_no (lt_g (n := ks.length) g1) (not_ordS (by omega) g4 g5)
    · rename_i g1 g2 g3 g4 g5
      refine ⟨(i + 1 : Nat), ?_⟩
      cbv; subst hF hU
      have hlt := lt_g (n := ks.length) g1
      exact ⟨⟨hlt, okK_step h2 (okQ_key g2 g3) (.inr (is_ordS (by omega) g4 g5))⟩, sub_stepN hlt, ⟨addi1 (by omega), trivial⟩, trivial⟩
    · rename_i g1 g2 g3 g4
      refine ⟨(i + 1 : Nat), ?_⟩
      cbv; subst hF hU
      have hlt := lt_g (n := ks.length) g1
      exact ⟨⟨hlt, okK_step h2 (okQ_key g2 g3) (.inl (Nat.le_zero.1 (ge_g g4)))⟩, sub_stepN hlt, ⟨addi1 (by omega), trivial⟩, trivial⟩
    · rename_i g1 _ g3; subst hF hU; exact okK_no (lt_g (n := ks.length) g1) (okQ_hi g3)
    · rename_i g1 g2; subst hF hU; exact okK_no (lt_g (n := ks.length) g1) (okQ_lo g2)
    · rename_i g1
      subst hF hU
      have e : i = ks.length := by have := ge_g (n := ks.length) g1; omega
      subst e; exact h2.symm
theorem k_ref8_keys : SpecOK Try.prog 132 (s_ref8_keys real us) := by
  refine pure_sound (x := x_ref8_keys real us) ⟨tt_ok, ok_ref8_keys, Go.Vc.ks_nil⟩ mixed Try.func132 rfl rfl (by kernel_rfl) ?_
  intro l c rs hg hc
  unfold g_ref8_keys at hg
  split at hg
  · cases hg; exact ⟨Nat.le_of_ble_eq_true rfl, an_ref8_keys real us _, [], c_ref8_keys _ hc⟩
  · cases hg

theorem r_ref8_Leaf : Ready Try.prog 113 := by unfold Ready; kernel_rfl
noncomputable def sp_ref8_Leaf (F : Fs) (U : Us) : Specs := [(132, s_ref8_keys F U), (133, s_ref8_Size F U), (97, s_ref1_Put F U), (134, s_ref1_Text F U)]
theorem ok_ref8_Leaf : SpecsOK Try.prog (sp_ref8_Leaf real us) := sp_cons r_ref8_keys k_ref8_keys (sp_cons r_ref8_Size k_ref8_Size (sp_cons r_ref1_Put k_ref1_Put (sp_cons r_ref1_Text k_ref1_Text sp_nil)))
noncomputable def an_ref8_Leaf (F : Fs) (U : Us) (l : List D) : Anns := [(3, ⟨Nat, fun i => F.pLe i (F.lenD l) ∧ ∀ j : Nat, F.pLt j i → F.pLe (F.lenB (F.dS (F.dF (F.getD l j) 1))) 150, fun i => F.subn (F.lenD l) i, fun i => ⟨[(0, .rb 2 (.ds (.t [.s, .s]) l)), (4, .rw 5), (5, .i (F.int i))], [(4, 5, .row 9 1 (.ss (U.keysOf l i)))]⟩⟩),
  (14, ⟨Nat, fun i => F.pLe i (F.lenD l), fun i => F.subn (F.lenD l) i, fun i => ⟨[(0, .rb 2 (.ds (.t [.s, .s]) l)), (6, .rw 5), (7, .i (F.int i))], [(6, 5, .row 5 1 (.bt (U.leafP l i)))]⟩⟩)]
noncomputable def g_ref8_Leaf (F : Fs) (U : Us) : Law
  | [.rb 2 (.ds (.t [.s, .s]) l)] => some (F.pLe (F.lenD l) 1000000000000, [.row 5 1 (.bt (U.leafB l)), .val (.i (U.leafE l))])
  | _ => none
noncomputable def s_ref8_Leaf (F : Fs) (U : Us) : Vc.Spec := pureSpec F false [.row (.kD (.t [.s, .s]))] (g_ref8_Leaf F U)
noncomputable def x_ref8_Leaf (F : Fs) (U : Us) : Cx := ⟨Try.f113.ntmps, tt F, sp_ref8_Leaf F U, [], [(16, ([(9, [3, 5, 6]), (11, [3, 5, 6])], [(6, [4000]), (12, [6])]))], [], []⟩
theorem c_ref8_Leaf (l : List D) (hc : real.pLe (real.lenD l) 1000000000000) : vc real (x_ref8_Leaf real us) (an_ref8_Leaf real us l) [] (Try.f113.body.getD .skip) ⟨zipSl 0 [.rb 2 (.ds (.t [.s, .s]) l)], [], 64⟩ (retOk real (tt real) false Try.f113.results.toList [.row 5 1 (.bt (us.leafB l)), .val (.i (us.leafE l))]) := by
  generalize hU : us = U
  generalize hF : real = F
  have hl : l.length ≤ 1000000000000 := hc
  cbv
  repeat' first | apply And.intro | refine Classical.or_iff_not_imp_left.2 (fun _ => ?_) | exact trivial
  all_goals try (subst hF hU; simp only [real, us, Nat.le_eq, Int.cast_ofNat_Int, decide_eq_false_iff_not, decide_eq_true_eq, List.length_take, List.length_drop, List.length_append, List.length_replicate, List.length_set, List.length_cons, List.length_nil, List.length_zipWith] at *; (try simp (disch := omega) only [wrap_sm] at *); omega)
  · refine ⟨(0 : Nat), ?_⟩
    cbv; subst hF hU
    exact ⟨⟨Nat.zero_le _, fun j hj => absurd hj (Nat.not_lt_zero j)⟩, (keysOf_zero l).symm, trivial⟩
  · intro (i : Nat) hi
    have h1 : i ≤ l.length := by subst hF; exact hi.1
    have h2 : ∀ j, j < i → (pv l j).length ≤ 150 := by subst hF; exact hi.2
    clear hi
    cbv
    repeat' first | apply And.intro | refine Classical.or_iff_not_imp_left.2 (fun _ => ?_) | exact trivial
    all_goals try (subst hF hU; simp only [real, us, Nat.le_eq, Int.cast_ofNat_Int, decide_eq_false_iff_not, decide_eq_true_eq, List.length_take, List.length_drop, List.length_append, List.length_replicate, List.length_set, List.length_cons, List.length_nil, List.length_zipWith] at *; (try simp (disch := omega) only [wrap_sm] at *); omega)
    · rename_i g1 g2; subst hF hU; exact (leaf_90 (lt_g (n := l.length) g1) (not_val g2)).1
    · rename_i g1 g2; subst hF hU; exact (leaf_90 (lt_g (n := l.length) g1) (not_val g2)).2
    · subst hF hU; exact keys_cap [] h1 hl
    · rename_i g1 g2
      refine ⟨(i + 1 : Nat), ?_⟩
      cbv; subst hF hU
      have hlt := lt_g (n := l.length) g1
      refine ⟨⟨hlt, fun j hj => ?_⟩, sub_stepN hlt, ⟨addi1 (by omega), trivial⟩, keysOf_step l i, trivial⟩
      by_cases e : j = i
      · subst e; exact is_val g2
      · exact h2 j (by have : j < i + 1 := hj; omega)
    · subst hF hU
      show (us.keysOf l i).length ≤ 1000000000000
      exact Nat.le_trans (Nat.le_of_eq (keysOf_len l i)) (Nat.le_trans h1 hl)
    · rename_i g1 g2
      subst hF hU
      have e : i = l.length := by have := ge_g (n := l.length) g1; omega
      subst e; exact (keys_no h2 g2).1
    · rename_i g1 g2
      subst hF hU
      have e : i = l.length := by have := ge_g (n := l.length) g1; omega
      subst e; exact (keys_no h2 g2).2
    · rename_i g1 g2 g3
      subst hF hU
      have e : i = l.length := by have := ge_g (n := l.length) g1; omega
      subst e; exact (leaf_11 (keys_yes h2 g2) g3).1
    · rename_i g1 g2 g3
      subst hF hU
      have e : i = l.length := by have := ge_g (n := l.length) g1; omega
      subst e; exact (leaf_11 (keys_yes h2 g2) g3).2
    · refine ⟨(0 : Nat), ?_⟩
      cbv; subst hF hU
      exact ⟨Nat.zero_le _, leafP_zero hl, trivial⟩
    · rename_i g1 g2 g3
      have e : i = l.length := by subst hF; have := ge_g (n := l.length) g1; omega
      subst e
      have hok : u_okN l l.length = true := by subst hF hU; exact keys_yes h2 g2
      have hs : u_nsz l l.length ≤ 480 := by subst hF hU; exact leaf_sz g3
      clear g1 g2 g3 h1
      intro (j : Nat) hj
      have h1 : j ≤ l.length := by subst hF; exact hj
      clear hj
      cbv
      repeat' first | apply And.intro | refine Classical.or_iff_not_imp_left.2 (fun _ => ?_) | exact trivial
      all_goals try (subst hF hU; simp only [real, us, Nat.le_eq, Int.cast_ofNat_Int, decide_eq_false_iff_not, decide_eq_true_eq, List.length_take, List.length_drop, List.length_append, List.length_replicate, List.length_set, List.length_cons, List.length_nil, List.length_zipWith] at *; (try simp (disch := omega) only [wrap_sm] at *); omega)
      · rename_i g1; subst hF hU; exact (leaf_fit hok hs (lt_g g1)).1
      · subst hF hU; exact leaf_fitP hok hs h1
      · rename_i g1; subst hF hU; exact (leaf_fit hok hs (lt_g g1)).2.1
      · rename_i g1; subst hF hU; exact (leaf_fit hok hs (lt_g g1)).2.2
      · rename_i g1
        refine ⟨(j + 1 : Nat), ?_⟩
        cbv; subst hF hU
        have hlt := lt_g (n := l.length) g1
        exact ⟨hlt, sub_stepN hlt, ⟨addi1 (by omega), trivial⟩, leafP_step, trivial⟩
      · rename_i g1; subst hF hU
        have e : j = l.length := by have := ge_g (n := l.length) g1; omega
        subst e; exact (leaf_0 hok hs).1
      · subst hF hU; exact (leaf_0 hok hs).2
theorem k_ref8_Leaf : SpecOK Try.prog 113 (s_ref8_Leaf real us) := by
  refine pure_sound (x := x_ref8_Leaf real us) ⟨tt_ok, ok_ref8_Leaf, Go.Vc.ks_nil⟩ mixed Try.func113 rfl rfl (by kernel_rfl) ?_
  intro l c rs hg hc
  unfold g_ref8_Leaf at hg
  split at hg
  · cases hg; exact ⟨Nat.le_of_ble_eq_true rfl, an_ref8_Leaf real us _, [], c_ref8_Leaf _ hc⟩
  · cases hg

end Go.Proofs.Ytmldccfchnlpgaa
set_option linter.unusedVariables false
set_option linter.unusedSimpArgs false
set_option maxRecDepth 100000
set_option maxHeartbeats 1000000
namespace Go.Proofs.Ytmldccfchnlpgaa
open Go Go.Vc
attribute [local irreducible] u_brB u_brE u_brP u_brR u_brQ u_okK u_okQ u_bsz u_isKey
theorem r_ref8_Branch : Ready Try.prog 114 := by unfold Ready; kernel_rfl
noncomputable def sp_ref8_Branch (F : Fs) (U : Us) : Specs := [(132, s_ref8_keys F U), (97, s_ref1_Put F U), (134, s_ref1_Text F U)]
theorem ok_ref8_Branch : SpecsOK Try.prog (sp_ref8_Branch real us) := sp_cons r_ref8_keys k_ref8_keys (sp_cons r_ref1_Put k_ref1_Put (sp_cons r_ref1_Text k_ref1_Text sp_nil))
noncomputable def an_ref8_Branch (F : Fs) (U : Us) (ks : List (List UInt8)) (kids : List UInt32) : Anns := [(5, ⟨Nat, fun i => F.pLe i (F.lenS ks) ∧ F.pLe (F.lenB (U.brP ks i)) 480, fun i => F.subn (F.lenS ks) i, fun i => ⟨[(0, .rb 1 (.ss ks)), (1, .rb 1 (.wd kids)), (6, .rw 5), (7, .i (F.int i))], [(6, 5, .row 5 1 (.bt (U.brP ks i)))]⟩⟩),
  (11, ⟨Nat, fun i => F.pLe i (F.lenW kids), fun i => F.subn (F.lenW kids) i, fun i => ⟨[(1, .rb 1 (.wd kids)), (6, .rw 5), (8, .i (F.int i))], [(6, 5, .row 5 1 (.bt (U.brR ks kids i)))]⟩⟩)]
noncomputable def g_ref8_Branch (F : Fs) (U : Us) : Law
  | [.rb 1 (.ss ks), .rb 1 (.wd kids)] => some (F.pLe (F.lenS ks) 1000000000000 ∧ F.pLe (F.lenW kids) 1000000000000, [.row 5 1 (.bt (U.brB ks kids)), .val (.i (U.brE ks kids))])
  | _ => none
noncomputable def s_ref8_Branch (F : Fs) (U : Us) : Vc.Spec := pureSpec F false [.row .kS, .row .kW] (g_ref8_Branch F U)
noncomputable def x_ref8_Branch (F : Fs) (U : Us) : Cx := ⟨Try.f114.ntmps, tt F, sp_ref8_Branch F U, [], [], [], []⟩
theorem c_ref8_Branch (ks : List (List UInt8)) (kids : List UInt32) (hc : real.pLe (real.lenS ks) 1000000000000 ∧ real.pLe (real.lenW kids) 1000000000000) : vc real (x_ref8_Branch real us) (an_ref8_Branch real us ks kids) [] (Try.f114.body.getD .skip) ⟨zipSl 0 [.rb 1 (.ss ks), .rb 1 (.wd kids)], [], 64⟩ (retOk real (tt real) false Try.f114.results.toList [.row 5 1 (.bt (us.brB ks kids)), .val (.i (us.brE ks kids))]) := by
  generalize hU : us = U
  generalize hF : real = F
  have hk : ks.length ≤ 1000000000000 := hc.1
  have hq : kids.length ≤ 1000000000000 := hc.2
  cbv
  repeat' first | apply And.intro | refine Classical.or_iff_not_imp_left.2 (fun _ => ?_) | exact trivial
  all_goals try (subst hF hU; simp only [real, us, Nat.le_eq, Int.cast_ofNat_Int, decide_eq_false_iff_not, decide_eq_true_eq, List.length_take, List.length_drop, List.length_append, List.length_replicate, List.length_set, List.length_cons, List.length_nil, List.length_zipWith] at *; (try simp (disch := omega) only [wrap_sm] at *); omega)
  · rename_i g1 g2 g3; subst hF hU; exact (brS_keys g3).1
  · rename_i g1 g2 g3; subst hF hU; exact (brS_keys g3).2
  · refine ⟨(0 : Nat), ?_⟩
    cbv; subst hF hU
    exact ⟨⟨Nat.zero_le _, brP_zero_len ks⟩, brP_zero hk, trivial⟩
  · rename_i g1 g2 g3
    have h0 : ks.length ≠ 0 := by subst hF; exact brS_some g1
    have hkq : kids.length = ks.length + 1 := by subst hF; exact br_kids hq g2
    have hok : u_okK ks ks.length = true := by subst hF hU; exact brS_ok g3
    clear g1 g2 g3
    intro (i : Nat) hi
    have h1 : i ≤ ks.length := by subst hF; exact hi.1
    have h2 : (u_brP ks i).length ≤ 480 := by subst hF hU; exact hi.2
    clear hi
    cbv
    repeat' first | apply And.intro | refine Classical.or_iff_not_imp_left.2 (fun _ => ?_) | exact trivial
    all_goals try (subst hF hU; simp only [real, us, Nat.le_eq, Int.cast_ofNat_Int, decide_eq_false_iff_not, decide_eq_true_eq, List.length_take, List.length_drop, List.length_append, List.length_replicate, List.length_set, List.length_cons, List.length_nil, List.length_zipWith] at *; (try simp (disch := omega) only [wrap_sm] at *); omega)
    · rename_i g1; subst hF hU; exact br_fit hok (lt_g (n := ks.length) g1)
    · rename_i g1 g2; subst hF hU; exact (br_11' h0 hkq hok (brS_over hok hk (lt_g (n := ks.length) g1) g2)).1
    · rename_i g1 g2; subst hF hU; exact (br_11' h0 hkq hok (brS_over hok hk (lt_g (n := ks.length) g1) g2)).2
    · rename_i g1 g2
      refine ⟨(i + 1 : Nat), ?_⟩
      cbv; subst hF hU
      have hlt := lt_g (n := ks.length) g1
      exact ⟨⟨hlt, brS_len_le g2⟩, sub_stepN hlt, ⟨addi1 (by omega), trivial⟩, brP_step, trivial⟩
    · rename_i g1
      have e : i = ks.length := by subst hF; have := ge_g (n := ks.length) g1; omega
      refine ⟨(0 : Nat), ?_⟩
      cbv; subst hF hU e
      exact ⟨Nat.zero_le _, brR_zero, trivial⟩
    · rename_i g1
      have e : i = ks.length := by subst hF; have := ge_g (n := ks.length) g1; omega
      subst e
      clear g1 h1
      intro (j : Nat) hj
      have h1 : j ≤ kids.length := by subst hF; exact hj
      clear hj
      have hsm := brS_small hok hk h2 h1 hkq
      cbv
      repeat' first | apply And.intro | refine Classical.or_iff_not_imp_left.2 (fun _ => ?_) | exact trivial
      all_goals try (subst hF hU; simp only [real, us, Nat.le_eq, Int.cast_ofNat_Int, decide_eq_false_iff_not, decide_eq_true_eq, List.length_take, List.length_drop, List.length_append, List.length_replicate, List.length_set, List.length_cons, List.length_nil, List.length_zipWith] at *; (try simp (disch := omega) only [wrap_sm] at *); omega)
      · rename_i g1
        refine ⟨(j + 1 : Nat), ?_⟩
        cbv; subst hF hU
        have hlt := lt_g (n := kids.length) g1
        exact ⟨hlt, sub_stepN hlt, ⟨addi1 (by omega), trivial⟩, brR_step, trivial⟩
      · rename_i g1 g2; subst hF hU
        have e : j = kids.length := by have := ge_g (n := kids.length) g1; omega
        subst e; exact (br_11' h0 hkq hok (br_lastOver hkq hok hk g2)).1
      · rename_i g1 g2; subst hF hU
        have e : j = kids.length := by have := ge_g (n := kids.length) g1; omega
        subst e; exact (br_11' h0 hkq hok (br_lastOver hkq hok hk g2)).2
      · rename_i g1 g2; subst hF hU
        have e : j = kids.length := by have := ge_g (n := kids.length) g1; omega
        subst e; exact (br_endR h0 hkq hok (br_lastFit hkq hok hk g2)).1
      · rename_i g1 g2; subst hF hU
        have e : j = kids.length := by have := ge_g (n := kids.length) g1; omega
        subst e; exact (br_endR h0 hkq hok (br_lastFit hkq hok hk g2)).2
  · rename_i g1 g2; subst hF hU; exact (br_nokids hq g2).1
  · rename_i g1 g2; subst hF hU; exact (br_nokids hq g2).2
  · rename_i g1; subst hF hU; exact (brS_none g1).1
  · rename_i g1; subst hF hU; exact (brS_none g1).2
theorem k_ref8_Branch : SpecOK Try.prog 114 (s_ref8_Branch real us) := by
  refine pure_sound (x := x_ref8_Branch real us) ⟨tt_ok, ok_ref8_Branch, Go.Vc.ks_nil⟩ mixed Try.func114 rfl rfl (by kernel_rfl) ?_
  intro l c rs hg hc
  unfold g_ref8_Branch at hg
  split at hg
  · cases hg; exact ⟨Nat.le_of_ble_eq_true rfl, an_ref8_Branch real us _ _, [], c_ref8_Branch _ _ hc⟩
  · cases hg

end Go.Proofs.Ytmldccfchnlpgaa
set_option linter.unusedVariables false
set_option linter.unusedSimpArgs false
set_option maxRecDepth 100000
set_option maxHeartbeats 1000000
namespace Go.Proofs.Ytmldccfchnlpgaa
open Go Go.Vc
theorem gv_put (x : UInt64) : ∀ (k : Nat) (acc : UInt64) (r : List UInt8), ((putK x k ++ r).take k).foldl (fun (n : UInt64) (c : UInt8) => n <<< 8 ||| UInt64.ofNat c.toNat) acc = (putK x k).foldl (fun (n : UInt64) (c : UInt8) => n <<< 8 ||| UInt64.ofNat c.toNat) acc := by
  intro k acc r
  rw [List.take_left' (putK_len x k)]
theorem shl8_or (n : UInt64) (b : Nat) (hb : b < 256) : (n <<< 8 ||| UInt64.ofNat b).toNat = (n.toNat * 256 + b) % 18446744073709551616 := by
  have h1 : (n <<< (8 : UInt64)).toNat = n.toNat * 256 % 18446744073709551616 := by
    rw [UInt64.toNat_shiftLeft]
    show n.toNat <<< 8 % 2 ^ 64 = _
    rw [Nat.shiftLeft_eq]
  have h2 : (UInt64.ofNat b).toNat = b := UInt64.toNat_ofNat_of_lt' (by simp [UInt64.size]; omega)
  rw [UInt64.toNat_or, h1, h2]
  have h3 : n.toNat * 256 % 18446744073709551616 = 2 ^ 8 * (n.toNat % 72057594037927936) := by omega
  rw [h3, ← Nat.two_pow_add_eq_or_of_lt (by omega : b < 2 ^ 8)]
  omega
theorem fold_put (x : UInt64) : ∀ (k : Nat) (acc : UInt64), k ≤ 8 → ((putK x k).foldl (fun (n : UInt64) (c : UInt8) => n <<< 8 ||| UInt64.ofNat c.toNat) acc).toNat = (acc.toNat * 2 ^ (8 * k) + x.toNat % 2 ^ (8 * k)) % 18446744073709551616
  | 0, acc, _ => by
    have := acc.toNat_lt
    simp [putK, Nat.mod_one]
  | k + 1, acc, h => by
    have hb : (UInt8.ofNat (x.toNat / 2 ^ (8 * k))).toNat = x.toNat / 2 ^ (8 * k) % 256 := by simp
    rw [putK, List.foldl_cons, fold_put x k _ (by omega), shl8_or _ _ (UInt8.toNat_lt _), hb]
    have e1 : 2 ^ (8 * (k + 1)) = 2 ^ (8 * k) * 256 := by rw [Nat.mul_add, Nat.pow_add]
    have e2 : x.toNat % (2 ^ (8 * k) * 256) = x.toNat % 2 ^ (8 * k) + 2 ^ (8 * k) * (x.toNat / 2 ^ (8 * k) % 256) := Nat.mod_mul
    rw [e1, e2]
    generalize 2 ^ (8 * k) = p
    generalize x.toNat / p % 256 = b
    generalize x.toNat % p = q
    rw [Nat.add_mod, Nat.mul_mod, Nat.mod_mod, ← Nat.mul_mod, ← Nat.add_mod]
    congr 1
    rw [Nat.add_mul, Nat.mul_assoc, Nat.mul_comm 256 p, Nat.mul_comm b p]
    omega
theorem get_put (x : UInt64) (w : Nat) (hw : w ≤ 8) (r : List UInt8) : (u_getV (putK x w ++ r) (w : Int)).toNat = x.toNat % 2 ^ (8 * w) ∧ u_getA (putK x w ++ r) (w : Int) = w ∧ u_getE (putK x w ++ r) (w : Int) = 0 := by
  have e : (min (max (w : Int) 0) 8).toNat = w := by omega
  have hl : w ≤ (putK x w ++ r).length := by rw [List.length_append, putK_len]; omega
  simp only [u_getV, u_getA, u_getE, e, if_pos hl]
  refine ⟨?_, trivial, trivial⟩
  rw [gv_put, fold_put x w 0 hw]
  have h1 : x.toNat % 2 ^ (8 * w) ≤ x.toNat := Nat.mod_le _ _
  have h2 := x.toNat_lt
  rw [show (0 : UInt64).toNat = 0 from rfl, Nat.zero_mul, Nat.zero_add, Nat.mod_eq_of_lt (by omega)]
/-! ## What is written is read -/
theorem rst_eq (x : List UInt8) (a : Nat) : u_rst x a = x.drop a := by
  unfold u_rst
  rw [List.take_of_length_le (by rw [List.length_drop]; exact Nat.le_refl _)]
theorem leafP_ext (l : List D) (i : Nat) : ∀ k, ∃ T, u_leafP l (i + k) = u_leafP l i ++ T
  | 0 => ⟨[], by simp⟩
  | k + 1 => by
    obtain ⟨T, h⟩ := leafP_ext l i k
    refine ⟨T ++ (u_text (pk l (i + k)) ++ u_text (pv l (i + k))), ?_⟩
    rw [← Nat.add_assoc, u_leafP, h]
    simp only [List.append_assoc]
theorem leafP_at (l : List D) (i n : Nat) (h : i < n) : ∃ T, u_leafP l n = u_leafP l i ++ (u_text (pk l i) ++ (u_text (pv l i) ++ T)) := by
  obtain ⟨T, hT⟩ := leafP_ext l (i + 1) (n - (i + 1))
  rw [show i + 1 + (n - (i + 1)) = n by omega] at hT
  refine ⟨T, ?_⟩
  rw [hT, u_leafP]
  simp only [List.append_assoc]
theorem nsz_count (l : List D) : ∀ i, u_nsz l i < 100000 → 4 * (i : Int) + 3 ≤ u_nsz l i
  | 0, _ => by simp [u_nsz]
  | i + 1, h => by
    have h3 := nsz_mono l i 1
    have ih := nsz_count l i (by omega)
    rw [u_nsz] at h ⊢
    omega
theorem leaf_parts {l : List D} (h : u_leafE l = 0) : u_okN l l.length = true ∧ u_nsz l l.length ≤ 480 ∧ l.length ≤ 120 := by
  unfold u_leafE at h
  split at h
  · cases h
  · rename_i h1
    split at h
    · cases h
    · rename_i h2
      have := nsz_count l l.length (by omega)
      exact ⟨by simpa using h1, by omega, by omega⟩
theorem gt_textU (s r : List UInt8) (m : Nat) (h : s.length ≤ m) (hm : m ≤ 65535) : u_gtS (u_text s ++ r) m = s ∧ u_gtA (u_text s ++ r) m = 2 + s.length ∧ u_gtE (u_text s ++ r) m = 0 :=
  text_gt s r (by omega) (m : Int) (by omega)
theorem rst_text (s r : List UInt8) (h : s.length ≤ 65535) : u_rst (u_text s ++ r) (2 + s.length) = r := by
  rw [rst_eq, ← textN_len s h, List.drop_left]
/-- a node's head -/
theorem hd_put (c : UInt8) (n : Nat) (hn : n ≤ 65535) (T : List UInt8) : (u_getV (u_rst (c :: (putK (UInt64.ofNat n) 2 ++ T)) 1) 2).toNat = n ∧ u_hd (c :: (putK (UInt64.ofNat n) 2 ++ T)) = (T, false) := by
  have e1 : u_rst (c :: (putK (UInt64.ofNat n) 2 ++ T)) 1 = putK (UInt64.ofNat n) 2 ++ T := by rw [rst_eq]; rfl
  obtain ⟨h1, h2, h3⟩ := get_put (UInt64.ofNat n) 2 (by omega) T
  have e2 : (UInt64.ofNat n).toNat = n := UInt64.toNat_ofNat_of_lt' (by simp [UInt64.size]; omega)
  unfold u_hd
  rw [e1]
  refine ⟨by have : ((2 : Nat) : Int) = 2 := rfl
             rw [this] at h1; rw [h1, e2]; omega, ?_⟩
  have h2 : u_getA (putK (UInt64.ofNat n) 2 ++ T) 2 = 2 := h2
  have h3 : u_getE (putK (UInt64.ofNat n) 2 ++ T) 2 = 0 := h3
  rw [h2, h3, rst_eq]
  have : (putK (UInt64.ofNat n) 2 ++ T).drop 2 = T := by
    have e3 : (putK (UInt64.ofNat n) 2).length = 2 := putK_len _ _
    have e4 : (putK (UInt64.ofNat n) 2 ++ T).drop (putK (UInt64.ofNat n) 2).length = T := List.drop_left
    rw [e3] at e4; exact e4
  rw [this]; rfl
theorem pair_of {l : List D} (hp : ∀ x ∈ l, isPair x) {i : Nat} (h : i < l.length) : l[i] = .t [.s (pk l i), .s (pv l i)] := by
  obtain ⟨k, v, e⟩ := hp l[i] (List.getElem_mem h)
  have e2 : l.getD i D.no = .t [.s k, .s v] := by
    rw [List.getD_eq_getElem?_getD, List.getElem?_eq_getElem h]; exact e
  unfold pk pv
  rw [e2]
  exact e
/-- the pairs come back, one by one, whatever stands behind them -/
theorem nl_run {l : List D} (hp : ∀ x ∈ l, isPair x) (hE : u_leafE l = 0) (t : List UInt8) : (u_getV (u_rst (u_leafP l l.length ++ t) 1) 2).toNat = l.length ∧
    ∀ i, i ≤ l.length → ∃ T, u_leafP l l.length ++ t = u_leafP l i ++ T ∧ u_nl (u_leafP l l.length ++ t) i = (T, false, l.take i) := by
  obtain ⟨hok, hs, hn⟩ := leaf_parts hE
  obtain ⟨T0, hT0⟩ := leafP_ext l 0 l.length
  rw [Nat.zero_add] at hT0
  have hb : u_leafP l l.length ++ t = 1 :: (putK (UInt64.ofNat l.length) 2 ++ (T0 ++ t)) := by
    rw [hT0, u_leafP]
    simp only [List.append_assoc, List.cons_append]
  obtain ⟨h1, h2⟩ := hd_put 1 l.length (by omega) (T0 ++ t)
  refine ⟨by rw [hb]; exact h1, fun i => ?_⟩
  induction i with
  | zero =>
    intro _
    refine ⟨T0 ++ t, by rw [hT0, List.append_assoc], ?_⟩
    unfold u_nl
    rw [hb, h2]
    rfl
  | succ i ih =>
    intro hi
    obtain ⟨T, hT, hs2⟩ := ih (by omega)
    obtain ⟨T2, hT2⟩ := leafP_at l i l.length (by omega)
    have hk := okP_len (okP_of _ i hok (by omega))
    have e : T = u_text (pk l i) ++ (u_text (pv l i) ++ (T2 ++ t)) := by
      rw [hT2] at hT
      simp only [List.append_assoc] at hT
      exact (List.append_cancel_left hT).symm
    have g1 := gt_textU (pk l i) (u_text (pv l i) ++ (T2 ++ t)) 60 hk.2.1 (by omega)
    have g2 := gt_textU (pv l i) (T2 ++ t) 150 hk.2.2 (by omega)
    have r1 : u_rst T (u_gtA T 60) = u_text (pv l i) ++ (T2 ++ t) := by
      have h3 : u_gtA T 60 = 2 + (pk l i).length := by rw [e]; exact g1.2.1
      rw [h3, e, rst_text _ _ (by omega)]
    have q1 : u_gtS T 60 = pk l i := by rw [e]; exact g1.1
    have q2 : u_gtE T 60 = 0 := by rw [e]; exact g1.2.2
    have q3 : u_gtS (u_text (pv l i) ++ (T2 ++ t)) 150 = pv l i := g2.1
    have q4 : u_gtE (u_text (pv l i) ++ (T2 ++ t)) 150 = 0 := g2.2.2
    have q5 : u_gtA (u_text (pv l i) ++ (T2 ++ t)) 150 = 2 + (pv l i).length := g2.2.1
    refine ⟨T2 ++ t, ?_, ?_⟩
    · rw [u_leafP, hT, e]
      simp only [List.append_assoc]
    · rw [u_nl, hs2]
      simp only [r1, q1, q2, q3, q4, q5, rst_text (pv l i) (T2 ++ t) (by omega)]
      refine Prod.ext rfl (Prod.ext rfl ?_)
      show l.take i ++ [.t [.s (pk l i), .s (pv l i)]] = l.take (i + 1)
      rw [← pair_of hp (by omega : i < l.length), List.take_succ_eq_append_getElem]
theorem leafB_eq {l : List D} (h : u_leafE l = 0) : u_leafB l = u_leafP l l.length := by unfold u_leafB; rw [if_pos h]
/-- what one leaf's bytes begin with, no other leaf's do -/
theorem leaf_pre {l m : List D} (hl : ∀ x ∈ l, isPair x) (hm : ∀ x ∈ m, isPair x) (el : u_leafE l = 0) (em : u_leafE m = 0) {t : List UInt8} (h : u_leafB m = u_leafB l ++ t) : l = m ∧ t = [] := by
  rw [leafB_eq el, leafB_eq em] at h
  obtain ⟨a1, a2⟩ := nl_run hl el t
  obtain ⟨b1, b2⟩ := nl_run hm em []
  rw [List.append_nil, h] at b1 b2
  have hn : l.length = m.length := by rw [← a1, ← b1]
  obtain ⟨T1, _, e1⟩ := a2 l.length (Nat.le_refl _)
  obtain ⟨T2, _, e2⟩ := b2 l.length (by omega)
  rw [e1] at e2
  have e3 : l = m := by
    have := (Prod.mk.inj (Prod.mk.inj e2).2).2
    rw [List.take_length, hn, List.take_length] at this
    exact this
  subst e3
  refine ⟨rfl, ?_⟩
  have := congrArg List.length h
  rw [List.length_append] at this
  exact List.length_eq_zero_iff.1 (by omega)
theorem goodL_one {l m : List D} {b : List UInt8} (hl : goodL l b) (hm : goodL m b) : l = m :=
  (leaf_pre hl.1 hm.1 hl.2.1 hm.2.1 (t := []) (by rw [List.append_nil, hl.2.2, hm.2.2])).1
theorem lf_some {l : List D} {b : List UInt8} (h : goodL l b) : u_lf b = some l := by
  have hex : ∃ l, goodL l b := ⟨l, h⟩
  unfold u_lf
  rw [dif_pos hex]
  exact congrArg some (goodL_one hex.choose_spec h)
theorem lf_none {b : List UInt8} (h : ∀ l, ¬ goodL l b) : u_lf b = none := by
  unfold u_lf
  rw [dif_neg (fun ⟨l, hl⟩ => h l hl)]
end Go.Proofs.Ytmldccfchnlpgaa
set_option linter.unusedVariables false
set_option linter.unusedSimpArgs false
set_option maxRecDepth 100000
set_option maxHeartbeats 1000000
namespace Go.Proofs.Ytmldccfchnlpgaa
open Go Go.Vc
attribute [local irreducible] u_getV u_getA u_getE u_gtS u_gtA u_gtE
theorem cond_f {d x : Bool} (h : ¬ real.pB d true) : x = real.cond d true x := by
  cases d with
  | false => rfl
  | true => exact absurd rfl h
theorem cond_t {d x : Bool} (h : ¬ real.pB d false) : true = real.cond d true x := by
  cases d with
  | true => rfl
  | false => exact absurd rfl h
theorem r_node_reader_num : Ready Try.prog 110 := by unfold Ready; kernel_rfl
noncomputable def sp_node_reader_num (F : Fs) (U : Us) : Specs := [(131, s_bits_Get F U)]
theorem ok_node_reader_num : SpecsOK Try.prog (sp_node_reader_num real us) := sp_cons r_bits_Get k_bits_Get sp_nil
noncomputable def g_node_reader_num (F : Fs) (U : Us) : HLaw := fun l mm => match l, mm with
  | [.p 0 0 0, .i k], [.bk T0 [(n1, .vs [.rb 1 (.bt x)]), (n2, .vs [.b d])]] => match Nat.beq T0 151, Nat.beq n1 1, Nat.beq n2 1 with
    | true, true, true => some (F.pLe (F.lenB x) 1000000, [.val (.i (F.wrapi (F.toI64 (U.getV x k))))], [some (.bk 151 [(1, .vs [.rb 1 (.bt (F.cutB x (U.getA x k) (F.subn (F.lenB x) (U.getA x k))))]), (1, .vs [.b (F.cond d true (F.notb (F.eqi (U.getE x k) (F.int 0))))])])])
    | _, _, _ => none
  | _, _ => none
noncomputable def s_node_reader_num (F : Fs) (U : Us) : Vc.Spec := hSpec 1 (g_node_reader_num F U)
noncomputable def x_node_reader_num (F : Fs) (U : Us) : Cx := ⟨Try.f110.ntmps, tt F, sp_node_reader_num F U, [], [], [0], []⟩
theorem c_node_reader_num (x : List UInt8) (d : Bool) (k : Int) (hc : real.pLe (real.lenB x) 1000000) : vc real (x_node_reader_num real us) [] [] (Try.f110.body.getD .skip) ⟨zipSl 0 [.p 0 0 0, .i k], zipMe 0 [.bk 151 [(1, .vs [.rb 1 (.bt x)]), (1, .vs [.b d])]], 64⟩ (retHOk real (tt real) Try.f110.results.toList [.bk 151 [(1, .vs [.rb 1 (.bt x)]), (1, .vs [.b d])]] [.val (.i (real.wrapi (real.toI64 (us.getV x k))))] [some (.bk 151 [(1, .vs [.rb 1 (.bt (real.cutB x (us.getA x k) (real.subn (real.lenB x) (us.getA x k))))]), (1, .vs [.b (real.cond d true (real.notb (real.eqi (us.getE x k) (real.int 0))))])])]) := by
  generalize hU : us = U
  generalize hF : real = F
  cbv
  repeat' first | apply And.intro | refine Classical.or_iff_not_imp_left.2 (fun _ => ?_) | exact trivial
  all_goals try (subst hF hU; simp only [real, us, Nat.le_eq, Int.cast_ofNat_Int, decide_eq_false_iff_not, decide_eq_true_eq, List.length_take, List.length_drop, List.length_append, List.length_replicate, List.length_set, List.length_cons, List.length_nil, List.length_zipWith] at *; (try simp (disch := omega) only [wrap_sm] at *); omega)
  · rename_i h; subst hF hU; exact cond_f h
  · rename_i h; subst hF hU; exact cond_t h
theorem k_node_reader_num : SpecOK Try.prog 110 (s_node_reader_num real us) := by
  refine h_sound (x := x_node_reader_num real us) ⟨tt_ok, ok_node_reader_num, Go.Vc.ks_nil⟩ mixed Try.func110 rfl rfl (by kernel_rfl) (by decide) (fun j hj => by simp [x_node_reader_num]; omega) ?_
  intro l mm c rs ch hg hl hc
  unfold g_node_reader_num at hg
  split at hg
  · split at hg
    · rename_i h0 h1 h2
      have z0 := beq_nat h0
      have z1 := beq_nat h1
      have z2 := beq_nat h2
      subst z0
      subst z1
      subst z2
      cases hg
      exact ⟨Nat.le_of_ble_eq_true rfl, [], [], c_node_reader_num _ _ _ hc⟩
    · cases hg
  · cases hg

theorem r_node_reader_text : Ready Try.prog 109 := by unfold Ready; kernel_rfl
noncomputable def sp_node_reader_text (F : Fs) (U : Us) : Specs := [(130, s_bits_GetText F U)]
theorem ok_node_reader_text : SpecsOK Try.prog (sp_node_reader_text real us) := sp_cons r_bits_GetText k_bits_GetText sp_nil
noncomputable def g_node_reader_text (F : Fs) (U : Us) : HLaw := fun l mm => match l, mm with
  | [.p 0 0 0, .i k], [.bk T0 [(n1, .vs [.rb 1 (.bt x)]), (n2, .vs [.b d])]] => match Nat.beq T0 151, Nat.beq n1 1, Nat.beq n2 1 with
    | true, true, true => some (F.pLe (F.lenB x) 1000000, [.val (.s (U.gtS x k))], [some (.bk 151 [(1, .vs [.rb 1 (.bt (F.cutB x (U.gtA x k) (F.subn (F.lenB x) (U.gtA x k))))]), (1, .vs [.b (F.cond d true (F.notb (F.eqi (U.gtE x k) (F.int 0))))])])])
    | _, _, _ => none
  | _, _ => none
noncomputable def s_node_reader_text (F : Fs) (U : Us) : Vc.Spec := hSpec 1 (g_node_reader_text F U)
noncomputable def x_node_reader_text (F : Fs) (U : Us) : Cx := ⟨Try.f109.ntmps, tt F, sp_node_reader_text F U, [], [], [0], []⟩
theorem c_node_reader_text (x : List UInt8) (d : Bool) (k : Int) (hc : real.pLe (real.lenB x) 1000000) : vc real (x_node_reader_text real us) [] [] (Try.f109.body.getD .skip) ⟨zipSl 0 [.p 0 0 0, .i k], zipMe 0 [.bk 151 [(1, .vs [.rb 1 (.bt x)]), (1, .vs [.b d])]], 64⟩ (retHOk real (tt real) Try.f109.results.toList [.bk 151 [(1, .vs [.rb 1 (.bt x)]), (1, .vs [.b d])]] [.val (.s (us.gtS x k))] [some (.bk 151 [(1, .vs [.rb 1 (.bt (real.cutB x (us.gtA x k) (real.subn (real.lenB x) (us.gtA x k))))]), (1, .vs [.b (real.cond d true (real.notb (real.eqi (us.gtE x k) (real.int 0))))])])]) := by
  generalize hU : us = U
  generalize hF : real = F
  cbv
  repeat' first | apply And.intro | refine Classical.or_iff_not_imp_left.2 (fun _ => ?_) | exact trivial
  all_goals try (subst hF hU; simp only [real, us, Nat.le_eq, Int.cast_ofNat_Int, decide_eq_false_iff_not, decide_eq_true_eq, List.length_take, List.length_drop, List.length_append, List.length_replicate, List.length_set, List.length_cons, List.length_nil, List.length_zipWith] at *; (try simp (disch := omega) only [wrap_sm] at *); omega)
  · rename_i h; subst hF hU; exact cond_f h
  · rename_i h; subst hF hU; exact cond_t h
theorem k_node_reader_text : SpecOK Try.prog 109 (s_node_reader_text real us) := by
  refine h_sound (x := x_node_reader_text real us) ⟨tt_ok, ok_node_reader_text, Go.Vc.ks_nil⟩ mixed Try.func109 rfl rfl (by kernel_rfl) (by decide) (fun j hj => by simp [x_node_reader_text]; omega) ?_
  intro l mm c rs ch hg hl hc
  unfold g_node_reader_text at hg
  split at hg
  · split at hg
    · rename_i h0 h1 h2
      have z0 := beq_nat h0
      have z1 := beq_nat h1
      have z2 := beq_nat h2
      subst z0
      subst z1
      subst z2
      cases hg
      exact ⟨Nat.le_of_ble_eq_true rfl, [], [], c_node_reader_text _ _ _ hc⟩
    · cases hg
  · cases hg

theorem r_node_opened : Ready Try.prog 108 := by unfold Ready; kernel_rfl
noncomputable def sp_node_opened (F : Fs) (U : Us) : Specs := [(58, s_node_Kind F U), (110, s_node_reader_num F U)]
theorem ok_node_opened : SpecsOK Try.prog (sp_node_opened real us) := sp_cons r_node_Kind k_node_Kind (sp_cons r_node_reader_num k_node_reader_num sp_nil)
noncomputable def x_node_opened (F : Fs) (U : Us) : Cx := ⟨Try.f108.ntmps, tt F, sp_node_opened F U, [], [], [], []⟩
noncomputable def ki_node_opened (F : Fs) (U : Us) : KSpec := inl F (x_node_opened F U) (Try.f108.body.getD .skip) Try.f108.results.toList
theorem kk_node_opened : KSpecOK Try.prog 108 (ki_node_opened real us) := inl_sound ⟨tt_ok, ok_node_opened, ks_nil⟩ mixed Try.func108 rfl rfl (by kernel_rfl)

end Go.Proofs.Ytmldccfchnlpgaa
set_option linter.unusedVariables false
set_option linter.unusedSimpArgs false
set_option maxRecDepth 100000
set_option maxHeartbeats 1000000
namespace Go.Proofs.Ytmldccfchnlpgaa
open Go Go.Vc
def hdn (b : List UInt8) : Nat := (u_getV (u_rst b 1) 2).toNat
noncomputable def hdM (b : List UInt8) : Int := real.wrapi (real.toI64 (us.getV (real.cutB b (real.nat (real.int 1)) (real.subn (real.lenB b) (real.nat (real.int 1)))) (real.int 2)))
theorem hdn_le (b : List UInt8) : hdn b ≤ 65535 := by
  unfold hdn
  by_cases h : 2 ≤ (u_rst b 1).length
  · have := (getV2 (u_rst b 1) h).1
    have e : (u_getV (u_rst b 1) 2).toNat = ((u_rst b 1).getD 0 0).toNat * 256 + ((u_rst b 1).getD 1 0).toNat := this
    have a0 := ((u_rst b 1).getD 0 0).toNat_lt
    have a1 := ((u_rst b 1).getD 1 0).toNat_lt
    omega
  · have := (getV2n (u_rst b 1) (by omega)).1
    have e : u_getV (u_rst b 1) 2 = 0 := this
    rw [e]; simp
theorem hd_eq (b : List UInt8) : hdM b = (hdn b : Int) := by
  have h := hdn_le b
  show IntKind.i64.wrap ((u_getV (u_rst b 1) 2).toNat : Int) = _
  rw [wrap_sm (by unfold hdn at h; omega) (by unfold hdn at h; omega)]
  rfl
theorem rst_len (x : List UInt8) (a : Nat) : (u_rst x a).length ≤ x.length := by rw [rst_eq, List.length_drop]; omega
theorem nl_len (b : List UInt8) : ∀ i, (u_nl b i).1.length ≤ b.length ∧ (u_nl b i).2.2.length = i
  | 0 => ⟨Nat.le_trans (rst_len _ _) (rst_len _ _), rfl⟩
  | i + 1 => by
    have h := nl_len b i
    refine ⟨?_, ?_⟩
    · show (u_rst (u_rst (u_nl b i).1 _) _).length ≤ _
      exact Nat.le_trans (rst_len _ _) (Nat.le_trans (rst_len _ _) h.1)
    · show ((u_nl b i).2.2 ++ [_]).length = i + 1
      rw [List.length_append, h.2]; rfl
theorem nl_pair (b : List UInt8) : ∀ i, ∀ x ∈ (u_nl b i).2.2, isPair x
  | 0, x, h => by simp [u_nl] at h
  | i + 1, x, h => by
    have h' : x ∈ (u_nl b i).2.2 ++ [.t [.s (u_gtS (u_nl b i).1 60), .s (u_gtS (u_rst (u_nl b i).1 (u_gtA (u_nl b i).1 60)) 150)]] := h
    rcases List.mem_append.1 h' with h' | h'
    · exact nl_pair b i x h'
    · simp at h'
      exact ⟨_, _, h'⟩
theorem good_run {l : List D} {b : List UInt8} (h : goodL l b) : hdn b = l.length ∧ ∀ i, i ≤ l.length → ∃ T, u_nl b i = (T, false, l.take i) := by
  have e : b = u_leafP l l.length ++ [] := by rw [List.append_nil, ← h.2.2, leafB_eq h.2.1]
  obtain ⟨a1, a2⟩ := nl_run h.1 h.2.1 []
  rw [← e] at a1 a2
  refine ⟨a1, fun i hi => ?_⟩
  obtain ⟨T, _, hT⟩ := a2 i hi
  exact ⟨T, hT⟩
theorem good_head {l : List D} {b : List UInt8} (h : goodL l b) : u_kind b = 1 ∧ b.length ≤ 480 ∧ 3 ≤ b.length ∧ hdn b ≤ 120 := by
  obtain ⟨hok, hs, hn⟩ := leaf_parts h.2.1
  have hlen := leafP_len l.length hok (by omega)
  have e : b = u_leafP l l.length := by rw [← h.2.2, leafB_eq h.2.1]
  obtain ⟨T, hT⟩ := leafP_ext l 0 l.length
  rw [Nat.zero_add] at hT
  have h3 := nsz_lo l l.length
  refine ⟨?_, by rw [e]; omega, by rw [e]; omega, by rw [(good_run h).1]; omega⟩
  rw [e, hT]
  rfl
theorem l_none {b : List UInt8} (h : ∀ l, ¬ goodL l b) : us.rlB b = [] ∧ real.int 90 = us.rlE b := by
  have e := lf_none h
  refine ⟨?_, ?_⟩
  · show (u_lf b).getD [] = []
    rw [e]; rfl
  · show (90 : Int) = if (u_lf b).isSome then 0 else 90
    rw [e]; rfl
theorem l_some {l : List D} {b : List UInt8} (h : goodL l b) : us.rlB b = l ∧ us.rlE b = 0 := by
  have e := lf_some h
  refine ⟨?_, ?_⟩
  · show (u_lf b).getD [] = l
    rw [e]; rfl
  · show (if (u_lf b).isSome then 0 else 90) = (0 : Int)
    rw [e]; rfl
theorem l_kind {b : List UInt8} (h : ¬ real.pB (real.notb (real.eqi (us.kind b) (real.int 1))) false) : us.rlB b = [] ∧ real.int 90 = us.rlE b :=
  l_none fun l hl => h (show (!(u_kind b == 1)) = false by rw [(good_head hl).1]; rfl)
theorem l_long {b : List UInt8} (h : ¬ real.pB (real.lti (real.int 480) (real.int (real.lenB b))) false) : us.rlB b = [] ∧ real.int 90 = us.rlE b :=
  l_none fun l hl => by have := (good_head hl).2.1; have h2 : 480 < b.length := lt_g h; omega
theorem l_bad0 {b : List UInt8} (h : us.rlD b 0 = true) : us.rlB b = [] ∧ real.int 90 = us.rlE b :=
  l_none fun l hl => by
    obtain ⟨T, hT⟩ := (good_run hl).2 0 (Nat.zero_le _)
    have h : (u_nl b 0).2.1 = true := h
    rw [hT] at h; cases h
theorem l_many {b : List UInt8} (h : ¬ real.pB (real.lei (hdM b) (real.int 480)) true) : us.rlB b = [] ∧ real.int 90 = us.rlE b :=
  l_none fun l hl => by
    have := (good_head hl).2.2.2
    rw [hd_eq] at h
    have := gt_g h
    omega
theorem l_bad {b : List UInt8} {i : Nat} (hi : i ≤ hdn b) (h : us.rlD b i = true) : us.rlB b = [] ∧ real.int 90 = us.rlE b :=
  l_none fun l hl => by
    obtain ⟨T, hT⟩ := (good_run hl).2 i (by rw [← (good_run hl).1]; exact hi)
    have h : (u_nl b i).2.1 = true := h
    rw [hT] at h; cases h
theorem l_end {l : List D} {b : List UInt8} (hl : goodL l b) : us.rlL b (hdn b) = l := by
  obtain ⟨T, hT⟩ := (good_run hl).2 (hdn b) (by rw [(good_run hl).1]; exact Nat.le_refl _)
  show (u_nl b (hdn b)).2.2 = l
  rw [hT]
  show l.take (hdn b) = l
  rw [(good_run hl).1, List.take_length]
theorem l_err {b : List UInt8} (h : ¬ real.pB (real.notb (real.eqi (us.leafE (us.rlL b (hdn b))) (real.int 0))) false) : us.rlB b = [] ∧ real.int 90 = us.rlE b :=
  l_none fun l hl => by
    rw [l_end hl] at h
    exact h (show (!(u_leafE l == 0)) = false by rw [hl.2.1]; rfl)
theorem l_other {b : List UInt8} (h : ¬ real.pB (real.notb (real.eqB (us.leafB (us.rlL b (hdn b))) b)) false) : us.rlB b = [] ∧ real.int 90 = us.rlE b :=
  l_none fun l hl => by
    rw [l_end hl] at h
    exact h (show (!(u_leafB l == b)) = false by rw [hl.2.2]; simp)
theorem l_good {b : List UInt8} (h1 : ¬ real.pB (real.notb (real.eqi (us.leafE (us.rlL b (hdn b))) (real.int 0))) true) (h2 : ¬ real.pB (real.notb (real.eqB (us.leafB (us.rlL b (hdn b))) b)) true) : us.rlL b (hdn b) = us.rlB b ∧ real.int 0 = us.rlE b := by
  have g : goodL (us.rlL b (hdn b)) b := by
    refine ⟨nl_pair b _, ?_, ?_⟩
    · have h : ¬ ((!(u_leafE (us.rlL b (hdn b)) == 0)) = true) := h1
      simpa using h
    · have h : ¬ ((!(u_leafB (us.rlL b (hdn b)) == b)) = true) := h2
      simpa using h
  exact ⟨(l_some g).1.symm, (l_some g).2.symm⟩
theorem k_len {b : List UInt8} (h : ¬ real.pB (real.notb (real.eqi (us.kind b) (real.int 1))) true) : 1 ≤ b.length := by
  have h1 : ¬ ((!(u_kind b == 1)) = true) := h
  have h2 : u_kind b = 1 := by simpa using h1
  by_cases e : b.length = 0
  · unfold u_kind at h2
    rw [if_pos e] at h2
    cases h2
  · omega
noncomputable def bad0M (b : List UInt8) : Bool := real.cond false true (real.notb (real.eqi (us.getE (real.cutB b (real.nat (real.int 1)) (real.subn (real.lenB b) (real.nat (real.int 1)))) (real.int 2)) (real.int 0)))
theorem bad0_eq (b : List UInt8) : bad0M b = us.rlD b 0 := rfl
theorem l_many' {b : List UInt8} (h : ¬ real.pB (real.notb (real.lei (hdM b) (real.int 480))) false) : us.rlB b = [] ∧ real.int 90 = us.rlE b := by
  refine l_many (fun e => h ?_)
  show (!(real.lei (hdM b) (real.int 480))) = false
  have e : real.lei (hdM b) (real.int 480) = true := e
  rw [e]; rfl
theorem l_bad0' {b : List UInt8} (h : ¬ real.pB (real.notb (bad0M b)) true) : us.rlB b = [] ∧ real.int 90 = us.rlE b := by
  refine l_bad0 ?_
  rw [← bad0_eq]
  have h1 : ¬ ((!(bad0M b)) = true) := h
  simpa using h1
theorem few {b : List UInt8} (h : ¬ real.pB (real.notb (real.lei (hdM b) (real.int 480))) true) : hdn b ≤ 480 := by
  have h1 : ¬ ((!(decide (hdM b ≤ (480 : Int)))) = true) := h
  rw [hd_eq] at h1
  simp at h1
  omega
theorem rlR_zero (b : List UInt8) : real.cutB (real.cutB b (real.nat (real.int 1)) (real.subn (real.lenB b) (real.nat (real.int 1)))) (us.getA (real.cutB b (real.nat (real.int 1)) (real.subn (real.lenB b) (real.nat (real.int 1)))) (real.int 2)) (real.subn (real.lenB (real.cutB b (real.nat (real.int 1)) (real.subn (real.lenB b) (real.nat (real.int 1))))) (us.getA (real.cutB b (real.nat (real.int 1)) (real.subn (real.lenB b) (real.nat (real.int 1)))) (real.int 2))) = us.rlR b 0 := rfl
theorem rlL_zero (b : List UInt8) : us.rlL b 0 = [] := rfl
theorem le_h {b : List UInt8} {i : Nat} (h : real.pLeI (real.int i) (hdM b)) : i ≤ hdn b := by rw [hd_eq] at h; exact Int.ofNat_le.1 h
theorem h_le {b : List UInt8} {i : Nat} (h : i ≤ hdn b) : real.pLeI (real.int i) (hdM b) := by rw [hd_eq]; exact Int.ofNat_le.2 h
theorem lt_h {b : List UInt8} {i : Nat} (h : ¬ real.pB (real.lti (real.int i) (hdM b)) false) : i < hdn b := by rw [hd_eq] at h; exact lt_g h
theorem ge_h {b : List UInt8} {i : Nat} (h : ¬ real.pB (real.lti (real.int i) (hdM b)) true) : hdn b ≤ i := by rw [hd_eq] at h; exact ge_g h
theorem r_fit {b : List UInt8} (hb : b.length ≤ 900000) (i : Nat) : real.pLe (real.lenB (us.rlR b i)) 1000000 := by
  show (u_nl b i).1.length ≤ 1000000
  have := (nl_len b i).1
  omega
theorem r_fit2 {b : List UInt8} (hb : b.length ≤ 900000) (i : Nat) (a : Nat) : real.pLe (real.lenB (real.cutB (us.rlR b i) a (real.subn (real.lenB (us.rlR b i)) a))) 1000000 := by
  show (u_rst (u_nl b i).1 a).length ≤ 1000000
  have := (nl_len b i).1
  have := rst_len (u_nl b i).1 a
  omega
theorem l_cap {b : List UInt8} {i : Nat} (x : D) (h : i ≤ 65535) : real.pCap (real.addn (real.lenD (us.rlL b i)) (real.lenD [x])) 32 := by
  have e : real.addn (real.lenD (us.rlL b i)) (real.lenD [x]) = i + 1 := by
    show (u_nl b i).2.2.length + 1 = i + 1
    rw [(nl_len b i).2]
  rw [e]
  exact ⟨by omega, by omega⟩
theorem l_fit {b : List UInt8} {i : Nat} (h : i ≤ 65535) : real.pLe (real.lenD (us.rlL b i)) 1000000000000 := by
  show (u_nl b i).2.2.length ≤ 1000000000000
  rw [(nl_len b i).2]; omega
theorem not_bad {d : Bool} (h : ¬ real.pB (real.notb d) true) : d = true := by
  have h1 : ¬ ((!d) = true) := h
  simpa using h1
theorem is_bad {d : Bool} (h : ¬ real.pB d false) : d = true := by
  cases d with
  | true => rfl
  | false => exact absurd rfl h
theorem step70 {i : Nat} (h : i < 70000) : real.subn 70000 (i + 1) < real.subn 70000 i := by show 70000 - (i + 1) < 70000 - i; omega
end Go.Proofs.Ytmldccfchnlpgaa
set_option linter.unusedVariables false
set_option linter.unusedSimpArgs false
set_option maxRecDepth 100000
set_option maxHeartbeats 1000000
namespace Go.Proofs.Ytmldccfchnlpgaa
open Go Go.Vc
attribute [local irreducible] u_getV u_getA u_getE u_gtS u_gtA u_gtE u_leafB u_leafE u_leafP u_okN u_okP u_nsz u_kind
theorem r_node_ReadLeaf : Ready Try.prog 54 := by unfold Ready; kernel_rfl
noncomputable def sp_node_ReadLeaf (F : Fs) (U : Us) : Specs := [(109, s_node_reader_text F U), (49, s_node_Leaf F U)]
theorem ok_node_ReadLeaf : SpecsOK Try.prog (sp_node_ReadLeaf real us) := sp_cons r_node_reader_text k_node_reader_text (sp_cons r_node_Leaf k_node_Leaf sp_nil)
noncomputable def an_node_ReadLeaf (F : Fs) (U : Us) (b : List UInt8) : Anns := [(6, ⟨Nat, fun i => F.pLeI (F.int i) (F.wrapi (F.toI64 (U.getV (F.cutB b (F.nat (F.int 1)) (F.subn (F.lenB b) (F.nat (F.int 1)))) (F.int 2)))), fun i => F.subn 70000 i, fun i => ⟨[(0, .rb 1 (.bt b)), (4, .p 0 0 0), (5, .i (F.wrapi (F.toI64 (U.getV (F.cutB b (F.nat (F.int 1)) (F.subn (F.lenB b) (F.nat (F.int 1)))) (F.int 2))))), (7, .rw 1), (8, .i (F.int i))], [(4, 0, .bk 151 [(1, .vs [.rb 1 (.bt (U.rlR b i))]), (1, .vs [.b (U.rlD b i)])]), (7, 1, .row 55 2 (.ds (.t [.s, .s]) (U.rlL b i)))]⟩⟩)]
noncomputable def g_node_ReadLeaf (F : Fs) (U : Us) : Law
  | [.rb 1 (.bt b)] => some (F.pLe (F.lenB b) 900000, [.row 55 2 (.ds (.t [.s, .s]) (U.rlB b)), .val (.i (U.rlE b))])
  | _ => none
noncomputable def s_node_ReadLeaf (F : Fs) (U : Us) : Vc.Spec := pureSpec F false [.row .kB] (g_node_ReadLeaf F U)
noncomputable def x_node_ReadLeaf (F : Fs) (U : Us) : Cx := ⟨Try.f54.ntmps, tt F, sp_node_ReadLeaf F U, [(108, ki_node_opened F U)], [], [], []⟩
theorem c_node_ReadLeaf (b : List UInt8) (hc : real.pLe (real.lenB b) 900000) : vc real (x_node_ReadLeaf real us) (an_node_ReadLeaf real us b) [] (Try.f54.body.getD .skip) ⟨zipSl 0 [.rb 1 (.bt b)], [], 64⟩ (retOk real (tt real) false Try.f54.results.toList [.row 55 2 (.ds (.t [.s, .s]) (us.rlB b)), .val (.i (us.rlE b))]) := by
  generalize hU : us = U
  generalize hF : real = F
  have hb : b.length ≤ 900000 := hc
  cbv
  repeat' first | apply And.intro | refine Classical.or_iff_not_imp_left.2 (fun _ => ?_) | exact trivial
  all_goals try (subst hF hU; simp only [real, us, Nat.le_eq, Int.cast_ofNat_Int, decide_eq_false_iff_not, decide_eq_true_eq, List.length_take, List.length_drop, List.length_append, List.length_replicate, List.length_set, List.length_cons, List.length_nil, List.length_zipWith] at *; (try simp (disch := omega) only [wrap_sm] at *); omega)
  · rename_i g1 g2; subst hF hU; exact (l_long g2).1
  · rename_i g1 g2; subst hF hU; exact (l_long g2).2
  · rename_i g1 g2; subst hF hU; exact k_len g1
  · rename_i g1 g2 g3 g4; subst hF hU; exact (l_many' g4).1
  · rename_i g1 g2 g3 g4; subst hF hU; exact (l_many' g4).2
  · refine ⟨(0 : Nat), ?_⟩
    cbv; subst hF hU
    exact ⟨h_le (Nat.zero_le _), ⟨⟨rlR_zero b, trivial⟩, ⟨bad0_eq b, trivial⟩, trivial⟩, rlL_zero b, trivial⟩
  · rename_i g1 g2 g3 g4
    have hfew : hdn b ≤ 480 := by subst hF hU; exact few g4
    clear g1 g2 g3 g4
    intro (i : Nat) hi
    have h1 : i ≤ hdn b := by subst hF hU; exact le_h hi
    clear hi
    cbv
    repeat' first | apply And.intro | refine Classical.or_iff_not_imp_left.2 (fun _ => ?_) | exact trivial
    all_goals try (subst hF hU; simp only [real, us, Nat.le_eq, Int.cast_ofNat_Int, decide_eq_false_iff_not, decide_eq_true_eq, List.length_take, List.length_drop, List.length_append, List.length_replicate, List.length_set, List.length_cons, List.length_nil, List.length_zipWith] at *; (try simp (disch := omega) only [wrap_sm] at *); omega)
    · subst hF hU; exact r_fit hb i
    · subst hF hU; exact r_fit2 hb i _
    · subst hF hU; exact l_cap (.t []) (by omega)
    · rename_i g1 _
      refine ⟨(i + 1 : Nat), ?_⟩
      cbv; subst hF hU
      have hlt := lt_h g1
      exact ⟨h_le hlt, step70 (by omega), ⟨addi1 (by omega), trivial⟩, ⟨⟨rfl, trivial⟩, ⟨rfl, trivial⟩, trivial⟩, rfl, trivial⟩
    · subst hF hU; exact l_fit (by omega)
    · rename_i g1 g2 g3 g4 g5; subst hF hU; exact (l_bad h1 (not_bad g2)).1
    · rename_i g1 g2 g3 g4 g5; subst hF hU; exact (l_bad h1 (not_bad g2)).2
    · exfalso; rename_i g1 g2 g3 g4 g5; subst hF hU; exact g3 (not_bad g2)
    · exfalso; rename_i g1 g2 g3 g4 g5; subst hF hU; exact g3 (not_bad g2)
    · rename_i g1 g2 g3 g4; subst hF hU; exact (l_bad h1 (not_bad g2)).1
    · rename_i g1 g2 g3 g4; subst hF hU; exact (l_bad h1 (not_bad g2)).2
    · rename_i g1 g2 g3; subst hF hU; exact (l_bad h1 (not_bad g2)).1
    · rename_i g1 g2 g3; subst hF hU; exact (l_bad h1 (not_bad g2)).2
    · subst hF hU; exact l_fit (by omega)
    · rename_i g1 g2 g3 g4; subst hF hU
      have e : i = hdn b := Nat.le_antisymm h1 (ge_h g1)
      subst e; exact (l_other g4).1
    · rename_i g1 g2 g3 g4; subst hF hU
      have e : i = hdn b := Nat.le_antisymm h1 (ge_h g1)
      subst e; exact (l_other g4).2
    · rename_i g1 g2 g3 g4; subst hF hU
      have e : i = hdn b := Nat.le_antisymm h1 (ge_h g1)
      subst e; exact (l_good g3 g4).1
    · rename_i g1 g2 g3 g4; subst hF hU
      have e : i = hdn b := Nat.le_antisymm h1 (ge_h g1)
      subst e; exact (l_good g3 g4).2
    · rename_i g1 g2 g3; subst hF hU
      have e : i = hdn b := Nat.le_antisymm h1 (ge_h g1)
      subst e; exact (l_err g3).1
    · rename_i g1 g2 g3; subst hF hU
      have e : i = hdn b := Nat.le_antisymm h1 (ge_h g1)
      subst e; exact (l_err g3).2
    · rename_i g1 g2; subst hF hU; exact (l_bad h1 (is_bad g2)).1
    · rename_i g1 g2; subst hF hU; exact (l_bad h1 (is_bad g2)).2
  · rename_i g1 g2 g3; subst hF hU; exact (l_bad0' g3).1
  · rename_i g1 g2 g3; subst hF hU; exact (l_bad0' g3).2
  · rename_i g1; subst hF hU; exact (l_kind g1).1
  · rename_i g1; subst hF hU; exact (l_kind g1).2
theorem k_node_ReadLeaf : SpecOK Try.prog 54 (s_node_ReadLeaf real us) := by
  refine pure_sound (x := x_node_ReadLeaf real us) ⟨tt_ok, ok_node_ReadLeaf, (Go.Vc.ks_cons r_node_opened kk_node_opened Go.Vc.ks_nil)⟩ mixed Try.func54 rfl rfl (by kernel_rfl) ?_
  intro l c rs hg hc
  unfold g_node_ReadLeaf at hg
  split at hg
  · cases hg; exact ⟨Nat.le_of_ble_eq_true rfl, an_node_ReadLeaf real us _, [], c_node_ReadLeaf _ hc⟩
  · cases hg

end Go.Proofs.Ytmldccfchnlpgaa
set_option linter.unusedVariables false
set_option linter.unusedSimpArgs false
set_option maxRecDepth 100000
set_option maxHeartbeats 1000000
namespace Go.Proofs.Ytmldccfchnlpgaa
open Go Go.Vc
theorem get4 (x : UInt32) (r : List UInt8) : UInt32.ofNat (u_getV (u_putBig x ++ r) 4).toNat = x ∧ u_getA (u_putBig x ++ r) 4 = 4 ∧ u_getE (u_putBig x ++ r) 4 = 0 := by
  have hx := x.toNat_lt
  have e : real.ofI64 (real.toI32 x) = UInt64.ofNat x.toNat := by
    show UInt64.ofNat ((x.toNat : Int) % 2 ^ 64).toNat = _
    congr 1
    omega
  have e1 : putK (UInt64.ofNat x.toNat) 4 = u_putBig x := by
    have := putBig4 x
    rw [e] at this
    exact this
  obtain ⟨h1, h2, h3⟩ := get_put (UInt64.ofNat x.toNat) 4 (by omega) r
  rw [e1] at h1 h2 h3
  have e2 : (UInt64.ofNat x.toNat).toNat = x.toNat := UInt64.toNat_ofNat_of_lt' (by simp [UInt64.size]; omega)
  refine ⟨?_, h2, h3⟩
  have h1 : (u_getV (u_putBig x ++ r) 4).toNat = x.toNat % 2 ^ (8 * 4) := by rw [← e2]; exact h1
  rw [h1, Nat.mod_eq_of_lt (by omega)]
  exact UInt32.ofNat_toNat
theorem rst_put (x : UInt32) (r : List UInt8) : u_rst (u_putBig x ++ r) 4 = r := by
  rw [rst_eq]
  have : (u_putBig x ++ r).drop (u_putBig x).length = r := List.drop_left
  exact this
theorem brP_ext (l : List (List UInt8)) (i : Nat) : ∀ k, ∃ T, u_brP l (i + k) = u_brP l i ++ T
  | 0 => ⟨[], by simp⟩
  | k + 1 => by
    obtain ⟨T, h⟩ := brP_ext l i k
    refine ⟨T ++ u_text (l.getD (i + k) []), ?_⟩
    rw [← Nat.add_assoc, u_brP, h, List.append_assoc]
theorem brR_ext (l : List (List UInt8)) (kids : List UInt32) (i : Nat) : ∀ k, ∃ T, u_brR l kids (i + k) = u_brR l kids i ++ T
  | 0 => ⟨[], by simp⟩
  | k + 1 => by
    obtain ⟨T, h⟩ := brR_ext l kids i k
    refine ⟨T ++ u_putBig (kids.getD (i + k) 0), ?_⟩
    rw [← Nat.add_assoc, u_brR, h, List.append_assoc]
theorem brP_at (l : List (List UInt8)) (kids : List UInt32) (i : Nat) (h : i < l.length) (n : Nat) : ∃ T, u_brR l kids n = u_brP l i ++ (u_text (l.getD i []) ++ T) := by
  obtain ⟨T, hT⟩ := brP_ext l (i + 1) (l.length - (i + 1))
  rw [show i + 1 + (l.length - (i + 1)) = l.length by omega] at hT
  obtain ⟨S, hS⟩ := brR_ext l kids 0 n
  rw [Nat.zero_add] at hS
  refine ⟨T ++ S, ?_⟩
  rw [hS, u_brR, hT, u_brP]
  simp only [List.append_assoc]
theorem brR_at (l : List (List UInt8)) (kids : List UInt32) (i n : Nat) (h : i < n) : ∃ T, u_brR l kids n = u_brR l kids i ++ (u_putBig (kids.getD i 0) ++ T) := by
  obtain ⟨T, hT⟩ := brR_ext l kids (i + 1) (n - (i + 1))
  rw [show i + 1 + (n - (i + 1)) = n by omega] at hT
  refine ⟨T, ?_⟩
  rw [hT, u_brR]
  simp only [List.append_assoc]
theorem bsz_count (l : List (List UInt8)) : ∀ i, u_okK l i = true → u_bsz l i < 100000 → 7 * (i : Int) + 7 ≤ u_bsz l i
  | 0, _, _ => by simp [u_bsz]
  | i + 1, h, hn => by
    simp only [u_okK, Bool.and_eq_true] at h
    have hk := okQ_len h.2
    have h3 := bsz_mono l i 1
    have ih := bsz_count l i h.1 (by omega)
    rw [u_bsz] at hn ⊢
    omega
theorem br_parts {l : List (List UInt8)} {kids : List UInt32} (h : u_brE l kids = 0) : l.length ≠ 0 ∧ kids.length = l.length + 1 ∧ u_okK l l.length = true ∧ u_bsz l l.length ≤ 480 ∧ l.length ≤ 100 := by
  unfold u_brE at h
  split at h
  · cases h
  · rename_i h1
    split at h
    · cases h
    · rename_i h2
      have a1 : l.length ≠ 0 := fun e => h1 (.inl e)
      have a2 : kids.length = l.length + 1 := by
        by_cases e : kids.length = l.length + 1
        · exact e
        · exact absurd (.inr (.inl e)) h1
      have a3 : u_okK l l.length = true := by
        cases e : u_okK l l.length with
        | true => rfl
        | false => exact absurd (.inr (.inr e)) h1
      have := bsz_count l l.length a3 (by omega)
      exact ⟨a1, a2, a3, by omega, by omega⟩
theorem brB_eq {l : List (List UInt8)} {kids : List UInt32} (h : u_brE l kids = 0) : u_brB l kids = u_brR l kids kids.length := by unfold u_brB; rw [if_pos h]
/-- keys and kids come back, one by one, whatever stands behind them -/
theorem nb_run {l : List (List UInt8)} {kids : List UInt32} (hE : u_brE l kids = 0) (t : List UInt8) : (u_getV (u_rst (u_brR l kids kids.length ++ t) 1) 2).toNat = l.length ∧
    (∀ i, i ≤ l.length → ∃ T, u_brR l kids kids.length ++ t = u_brP l i ++ T ∧ u_nk (u_brR l kids kids.length ++ t) i = (T, false, l.take i)) ∧
    ∀ i, i ≤ kids.length → ∃ T, u_brR l kids kids.length ++ t = u_brR l kids i ++ T ∧ u_nq (u_brR l kids kids.length ++ t) l.length i = (T, false, kids.take i) := by
  obtain ⟨h0, hkq, hok, hs, hn⟩ := br_parts hE
  obtain ⟨S0, hS0⟩ := brP_ext l 0 l.length
  rw [Nat.zero_add] at hS0
  obtain ⟨T0, hT0⟩ := brR_ext l kids 0 kids.length
  rw [Nat.zero_add] at hT0
  have hb : u_brR l kids kids.length ++ t = 2 :: (putK (UInt64.ofNat l.length) 2 ++ (S0 ++ (T0 ++ t))) := by
    rw [hT0, u_brR, hS0, u_brP]
    simp only [List.append_assoc, List.cons_append]
  obtain ⟨h1, h2⟩ := hd_put 2 l.length (by omega) (S0 ++ (T0 ++ t))
  have key : ∀ i, i ≤ l.length → ∃ T, u_brR l kids kids.length ++ t = u_brP l i ++ T ∧ u_nk (u_brR l kids kids.length ++ t) i = (T, false, l.take i) := by
    intro i
    induction i with
    | zero =>
      intro _
      refine ⟨S0 ++ (T0 ++ t), by rw [hT0, u_brR, hS0]; simp only [List.append_assoc], ?_⟩
      unfold u_nk
      rw [hb, h2]
      rfl
    | succ i ih =>
      intro hi
      obtain ⟨T, hT, hs2⟩ := ih (by omega)
      obtain ⟨T2, hT2⟩ := brP_at l kids i (by omega) kids.length
      have hk := okQ_len (okQ_of _ i hok (by omega))
      have e : T = u_text (l.getD i []) ++ (T2 ++ t) := by
        rw [hT2] at hT
        simp only [List.append_assoc] at hT
        exact (List.append_cancel_left hT).symm
      have g1 := gt_textU (l.getD i []) (T2 ++ t) 60 hk.2 (by omega)
      have q1 : u_gtS T 60 = l.getD i [] := by rw [e]; exact g1.1
      have q2 : u_gtE T 60 = 0 := by rw [e]; exact g1.2.2
      have r1 : u_rst T (u_gtA T 60) = T2 ++ t := by
        have h3 : u_gtA T 60 = 2 + (l.getD i []).length := by rw [e]; exact g1.2.1
        rw [h3, e, rst_text _ _ (by omega)]
      refine ⟨T2 ++ t, ?_, ?_⟩
      · rw [u_brP, hT, e]
        simp only [List.append_assoc]
      · rw [u_nk, hs2]
        simp only [r1, q1, q2]
        refine Prod.ext rfl (Prod.ext rfl ?_)
        show l.take i ++ [l.getD i []] = l.take (i + 1)
        rw [List.take_succ_eq_append_getElem (by omega)]
        congr 2
        rw [List.getD_eq_getElem?_getD, List.getElem?_eq_getElem (by omega)]; rfl
  refine ⟨by rw [hb]; exact h1, key, fun i => ?_⟩
  induction i with
  | zero =>
    intro _
    obtain ⟨T, hT, hs2⟩ := key l.length (Nat.le_refl _)
    refine ⟨T, hT, ?_⟩
    unfold u_nq
    rw [hs2]
    rfl
  | succ i ih =>
    intro hi
    obtain ⟨T, hT, hs2⟩ := ih (by omega)
    obtain ⟨T2, hT2⟩ := brR_at l kids i kids.length (by omega)
    have e : T = u_putBig (kids.getD i 0) ++ (T2 ++ t) := by
      rw [hT2] at hT
      simp only [List.append_assoc] at hT
      exact (List.append_cancel_left hT).symm
    obtain ⟨g1, g2, g3⟩ := get4 (kids.getD i 0) (T2 ++ t)
    rw [← e] at g1 g2 g3
    have r1 : u_rst T (u_getA T 4) = T2 ++ t := by rw [g2, e, rst_put]
    refine ⟨T2 ++ t, ?_, ?_⟩
    · rw [u_brR, hT, e]
      simp only [List.append_assoc]
    · rw [u_nq, hs2]
      simp only [r1, g1, g3]
      refine Prod.ext rfl (Prod.ext rfl ?_)
      show kids.take i ++ [kids.getD i 0] = kids.take (i + 1)
      rw [List.take_succ_eq_append_getElem (by omega)]
      congr 2
      rw [List.getD_eq_getElem?_getD, List.getElem?_eq_getElem (by omega)]; rfl
theorem goodB_run {p : List (List UInt8) × List UInt32} {b : List UInt8} (h : goodB p b) : hdn b = p.1.length ∧ p.2.length = p.1.length + 1 ∧ (∀ i, i ≤ p.1.length → ∃ T, u_nk b i = (T, false, p.1.take i)) ∧ ∀ i, i ≤ p.2.length → ∃ T, u_nq b p.1.length i = (T, false, p.2.take i) := by
  have e : b = u_brR p.1 p.2 p.2.length ++ [] := by rw [List.append_nil, ← h.2, brB_eq h.1]
  obtain ⟨a1, a2, a3⟩ := nb_run h.1 []
  rw [← e] at a1 a2 a3
  refine ⟨a1, (br_parts h.1).2.1, fun i hi => ?_, fun i hi => ?_⟩
  · obtain ⟨T, _, hT⟩ := a2 i hi; exact ⟨T, hT⟩
  · obtain ⟨T, _, hT⟩ := a3 i hi; exact ⟨T, hT⟩
theorem goodB_one {p q : List (List UInt8) × List UInt32} {b : List UInt8} (hp : goodB p b) (hq : goodB q b) : p = q := by
  obtain ⟨p1, p2, p3, p4⟩ := goodB_run hp
  obtain ⟨q1, q2, q3, q4⟩ := goodB_run hq
  have hn : p.1.length = q.1.length := by rw [← p1, ← q1]
  obtain ⟨T1, e1⟩ := p3 p.1.length (Nat.le_refl _)
  obtain ⟨T2, e2⟩ := q3 p.1.length (by omega)
  obtain ⟨T3, e3⟩ := p4 p.2.length (Nat.le_refl _)
  obtain ⟨T4, e4⟩ := q4 p.2.length (by omega)
  rw [e1] at e2
  rw [hn, e4] at e3
  refine Prod.ext ?_ ?_
  · have := (Prod.mk.inj (Prod.mk.inj e2).2).2
    rw [List.take_length, hn, List.take_length] at this
    exact this
  · have := (Prod.mk.inj (Prod.mk.inj e3).2).2
    rw [List.take_length, show p.2.length = q.2.length by omega, List.take_length] at this
    exact this.symm
theorem bf_some {p : List (List UInt8) × List UInt32} {b : List UInt8} (h : goodB p b) : u_bf b = some p := by
  have hex : ∃ p, goodB p b := ⟨p, h⟩
  unfold u_bf
  rw [dif_pos hex]
  exact congrArg some (goodB_one hex.choose_spec h)
theorem bf_none {b : List UInt8} (h : ∀ p, ¬ goodB p b) : u_bf b = none := by
  unfold u_bf
  rw [dif_neg (fun ⟨p, hp⟩ => h p hp)]
theorem goodB_head {p : List (List UInt8) × List UInt32} {b : List UInt8} (h : goodB p b) : u_kind b = 2 ∧ b.length ≤ 480 ∧ 3 ≤ b.length ∧ hdn b ≤ 100 := by
  obtain ⟨h0, hkq, hok, hs, hn⟩ := br_parts h.1
  have hlen := brP_len p.1.length hok (by omega)
  have e : b = u_brR p.1 p.2 p.2.length := by rw [← h.2, brB_eq h.1]
  obtain ⟨S, hS⟩ := brP_ext p.1 0 p.1.length
  rw [Nat.zero_add] at hS
  obtain ⟨T, hT⟩ := brR_ext p.1 p.2 0 p.2.length
  rw [Nat.zero_add] at hT
  have hl := brR_len p.1 p.2 p.2.length
  refine ⟨?_, by rw [e]; omega, by rw [e]; omega, by rw [(goodB_run h).1]; omega⟩
  rw [e, hT, u_brR, hS]
  rfl
end Go.Proofs.Ytmldccfchnlpgaa
set_option linter.unusedVariables false
set_option linter.unusedSimpArgs false
set_option maxRecDepth 100000
set_option maxHeartbeats 1000000
namespace Go.Proofs.Ytmldccfchnlpgaa
open Go Go.Vc
theorem nk_len (b : List UInt8) : ∀ i, (u_nk b i).1.length ≤ b.length ∧ (u_nk b i).2.2.length = i
  | 0 => ⟨Nat.le_trans (rst_len _ _) (rst_len _ _), rfl⟩
  | i + 1 => by
    have h := nk_len b i
    refine ⟨?_, ?_⟩
    · show (u_rst (u_nk b i).1 _).length ≤ _
      exact Nat.le_trans (rst_len _ _) h.1
    · show ((u_nk b i).2.2 ++ [_]).length = i + 1
      rw [List.length_append, h.2]; rfl
theorem nq_len (b : List UInt8) (j : Nat) : ∀ i, (u_nq b j i).1.length ≤ b.length ∧ (u_nq b j i).2.2.length = i
  | 0 => ⟨(nk_len b j).1, rfl⟩
  | i + 1 => by
    have h := nq_len b j i
    refine ⟨?_, ?_⟩
    · show (u_rst (u_nq b j i).1 _).length ≤ _
      exact Nat.le_trans (rst_len _ _) h.1
    · show ((u_nq b j i).2.2 ++ [_]).length = i + 1
      rw [List.length_append, h.2]; rfl
theorem nq_bad (b : List UInt8) (j : Nat) : ∀ i, (u_nq b j i).2.1 = false → (u_nk b j).2.1 = false
  | 0, h => h
  | i + 1, h => by
    have h1 : u_bad (u_nq b j i).2.1 (u_getE (u_nq b j i).1 4) = false := h
    refine nq_bad b j i ?_
    cases e : (u_nq b j i).2.1 with
    | false => rfl
    | true => rw [e] at h1; cases h1
abbrev BNo (b : List UInt8) : Prop := us.rbK b = [] ∧ us.rbQ b = [] ∧ real.int 90 = us.rbE b
theorem b_none {b : List UInt8} (h : ∀ p, ¬ goodB p b) : BNo b := by
  have e := bf_none h
  refine ⟨?_, ?_, ?_⟩
  · show ((u_bf b).getD ([], [])).1 = []
    rw [e]; rfl
  · show ((u_bf b).getD ([], [])).2 = []
    rw [e]; rfl
  · show (90 : Int) = if (u_bf b).isSome then 0 else 90
    rw [e]; rfl
theorem b_some {p : List (List UInt8) × List UInt32} {b : List UInt8} (h : goodB p b) : us.rbK b = p.1 ∧ us.rbQ b = p.2 ∧ us.rbE b = 0 := by
  have e := bf_some h
  refine ⟨?_, ?_, ?_⟩
  · show ((u_bf b).getD ([], [])).1 = _
    rw [e]; rfl
  · show ((u_bf b).getD ([], [])).2 = _
    rw [e]; rfl
  · show (if (u_bf b).isSome then 0 else 90) = (0 : Int)
    rw [e]; rfl
theorem b_kind {b : List UInt8} (h : ¬ real.pB (real.notb (real.eqi (us.kind b) (real.int 2))) false) : BNo b :=
  b_none fun p hp => h (show (!(u_kind b == 2)) = false by rw [(goodB_head hp).1]; rfl)
theorem b_long {b : List UInt8} (h : ¬ real.pB (real.lti (real.int 480) (real.int (real.lenB b))) false) : BNo b :=
  b_none fun p hp => by have := (goodB_head hp).2.1; have h2 : 480 < b.length := lt_g h; omega
theorem b_bad {b : List UInt8} {i : Nat} (hi : i ≤ hdn b) (h : us.rkD b i = true) : BNo b :=
  b_none fun p hp => by
    obtain ⟨T, hT⟩ := (goodB_run hp).2.2.1 i (by rw [← (goodB_run hp).1]; exact hi)
    have h : (u_nk b i).2.1 = true := h
    rw [hT] at h; cases h
theorem b_many' {b : List UInt8} (h : ¬ real.pB (real.notb (real.lei (hdM b) (real.int 480))) false) : BNo b :=
  b_none fun p hp => by
    have := (goodB_head hp).2.2.2
    refine h ?_
    rw [hd_eq]
    show (!(decide ((hdn b : Int) ≤ 480))) = false
    rw [decide_eq_true (by omega)]; rfl
theorem badK_eq (b : List UInt8) : bad0M b = us.rkD b 0 := rfl
theorem b_bad0' {b : List UInt8} (h : ¬ real.pB (real.notb (bad0M b)) true) : BNo b := by
  refine b_bad (i := 0) (Nat.zero_le _) ?_
  rw [← badK_eq]
  have h1 : ¬ ((!(bad0M b)) = true) := h
  simpa using h1
theorem b_badQ {b : List UInt8} {j i : Nat} (hj : j ≤ hdn b) (hor : us.rkD b j = true ∨ j = hdn b) (hi : i ≤ hdn b + 1) (h : us.rqD b j i = true) : BNo b := by
  rcases hor with e | e
  · exact b_bad hj e
  · refine b_none fun p hp => ?_
    obtain ⟨p1, p2, _, p4⟩ := goodB_run hp
    obtain ⟨T, hT⟩ := p4 i (by omega)
    have h : (u_nq b j i).2.1 = true := h
    rw [e, p1, hT] at h; cases h
theorem b_end {p : List (List UInt8) × List UInt32} {b : List UInt8} (hp : goodB p b) : us.rkL b (hdn b) = p.1 ∧ us.rqL b (hdn b) (hdn b + 1) = p.2 := by
  obtain ⟨p1, p2, p3, p4⟩ := goodB_run hp
  obtain ⟨T, hT⟩ := p3 p.1.length (Nat.le_refl _)
  obtain ⟨S, hS⟩ := p4 p.2.length (Nat.le_refl _)
  constructor
  · show (u_nk b (hdn b)).2.2 = p.1
    rw [p1, hT]
    exact List.take_length
  · show (u_nq b (hdn b) (hdn b + 1)).2.2 = p.2
    rw [p1, ← p2, hS]
    exact List.take_length
theorem b_err {b : List UInt8} (h : ¬ real.pB (real.notb (real.eqi (us.brE (us.rkL b (hdn b)) (us.rqL b (hdn b) (hdn b + 1))) (real.int 0))) false) : BNo b :=
  b_none fun p hp => by
    rw [(b_end hp).1, (b_end hp).2] at h
    exact h (show (!(u_brE p.1 p.2 == 0)) = false by rw [hp.1]; rfl)
theorem b_other {b : List UInt8} (h : ¬ real.pB (real.notb (real.eqB (us.brB (us.rkL b (hdn b)) (us.rqL b (hdn b) (hdn b + 1))) b)) false) : BNo b :=
  b_none fun p hp => by
    rw [(b_end hp).1, (b_end hp).2] at h
    exact h (show (!(u_brB p.1 p.2 == b)) = false by rw [hp.2]; simp)
theorem b_good {b : List UInt8} (h1 : ¬ real.pB (real.notb (real.eqi (us.brE (us.rkL b (hdn b)) (us.rqL b (hdn b) (hdn b + 1))) (real.int 0))) true) (h2 : ¬ real.pB (real.notb (real.eqB (us.brB (us.rkL b (hdn b)) (us.rqL b (hdn b) (hdn b + 1))) b)) true) :
    us.rkL b (hdn b) = us.rbK b ∧ us.rqL b (hdn b) (hdn b + 1) = us.rbQ b ∧ real.int 0 = us.rbE b := by
  have g : goodB (us.rkL b (hdn b), us.rqL b (hdn b) (hdn b + 1)) b := by
    refine ⟨?_, ?_⟩
    · have h : ¬ ((!(u_brE (us.rkL b (hdn b)) (us.rqL b (hdn b) (hdn b + 1)) == 0)) = true) := h1
      simpa using h
    · have h : ¬ ((!(u_brB (us.rkL b (hdn b)) (us.rqL b (hdn b) (hdn b + 1)) == b)) = true) := h2
      simpa using h
  exact ⟨(b_some g).1.symm, (b_some g).2.1.symm, (b_some g).2.2.symm⟩
theorem k_len2 {b : List UInt8} (h : ¬ real.pB (real.notb (real.eqi (us.kind b) (real.int 2))) true) : 1 ≤ b.length := by
  have h1 : ¬ ((!(u_kind b == 2)) = true) := h
  have h2 : u_kind b = 2 := by simpa using h1
  by_cases e : b.length = 0
  · unfold u_kind at h2
    rw [if_pos e] at h2
    cases h2
  · omega
theorem rkR_zero (b : List UInt8) : real.cutB (real.cutB b (real.nat (real.int 1)) (real.subn (real.lenB b) (real.nat (real.int 1)))) (us.getA (real.cutB b (real.nat (real.int 1)) (real.subn (real.lenB b) (real.nat (real.int 1)))) (real.int 2)) (real.subn (real.lenB (real.cutB b (real.nat (real.int 1)) (real.subn (real.lenB b) (real.nat (real.int 1))))) (us.getA (real.cutB b (real.nat (real.int 1)) (real.subn (real.lenB b) (real.nat (real.int 1)))) (real.int 2))) = us.rkR b 0 := rfl
theorem rkL_zero (b : List UInt8) : us.rkL b 0 = [] := rfl
theorem rqR_zero (b : List UInt8) (j : Nat) : us.rkR b j = us.rqR b j 0 := rfl
theorem rqD_zero (b : List UInt8) (j : Nat) : us.rkD b j = us.rqD b j 0 := rfl
theorem rqL_zero (b : List UInt8) (j : Nat) : us.rqL b j 0 = [] := rfl
theorem wrap_two (m : Int) (h0 : 0 ≤ m) (h1 : m < 2 ^ 64) : IntKind.i64.wrap m = m ∨ IntKind.i64.wrap m = m - 2 ^ 64 := by
  have e : m % 2 ^ 64 = m := by omega
  have e2 : IntKind.i64.wrap m = if (true && decide (m % 2 ^ 64 ≥ 2 ^ 63)) = true then m % 2 ^ 64 - 2 ^ 64 else m % 2 ^ 64 := rfl
  rw [e2, e]
  split
  · exact .inr rfl
  · exact .inl rfl
theorem u32_of (v : UInt64) : real.ofI32 (real.wrapi (real.toI64 v)) = UInt32.ofNat v.toNat := by
  have hv := v.toNat_lt
  show UInt32.ofNat ((IntKind.i64.wrap (v.toNat : Int)) % 2 ^ 32).toNat = _
  have e : ((IntKind.i64.wrap (v.toNat : Int)) % 2 ^ 32).toNat = v.toNat % 2 ^ 32 := by
    rcases wrap_two (v.toNat : Int) (by omega) (by omega) with e | e <;> rw [e] <;> omega
  rw [e]
  apply UInt32.toNat_inj.1
  rw [UInt32.toNat_ofNat', UInt32.toNat_ofNat']
  omega
theorem rqL_step (b : List UInt8) (j i : Nat) : real.appW (us.rqL b j i) [real.ofI32 (real.wrapi (real.toI64 (us.getV (us.rqR b j i) (real.int 4))))] = us.rqL b j (i + 1) := by
  rw [u32_of]
  rfl
theorem k_fit {b : List UInt8} (hb : b.length ≤ 900000) (i : Nat) : real.pLe (real.lenB (us.rkR b i)) 1000000 := by
  show (u_nk b i).1.length ≤ 1000000
  have := (nk_len b i).1
  omega
theorem q_fit {b : List UInt8} (hb : b.length ≤ 900000) (j i : Nat) : real.pLe (real.lenB (us.rqR b j i)) 1000000 := by
  show (u_nq b j i).1.length ≤ 1000000
  have := (nq_len b j i).1
  omega
theorem k_cap {b : List UInt8} {i : Nat} (x : List UInt8) (h : i ≤ 65535) : real.pCap (real.addn (real.lenS (us.rkL b i)) (real.lenS [x])) 16 := by
  have e : real.addn (real.lenS (us.rkL b i)) (real.lenS [x]) = i + 1 := by
    show (u_nk b i).2.2.length + 1 = i + 1
    rw [(nk_len b i).2]
  rw [e]
  exact ⟨by omega, by omega⟩
theorem q_cap {b : List UInt8} {j i : Nat} (x : UInt32) (h : i ≤ 65536) : real.pCap (real.addn (real.lenW (us.rqL b j i)) (real.lenW [x])) 4 := by
  have e : real.addn (real.lenW (us.rqL b j i)) (real.lenW [x]) = i + 1 := by
    show (u_nq b j i).2.2.length + 1 = i + 1
    rw [(nq_len b j i).2]
  rw [e]
  exact ⟨by omega, by omega⟩
theorem kl_fit {b : List UInt8} {i : Nat} (h : i ≤ 65535) : real.pLe (real.lenS (us.rkL b i)) 1000000000000 := by
  show (u_nk b i).2.2.length ≤ 1000000000000
  rw [(nk_len b i).2]; omega
theorem ql_fit {b : List UInt8} {j i : Nat} (h : i ≤ 65536) : real.pLe (real.lenW (us.rqL b j i)) 1000000000000 := by
  show (u_nq b j i).2.2.length ≤ 1000000000000
  rw [(nq_len b j i).2]; omega
theorem le_q {b : List UInt8} {i : Nat} (h : ¬ real.pB (real.lei (real.int i) (hdM b)) false) : i ≤ hdn b := by rw [hd_eq] at h; exact le_g h
theorem gt_q {b : List UInt8} {i : Nat} (h : ¬ real.pB (real.lei (real.int i) (hdM b)) true) : hdn b < i := by rw [hd_eq] at h; exact gt_g h
theorem h1_eq (b : List UInt8) : real.addi (hdM b) (real.int 1) = ((hdn b + 1 : Nat) : Int) := by
  rw [hd_eq]
  have := hdn_le b
  show IntKind.i64.wrap ((hdn b : Int) + 1) = _
  rw [wrap_sm (by omega) (by omega)]; omega
theorem le_h1 {b : List UInt8} {i : Nat} (h : real.pLeI (real.int i) (real.addi (hdM b) (real.int 1))) : i ≤ hdn b + 1 := by rw [h1_eq] at h; exact Int.ofNat_le.1 h
theorem h1_le {b : List UInt8} {i : Nat} (h : i ≤ hdn b + 1) : real.pLeI (real.int i) (real.addi (hdM b) (real.int 1)) := by rw [h1_eq]; exact Int.ofNat_le.2 h
theorem eq_h {b : List UInt8} {j : Nat} (h : real.int j = hdM b) : j = hdn b := by rw [hd_eq] at h; exact Int.ofNat.inj h
theorem h_eq {b : List UInt8} {j : Nat} (h : j = hdn b) : real.int j = hdM b := by rw [hd_eq, h]; rfl
theorem q_stop {b : List UInt8} {j i : Nat} (h : ¬ real.pB (us.rqD b j i) true) (hor : us.rkD b j = true ∨ j = hdn b) : j = hdn b := by
  rcases hor with e | e
  · exfalso
    have h1 : (u_nq b j i).2.1 = false := by
      cases e2 : (u_nq b j i).2.1 with
      | false => rfl
      | true => exact absurd e2 h
    have := nq_bad b j i h1
    have e : (u_nk b j).2.1 = true := e
    rw [this] at e; cases e
  · exact e
end Go.Proofs.Ytmldccfchnlpgaa
