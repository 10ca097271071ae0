/- A part of the proof of given statements: a verified condition generator for the model, and contracts of the program's functions. No condition. -/
import Derived.Test.YtmldccfchnlpgaaPart4
set_option linter.unusedVariables false
set_option linter.unusedSimpArgs false
set_option linter.constructorNameAsVariable false
set_option linter.unusedVariables false
set_option linter.unusedSimpArgs false
namespace Go.Vc
open Go Go.RowKit

/-! ## Contracts that tell new blocks, too: results and memory under the contract's names: 0 .. what was handed, behind these what is new -/
structure GRes where
  c : Prop
  rs : List AV
  ch : List AB
  news : List AB
abbrev GLaw := List AV → List AB → Option GRes
def tgH : Nat → List AB → List (Nat × Nat × AB)
  | _, [] => []
  | i, a :: l => match a with
    | .dead => tgH (Nat.succ i) l
    | a => (0, i, a) :: tgH (Nat.succ i) l
def labs : List AB → List AB → List AB
  | [], b => b
  | a :: l, b => a :: labs l b
def GLeR (s : AS) (l rs : List AV) (t : List (Nat × Nat × AB)) (r : Ren) : Prop :=
  match renOk (keepR t r), lt64 r with
  | true, true => alLe r l rs ∧ meLe r r s.me t
  | _, _ => False
def GLe (pin : List Nat) (s : AS) (l rs : List AV) (t : List (Nat × Nat × AB)) : Prop := GLeR s l rs t (bindM s.me t (bindL l rs (pinI pin)))
def retGOk (F : Fs) (tt : TT) (fr : List ResultVar) (rs : List AV) (ch news : List AB) : VX → AS → Prop :=
  endK F tt fr fun l s => GLe (upto 0 ch) s l rs (tgH 0 (labs ch news))
def rnABds (f : Nat → Option Nat) : List AB → Option (List AB)
  | [] => some []
  | a :: l => match rnABd f a, rnABds f l with
    | some b, some l' => some (b :: l')
    | _, _ => none
def zipKs : List Nat → List AB → Mem
  | k :: ks, a :: l => (k, a) :: zipKs ks l
  | _, _ => []
def isLenB : Nat → List AB → Bool
  | 0, [] => true
  | n + 1, _ :: r => isLenB n r
  | _, _ => false
def gname (n q kb : Nat) (ks : List Nat) (k : Nat) : Option Nat :=
  match Nat.blt k n with
  | true => nth ks k
  | false => match Nat.blt k (n + q) with
    | true => some (kb + (k - n))
    | false => none
def gSpec (n q : Nat) (g : GLaw) : Spec := fun args kb =>
  gather 40 (keysL args []) 0 [] fun ks abs =>
    match rnAL (fun k => idxOf k 0 ks) args, rnABs (fun k => idxOf k 0 ks) abs with
    | some l, some mm => match g l mm with
      | some ⟨c, rs, ch, news⟩ => match rnAL (gname n q kb ks) rs, rnABds (gname n q kb ks) ch, rnABs (gname n q kb ks) news with
        | some rs', some ch', some news' => match isLen n ks, isLenB n ch', isLenB q news', Nat.ble q 8 with
          | true, true, true, true => .ret ⟨c, tupAV rs', mapp (zipMe kb news') (zipKs ks ch')⟩
          | _, _, _, _ => .no
        | _, _, _ => .no
      | none => .no
    | _, _ => .no

theorem labs_eq : ∀ a b : List AB, labs a b = a ++ b
  | [], b => rfl
  | x :: l, b => by simp [labs, labs_eq l b]
theorem isLenB_spec : ∀ {n : Nat} {l : List AB}, isLenB n l = true → l.length = n
  | 0, [], _ => rfl
  | 0, _ :: _, h => by simp [isLenB] at h
  | n + 1, [], h => by simp [isLenB] at h
  | n + 1, _ :: r, h => by simp [isLenB_spec (n := n) (l := r) (by simpa [isLenB] using h)]
theorem rnABds_get {f : Nat → Option Nat} : ∀ {a b : List AB}, rnABds f a = some b → a.length = b.length ∧ ∀ (j : Nat) y, b[j]? = some y → ∃ x, a[j]? = some x ∧ rnABd f x = some y
  | [], b, h => by simp only [rnABds, Option.some.injEq] at h; subst h; simp
  | x :: a, b, h => by
    simp only [rnABds] at h
    split at h
    · rename_i y b' h1 h2
      cases h
      obtain ⟨h3, h4⟩ := rnABds_get h2
      refine ⟨by simp [h3], fun j z hz => ?_⟩
      cases j with
      | zero => simp only [List.getElem?_cons_zero, Option.some.injEq] at hz; subst hz; exact ⟨x, rfl, h1⟩
      | succ j => exact h4 j z (by simpa using hz)
    · cases h
theorem tgH_look : ∀ (l : List AB) (i t : Nat) (ab : AB), i ≤ t → l[t - i]? = some ab → ab.live = true → mlook (tgMem (tgH i l)) t = some ab
  | [], i, t, ab, _, h, _ => by simp at h
  | a :: l, i, t, ab, hi, h, hl => by
    by_cases e : i = t
    · subst e
      simp only [Nat.sub_self, List.getElem?_cons_zero, Option.some.injEq] at h
      subst h
      cases a with
      | dead => simp [AB.live] at hl
      | _ => simp only [tgH, tgMem]; rw [mlook_cons, if_pos rfl]
    · have ih := tgH_look l (i + 1) t ab (by omega) (by rw [show t - i = (t - (i + 1)) + 1 by omega] at h; simpa using h) hl
      cases a with
      | dead => simpa only [tgH] using ih
      | _ => simp only [tgH, tgMem]; rw [mlook_cons, if_neg e]; exact ih
theorem zipKs_look : ∀ (ks : List Nat) (l : List AB) (i k : Nat), l.length = ks.length → mlook (zipKs ks l) k = match idxOf k i ks with
    | some j => l[j - i]?
    | none => none
  | [], l, i, k, h => by cases l <;> simp [zipKs, mlook, idxOf]
  | t :: ks, [], i, k, h => by simp at h
  | t :: ks, a :: l, i, k, h => by
    simp only [zipKs]
    rw [mlook_cons]
    by_cases e : t = k
    · subst e; simp [idxOf]
    · rw [if_neg e, zipKs_look ks l (i + 1) k (by simpa using h)]
      have : idxOf k i (t :: ks) = idxOf k (i + 1) ks := by
        simp only [idxOf]
        split
        · rename_i h; exact absurd (beq_nat h).symm e
        · rfl
      rw [this]
      cases hq : idxOf k (i + 1) ks with
      | none => rfl
      | some j =>
        have := (idxOf_get ks (i + 1) k j hq).1
        simp only
        rw [show j - i = (j - (i + 1)) + 1 by omega]; simp
/-- the caller's names for the contract's: of what is new -/
def renN : Nat → Nat → Nat → Ren
  | _, _, 0 => []
  | kb, n, q + 1 => (kb, some n) :: renN (kb + 1) (n + 1) q
theorem renN_look (R : Ren) : ∀ (q kb n k : Nat), rlook (renN kb n q ++ R) k = if kb ≤ k ∧ k < kb + q then some (some (n + (k - kb))) else rlook R k
  | 0, kb, n, k => by simp [renN]; omega
  | q + 1, kb, n, k => by
    simp only [renN, List.cons_append]
    rw [rlook_cons, renN_look R q (kb + 1) (n + 1) k]
    by_cases e : kb = k
    · subst e; simp
    · rw [if_neg e]
      by_cases h : kb + 1 ≤ k ∧ k < kb + 1 + q
      · rw [if_pos h, if_pos (by omega)]; congr 2; omega
      · rw [if_neg h, if_neg (by omega)]
section
variable {P : Program} {m : Hd} {w : World} {me : Mem} {kb : Nat}
theorem g_sound {x : Cx} (hx : XOK P x) (hmx : P.follows .mixedOrders = true) {f : Nat} {fn : Func} {body : Code} (hf : P.funcs[f]? = some fn) (hbd : fn.body = some body) (hnt : fn.ntmps = x.nt) (hdr : drawsOk x.tt x.dr body = true)
    {n q : Nat} (hn64 : n ≤ 64) (hpin : ∀ j, j < n → j ∈ x.pin) {g : GLaw}
    (h : ∀ l mm c rs ch news, g l mm = some ⟨c, rs, ch, news⟩ → mm.length = n → c → llen l ≤ x.nt ∧ ∃ an cu, vc real x an cu body ⟨zipSl 0 l, zipMe 0 mm, 64⟩ (retGOk real x.tt fn.results.toList rs ch news)) : SpecOK P f (gSpec n q g) := by
  intro m w me kb args vals e hgi hb hv he hc
  unfold gSpec at he
  obtain ⟨ks, abs, hnd, hal, habs, he⟩ := gather_sound 40 (keysL args []) 0 [] (keysL_nodup args [] List.nodup_nil).1 rfl (fun j ab hj => by simp at hj) (Nat.zero_le _) he
  split at he
  · rename_i l mm hl hmm
    split at he
    · rename_i c rs ch news hg
      split at he
      · rename_i rs' ch' news' hrs hch hnw
        split at he
        · rename_i hil hic hin hle
          simp only [Look.run, Option.some.injEq] at he
          subst he
          have hkn := isLen_spec hil
          have hcn := isLenB_spec hic
          have hnn := isLenB_spec hin
          have hq8 : q ≤ 8 := Nat.le_of_ble_eq_true hle
          obtain ⟨hmmlen, hget⟩ := rnABs_get hmm
          have hml : mm.length = ks.length := by omega
          obtain ⟨hlen, an, cu, hvc⟩ := h l mm c rs ch news hg (by omega) hc
          rw [llen_eq] at hlen
          obtain ⟨hcl2, hcget⟩ := rnABds_get hch
          obtain ⟨hnl2, hnget⟩ := rnABs_get hnw
          -- the callee's names
          let okS : Nat → Prop := fun b => Stable m w b ∨ w.heap.size ≤ b ∨ ∃ k v, k ∈ ks ∧ m k = some v ∧ blk v = some b
          let mS : Hd := ⟨m.mu, okS, m.pub⟩
          have hpS : Pres m w mS w := ⟨fun _ _ h => h, fun b hb => ⟨rfl, hb.1, .inl hb, hb.2.2⟩⟩
          let m1 : Hd := hren mS (ren1 0 ks)
          have hm1 : ∀ j, m1 j = (match ks[j]? with
            | some k => m k
            | none => none) := by
            intro j
            show (hren mS (ren1 0 ks)) j = _
            rw [hren_apply, ren1_look]
            simp only [Nat.zero_le, if_true, Nat.sub_zero]
            cases hq : ks[j]? with
            | none => rfl
            | some k => rfl
          have hv1 : RVs m1 w l vals := RVs_le args l vals (rnl_le (same1 ks) args l hl) (RVs_mono hpS args vals hv)
          have hent : ∀ (j : Nat) ab, mm[j]? = some ab → ∃ k ab0 v, ks[j]? = some k ∧ mlook me k = some ab0 ∧ rnAB (fun k => idxOf k 0 ks) ab0 = some ab ∧ ab0.live = true ∧ m k = some v := by
            intro j ab hj
            obtain ⟨ab0, h1, h2⟩ := hget j ab hj
            obtain ⟨k, h3, h4⟩ := habs j ab0 h1
            obtain ⟨_, h5, _⟩ := rnb_le (same1 ks) ab0 ab h2
            obtain ⟨v, h6⟩ := ABR_live (hb.mem.at_ k ab0 h4) h5
            exact ⟨k, ab0, v, h3, h4, h2, h5, h6⟩
          have hme : MemR m1 w (zipMe 0 mm) := by
            refine ⟨fun j ab hj => ?_, fun j j' ab ab' v v' b hj hj' _ _ hne hv hv' hbk => ?_, fun b hp => hb.mem.pubs b hp, fun j ab v b hj _ hv hbk => ?_, fun j ab v b hj _ hv hbk => ?_, fun b h => .inr (.inl h)⟩
            · rw [zipMe_look] at hj
              simp only [Nat.zero_le, if_true, Nat.sub_zero] at hj
              obtain ⟨k, ab0, v, h1, h2, h3, h4, h5⟩ := hent j ab hj
              refine ABR_le (r := ren1 0 ks) (k := j) (o := k) (by rw [ren1_look]; simp [h1]) (rnb_le (same1 ks) ab0 ab h3).1 ?_
              exact ABR_keep (hb.mem.at_ k ab0 h2) (fun _ h => h) (fun _ _ _ _ => rfl) hpS
            · rw [zipMe_look] at hj hj'
              simp only [Nat.zero_le, if_true, Nat.sub_zero] at hj hj'
              obtain ⟨k, ab0, v0, h1, h2, h3, h4, h5⟩ := hent j ab hj
              obtain ⟨k', ab0', v0', h1', h2', h3', h4', h5'⟩ := hent j' ab' hj'
              rw [hm1, h1] at hv
              rw [hm1, h1'] at hv'
              refine hb.mem.apart k k' ab0 ab0' v v' b h2 h2' h4 h4' (fun e => ?_) hv hv' hbk
              subst e
              have e1 := idxOf_of ks 0 k j hnd h1
              have e2 := idxOf_of ks 0 k j' hnd h1'
              rw [e1] at e2
              simp at e2
              exact hne e2
            · rw [zipMe_look] at hj
              simp only [Nat.zero_le, if_true, Nat.sub_zero] at hj
              obtain ⟨k, ab0, v0, h1, h2, h3, h4, h5⟩ := hent j ab hj
              rw [hm1, h1] at hv
              exact hb.mem.live k ab0 v b h2 h4 hv hbk
            · rw [zipMe_look] at hj
              simp only [Nat.zero_le, if_true, Nat.sub_zero] at hj
              obtain ⟨k, ab0, v0, h1, h2, h3, h4, h5⟩ := hent j ab hj
              rw [hm1, h1] at hv
              exact .inr (.inr ⟨k, v, List.mem_of_getElem? h1, hv, hbk⟩)
          have hbd1 : Bd m1 w := by
            intro j v b hj hbk
            rw [hm1] at hj
            split at hj
            · exact hb.bd _ v b hj hbk
            · cases hj
          let E : Env := ⟨w, (List.range n).filterMap (fun j => (m1 j).bind blk), okS, none, (List.range n).filterMap fun j => (m1 j).map fun v => (j, v), m.pub⟩
          have hlk : ∀ j, n ≤ j → m1 j = none := by
            intro j hj
            rw [hm1, List.getElem?_eq_none (by omega)]
          have hvl := RVs_length hv1
          have hr : StR E x.nt ⟨zipSl 0 l, zipMe 0 mm, 64⟩ m1 { tmps := vals.toArray ++ Array.replicate (fn.ntmps - vals.toArray.size) undef, defers := [] } w := by
            refine ⟨entry_sl hv1 _, hme, hbd1, fun k hk => hlk k (by have : 64 ≤ k := hk; omega), by simp; omega, rfl, ⟨rfl, rfl, rfl, Nat.le_refl _, rfl, fun _ _ _ => rfl, fun j v b hj hbk => .inr ?_, fun m0 w1 he => (by cases he), fun j v hj => ?_, fun b h _ _ => h, fun b h => h⟩⟩
            · show b ∈ (List.range n).filterMap _
              rw [List.mem_filterMap]
              refine ⟨j, ?_, by rw [hj]; exact hbk⟩
              rw [List.mem_range]
              by_cases h : j < n
              · exact h
              · rw [hlk j (by omega)] at hj; cases hj
            · have hj' : (j, v) ∈ (List.range n).filterMap fun j => (m1 j).map fun v => (j, v) := hj
              rw [List.mem_filterMap] at hj'
              obtain ⟨i, hi0, hi⟩ := hj'
              cases hq : m1 i with
              | none => rw [hq] at hi; cases hi
              | some u => rw [hq] at hi; cases hi; exact hq
          have hE : GE P E := hgi.ge rfl (fun b h => .inl h) (fun b h hb2 => by
            have hb3 : b ∈ (List.range n).filterMap (fun j => (m1 j).bind blk) := hb2
            rw [List.mem_filterMap] at hb3
            obtain ⟨j, hj, hj2⟩ := hb3
            rw [List.mem_range] at hj
            obtain ⟨ab, hab⟩ : ∃ ab, mm[j]? = some ab := ⟨_, List.getElem?_eq_getElem (by omega)⟩
            obtain ⟨k, ab0, v, g1, g2, g3, g4, g5⟩ := hent j ab hab
            have h6 : m1 j = some v := by rw [hm1, g1]; exact g5
            rw [h6] at hj2
            rcases h.2.2 with h7 | h7
            · exact hb.mem.live k ab0 v b g2 g4 g5 hj2 h7
            · exact h7 k v g5 hj2)
          have hpE : ∀ j v, (j, v) ∈ E.pin → j ∈ x.pin := by
            intro j v hj
            have hj' : (j, v) ∈ (List.range n).filterMap fun j => (m1 j).map fun v => (j, v) := hj
            rw [List.mem_filterMap] at hj'
            obtain ⟨i, hi, hi2⟩ := hj'
            rw [List.mem_range] at hi
            cases hq : m1 i with
            | none => rw [hq] at hi2; cases hi2
            | some u => rw [hq] at hi2; cases hi2; exact hpin _ hi
          refine calls_of_wp hf hbd (code_mono (vc_sound hx hE hpE (.inl rfl) hmx body _ _ hdr hvc _ _ w hr) ?_)
          intro en a w' hp
          refine ends_sound hx.tt (fun avs vs s' m2 w2 k1 k2 k3 => ?_) hp
          clear hp
          have hpinned : ∀ (j : Nat) v, j < n → m1 j = some v → m2 j = some v := by
            intro j v hj h1
            refine k3.fr.pin j v ?_
            show (j, v) ∈ (List.range n).filterMap _
            rw [List.mem_filterMap]
            exact ⟨j, by rw [List.mem_range]; exact hj, by rw [h1]; rfl⟩
          have hks : ∀ k j, ks[j]? = some k → ∃ ab0 v, mlook me k = some ab0 ∧ ab0.live = true ∧ m k = some v ∧ m1 j = some v ∧ m2 j = some v ∧ j < n := by
            intro k j hj
            have hjn := (List.getElem?_eq_some_iff.1 hj).1
            obtain ⟨ab, hab⟩ : ∃ ab, mm[j]? = some ab := ⟨_, List.getElem?_eq_getElem (by omega)⟩
            obtain ⟨k', ab0, v, h1, h2, _, h4, h5⟩ := hent j ab hab
            rw [hj] at h1; cases h1
            have h6 : m1 j = some v := by rw [hm1, hj]; exact h5
            exact ⟨ab0, v, h2, h4, h5, h6, hpinned j v (by omega) h6, by omega⟩
          unfold GLe at k2
          generalize hrr : bindM s'.me (tgH 0 (labs ch news)) (bindL avs rs (pinI (upto 0 ch))) = r at k2
          unfold GLeR at k2
          split at k2
          rotate_left
          · exact k2.elim
          rename_i hok hlt
          obtain ⟨k2a, k2m⟩ := k2
          have hpinr : ∀ j, j < n → rlook r j = some (some j) := fun j hj => by
            rw [← hrr]; exact bindM_keep _ _ (bindL_keep _ _ _ (pinI_look _ j (by rw [upto_mem]; omega)))
          have hT := MemR_le k3.mem hok k2m
          have hTlook : ∀ (j : Nat) ab, (ch ++ news)[j]? = some ab → ab.live = true → mlook (tgMem (tgH 0 (labs ch news))) j = some ab := fun j ab h1 h2 => by
            rw [labs_eq]; exact tgH_look _ 0 j ab (Nat.zero_le _) (by simpa using h1) h2
          generalize tgH 0 (labs ch news) = T at *
          have hTabr : ∀ (j : Nat) ab, mlook (tgMem T) j = some ab → ABR (hrens m2 r) w2 j ab := by
            intro j ab hj
            rcases me_entry k2m hj with ⟨o, ab0, h1, h2, h3⟩ | ⟨h1, T', e', c', rfl, h2⟩
            · exact ABR_leG .hrens h1 h3 (k3.mem.at_ o ab0 h2)
            · exact ⟨.slice none 0 0, 0, [], (by show (hren m2 r) j = _; rw [hren_apply, h1]), ⟨by simp, .inl ⟨none, rfl, rfl⟩⟩, acNil_RC h2⟩
          have hsz : w.heap.size ≤ w2.heap.size := k3.fr.size
          have hWn : ∀ b, b ∈ E.W → ∃ k v ab0, k ∈ ks ∧ m k = some v ∧ blk v = some b ∧ mlook me k = some ab0 ∧ ab0.live = true := by
            intro b hbW
            have hbW' : b ∈ (List.range n).filterMap (fun j => (m1 j).bind blk) := hbW
            rw [List.mem_filterMap] at hbW'
            obtain ⟨j, hj, hj2⟩ := hbW'
            rw [List.mem_range] at hj
            obtain ⟨k, hk⟩ : ∃ k, ks[j]? = some k := ⟨_, List.getElem?_eq_getElem (by omega)⟩
            obtain ⟨ab0, v, h1, h2, h4, h5, _⟩ := hks k j hk
            rw [h5] at hj2
            exact ⟨k, v, ab0, List.mem_of_getElem? hk, h4, hj2, h1, h2⟩
          have hblk : ∀ b, b < w.heap.size → b ∉ E.W → w2.heap[b]? = w.heap[b]? := fun b h1 h2 => k3.fr.block b h1 h2
          have hown : ∀ j v b, (hren m2 r) j = some v → blk v = some b → (w.heap.size ≤ b ∨ b ∈ E.W) ∧ b < w2.heap.size ∧ ∃ o, m2 o = some v := by
            intro j v b hj hbk
            rcases hren_from hj with ⟨o, ho⟩ | rfl
            · exact ⟨k3.fr.own o v b ho hbk, k3.bd o v b ho hbk, o, ho⟩
            · simp [blk] at hbk
          have hnot : ∀ k v b ab, m k = some v → blk v = some b → mlook me k = some ab → ab.live = true → k ∉ ks → b ∉ E.W := by
            intro k v b ab h1 h2 h3 h4 h5 h6
            obtain ⟨k', v', ab', g1, g2, g3, g4, g5⟩ := hWn b h6
            exact hb.mem.apart k k' ab ab' v v' b h3 g4 h4 g5 (fun e => h5 (e ▸ g1)) h1 g2 h2 g3
          have hksn : ∀ k, k ∈ ks → ¬ (kb ≤ k ∧ k < kb + q) := by
            intro k hk hh
            obtain ⟨j, hj⟩ := List.getElem?_of_mem hk
            obtain ⟨_, v, _, _, h4, _⟩ := hks k j hj
            rw [hb.fresh k hh.1 (by omega)] at h4; cases h4
          let r3 : Ren := renN kb n q ++ ren2 0 ks
          have hr3 : ∀ k, rlook r3 k = if kb ≤ k ∧ k < kb + q then some (some (n + (k - kb))) else (idxOf k 0 ks).map some := fun k => by
            show rlook (renN kb n q ++ ren2 0 ks) k = _
            rw [renN_look, ren2_look]
          have hsame : sameAll r3 (gname n q kb ks) := by
            intro k j hkj
            unfold gname at hkj
            split at hkj
            · rename_i hlt
              have hkn' : k < n := Nat.le_of_ble_eq_true hlt
              rw [nth_get] at hkj
              rw [hr3, if_neg (hksn j (List.mem_of_getElem? hkj)), idxOf_of ks 0 j k hnd hkj]
              simp
            · rename_i hlt
              have hkn' : ¬ k < n := fun hh => by rw [show Nat.blt k n = true from Nat.ble_eq_true_of_le hh] at hlt; cases hlt
              split at hkj
              · rename_i hlt2
                have hkn2 : k < n + q := Nat.le_of_ble_eq_true hlt2
                cases hkj
                rw [hr3, if_pos (by omega)]
                congr 2; omega
              · cases hkj
          let mc : Hd := hrens (hrens m2 r) r3
          let m' : Hd := ⟨fun k => if kb ≤ k ∧ k < kb + q then (hren m2 r) (n + (k - kb)) else m k, m.ok, m2.pub⟩
          have hm'n : ∀ k, kb ≤ k ∧ k < kb + q → m' k = (hren m2 r) (n + (k - kb)) := fun k hk => if_pos hk
          have hm'o : ∀ k, ¬ (kb ≤ k ∧ k < kb + q) → m' k = m k := fun k hk => if_neg hk
          have hT1 : ∀ k j, ks[j]? = some k → ∃ v, m k = some v ∧ (hren m2 r) j = some v := by
            intro k j hj
            obtain ⟨ab0, v, h1, h2, h4, h5, h6, h7⟩ := hks k j hj
            exact ⟨v, h4, by rw [hren_apply, hpinr j h7]; exact h6⟩
          have hmc : ∀ k v, mc k = some v → m' k = some v := by
            intro k v hk
            have hk : (hren (hren m2 r) r3) k = some v := hk
            rw [hren_apply, hr3] at hk
            by_cases hn : kb ≤ k ∧ k < kb + q
            · rw [if_pos hn] at hk
              rw [hm'n k hn]; exact hk
            · rw [if_neg hn] at hk
              rw [hm'o k hn]
              cases hq : idxOf k 0 ks with
              | none => rw [hq] at hk; simp at hk
              | some j =>
                rw [hq] at hk
                simp only [Option.map_some] at hk
                have h1 := (idxOf_get ks 0 k j hq).2
                simp only [Nat.sub_zero] at h1
                obtain ⟨v0, h2, h3⟩ := hT1 k j h1
                rw [h3] at hk; cases hk
                exact h2
          -- names that the contract speaks of
          have hdom : ∀ k, (kb ≤ k ∧ k < kb + q) ∨ k ∈ ks → ∃ j, rlook r3 k = some (some j) ∧ m' k = (hren m2 r) j ∧ ((kb ≤ k ∧ k < kb + q ∧ j = n + (k - kb)) ∨ (ks[j]? = some k ∧ j < n)) := by
            intro k hk
            by_cases hn : kb ≤ k ∧ k < kb + q
            · exact ⟨n + (k - kb), by rw [hr3, if_pos hn], hm'n k hn, .inl ⟨hn.1, hn.2, rfl⟩⟩
            · rcases hk with hk | hk
              · exact absurd hk hn
              · obtain ⟨j, hj⟩ := List.getElem?_of_mem hk
                obtain ⟨v, h1, h2⟩ := hT1 k j hj
                have hjn := (List.getElem?_eq_some_iff.1 hj).1
                exact ⟨j, by rw [hr3, if_neg hn, idxOf_of ks 0 k j hnd hj]; simp, by rw [hm'o k hn, h1, h2], .inr ⟨hj, by omega⟩⟩
          have hlook : ∀ k, mlook (mputs (mapp (zipMe kb news') (zipKs ks ch')) me) k = if kb ≤ k ∧ k < kb + q then news'[k - kb]? else match idxOf k 0 ks with
              | some j => ch'[j]?
              | none => mlook me k := by
            intro k
            rw [mputs_mapp, mlook_mputs, zipMe_look, mlook_mputs, zipKs_look ks ch' 0 k (by omega)]
            by_cases hn : kb ≤ k ∧ k < kb + q
            · rw [if_pos hn.1, if_pos hn]
              rw [List.getElem?_eq_getElem (by omega)]
            · rw [if_neg hn]
              have : (if kb ≤ k then news'[k - kb]? else none) = none := by
                split
                · exact List.getElem?_eq_none (by omega)
                · rfl
              rw [this]
              cases hq : idxOf k 0 ks with
              | none => rfl
              | some j =>
                simp only [Nat.sub_zero]
                have h1 := (idxOf_get ks 0 k j hq).2
                simp only [Nat.sub_zero] at h1
                have h2 := (List.getElem?_eq_some_iff.1 h1).1
                rw [List.getElem?_eq_getElem (by omega)]
          have hfin : ∀ k ab, (kb ≤ k ∧ k < kb + q) ∨ k ∈ ks → mlook (mputs (mapp (zipMe kb news') (zipKs ks ch')) me) k = some ab → ab.live = true →
              ∃ j ab0, rlook r3 k = some (some j) ∧ m' k = (hren m2 r) j ∧ mlook (tgMem T) j = some ab0 ∧ ab0.live = true ∧ abLe r3 ab0 ab ∧ ((kb ≤ k ∧ k < kb + q ∧ j = n + (k - kb)) ∨ (ks[j]? = some k ∧ j < n)) := by
            intro k ab hk hab hlv
            obtain ⟨j, h1, h2, h3⟩ := hdom k hk
            rw [hlook] at hab
            rcases h3 with ⟨h3, h4, h5⟩ | ⟨h3, h4⟩
            · rw [if_pos ⟨h3, h4⟩] at hab
              obtain ⟨x', hx1, hx2⟩ := hnget _ ab hab
              obtain ⟨g1, g2, g3⟩ := rnb_le hsame x' ab hx2
              refine ⟨j, x', h1, h2, hTlook j x' ?_ g2, g2, g1, .inl ⟨h3, h4, h5⟩⟩
              rw [List.getElem?_append_right (by omega), h5, show n + (k - kb) - ch.length = k - kb by omega]
              exact hx1
            · have hkk := List.mem_of_getElem? h3
              rw [if_neg (hksn k hkk), idxOf_of ks 0 k j hnd h3, Nat.zero_add] at hab
              simp only at hab
              obtain ⟨x', hx1, hx2⟩ := hcget j ab hab
              have hxd : x' ≠ .dead := by
                rintro rfl
                simp only [rnABd, Option.some.injEq] at hx2
                subst hx2; cases hlv
              have hx3 : rnAB (gname n q kb ks) x' = some ab := by cases x' <;> first | exact absurd rfl hxd | exact hx2
              obtain ⟨g1, g2, g3⟩ := rnb_le hsame x' ab hx3
              refine ⟨j, x', h1, h2, hTlook j x' ?_ g2, g2, g1, .inr ⟨h3, h4⟩⟩
              rw [List.getElem?_append_left (List.getElem?_eq_some_iff.1 hx1).1]
              exact hx1
          have holdl : ∀ k ab, ¬ ((kb ≤ k ∧ k < kb + q) ∨ k ∈ ks) → mlook (mputs (mapp (zipMe kb news') (zipKs ks ch')) me) k = some ab → mlook me k = some ab ∧ m' k = m k := by
            intro k ab hk hab
            have hk1 : ¬ (kb ≤ k ∧ k < kb + q) := fun h => hk (.inl h)
            rw [hlook, if_neg hk1] at hab
            cases hq : idxOf k 0 ks with
            | none => rw [hq] at hab; exact ⟨hab, hm'o k hk1⟩
            | some j => exact absurd (.inr (List.mem_of_getElem? (idxOf_get ks 0 k j hq).2)) hk
          have hpub : ∀ b, m2.pub b → m.pub b ∨ b ∈ E.W ∨ w.heap.size ≤ b := by
            intro b hp
            by_cases h1 : b < w.heap.size
            · by_cases h2 : b ∈ E.W
              · exact .inr (.inl h2)
              · exact .inl (k3.fr.pub b hp h1 h2)
            · exact .inr (.inr (by omega))
          have tr : Tr m w m' w2 := by
            refine ⟨fun k v hk => ?_, rfl, fun b hp => k3.fr.pubm b hp, fun b hp => ?_, hsz, fun b hb' hno => hblk b hb' (fun hm => ?_), fun k v b hk hv => ?_, k3.fr.os, k3.fr.tape, k3.fr.output⟩
            · rw [hm'o k (fun hh => by rw [hb.fresh k hh.1 (by omega)] at hk; cases hk)]; exact hk
            · rcases hpub b hp with h | h | h
              · exact .inl h
              · obtain ⟨k, v, _, _, h2, h3, _⟩ := hWn b h
                exact .inr (.inl ⟨k, v, h2, h3⟩)
              · exact .inr (.inr h)
            · obtain ⟨k, v, ab0, _, h2, h3, h4, h5⟩ := hWn b hm
              exact hno.elim (hb.mem.live k ab0 v b h4 h5 h2 h3) (fun hno => hno k v h2 h3)
            · by_cases hn : kb ≤ k ∧ k < kb + q
              · rw [hm'n k hn] at hk
                rcases (hown _ v b hk hv).1 with h | h
                · exact .inr h
                · obtain ⟨k', v', _, _, h2, h3, _⟩ := hWn b h
                  exact .inl ⟨k', v', h2, h3⟩
              · rw [hm'o k hn] at hk
                exact .inl ⟨k, v, hk, hv⟩
          have hpc : Pres mc w2 m' w2 := by
            refine ⟨hmc, fun b hs => ⟨rfl, ?_⟩⟩
            have hok2 : m2.ok b ∧ (m2.pub b ∨ ∀ k v, m2 k = some v → blk v ≠ some b) := hs.2.1.1
            have hok3 : okS b := by
              have := hok2.1
              rw [k3.fr.ok] at this
              exact this
            have hokm : m.ok b := by
              rcases hok3 with h | h | ⟨k, v, hk, h1, h2⟩
              · exact h.2.1
              · exact hb.mem.okn b h
              · obtain ⟨j, hj⟩ := List.getElem?_of_mem hk
                obtain ⟨ab0, v', q1, q2, q3, _⟩ := hks k j hj
                rw [q3] at h1; cases h1
                exact hb.mem.okl k ab0 _ b q1 q2 q3 h2
            refine ⟨hs.1, hokm, ?_⟩
            rcases hok2.2 with hp | hno
            · exact .inl hp
            · rcases hok3 with h | h | ⟨k, v, hk, h1, h2⟩
              · rcases h.2.2 with h4 | h4
                · exact .inl (k3.fr.pubm b h4)
                · refine .inr fun k v hk hv => ?_
                  by_cases hn : kb ≤ k ∧ k < kb + q
                  · rw [hm'n k hn] at hk
                    obtain ⟨_, _, o, ho⟩ := hown _ v b hk hv
                    exact hno o v ho hv
                  · rw [hm'o k hn] at hk
                    exact h4 k v hk hv
              · refine .inr fun k v hk hv => ?_
                by_cases hn : kb ≤ k ∧ k < kb + q
                · rw [hm'n k hn] at hk
                  obtain ⟨_, _, o, ho⟩ := hown _ v b hk hv
                  exact hno o v ho hv
                · rw [hm'o k hn] at hk
                  have := hb.bd k v b hk hv; omega
              · obtain ⟨j, hj⟩ := List.getElem?_of_mem hk
                obtain ⟨ab0, v', q1, q2, q3, q4, q5, _⟩ := hks k j hj
                rw [q3] at h1; cases h1
                exact absurd h2 (hno j _ q5)
          refine ⟨_, rfl, m', tr, tupAV_sound (RVs_mono hpc rs' vs (RVs_leG .hrens rs rs' vs (rnl_le hsame rs rs' hrs) (RVs_leG .hrens avs rs vs k2a k1))), ?_, fun k hk => ?_, fun k v b hk hv => ?_⟩
          · refine ⟨fun t ab hab => ?_, fun t t' ab ab' v v' b hab hab' hl hl' hne hv hv' hbk => ?_, k3.mem.pubs, fun t ab v b hab hl hv hbk hp => ?_, fun t ab v b hab hl hv hbk => ?_, fun b h => hb.mem.okn b (Nat.le_trans hsz h)⟩
            · by_cases hd : (kb ≤ t ∧ t < kb + q) ∨ t ∈ ks
              · cases hlv : ab.live with
                | false => cases ab with
                  | dead => trivial
                  | _ => simp [AB.live] at hlv
                | true =>
                  obtain ⟨j, ab0, h1, h2, h3, h4, h5, _⟩ := hfin t ab hd hab hlv
                  exact ABR_keep (ABR_leG .hrens h1 h5 (hTabr j ab0 h3)) (hmc t) (fun _ _ _ _ => rfl) hpc
              · obtain ⟨h1, h2⟩ := holdl t ab hd hab
                cases hlv : ab.live with
                | false => cases ab with
                  | dead => trivial
                  | _ => simp [AB.live] at hlv
                | true =>
                  exact ABR_keep (hb.mem.at_ t ab h1) (fun v hv => h2.trans hv) (fun v b hv hbk => hblk b (hb.bd t v b hv hbk) (hnot t v b ab hv hbk h1 hlv (fun h => hd (.inr h)))) tr.pres
            · intro hbq
              by_cases hd : (kb ≤ t ∧ t < kb + q) ∨ t ∈ ks <;> by_cases hd' : (kb ≤ t' ∧ t' < kb + q) ∨ t' ∈ ks
              · obtain ⟨j, ab0, h1, h2, h3, h4, _, h6⟩ := hfin t ab hd hab hl
                obtain ⟨j', ab0', h1', h2', h3', h4', _, h6'⟩ := hfin t' ab' hd' hab' hl'
                rw [h2] at hv; rw [h2'] at hv'
                refine hT.apart j j' ab0 ab0' v v' b h3 h3' h4 h4' (fun e => hne ?_) hv hv' hbk hbq
                subst e
                rcases h6 with ⟨a1, a2, a3⟩ | ⟨a1, a2⟩ <;> rcases h6' with ⟨b1, b2, b3⟩ | ⟨b1, b2⟩
                · omega
                · omega
                · omega
                · rw [a1] at b1; exact Option.some.inj b1
              · obtain ⟨j, ab0, h1, h2, h3, h4, _, h6⟩ := hfin t ab hd hab hl
                obtain ⟨g1, g2⟩ := holdl t' ab' hd' hab'
                rw [h2] at hv; rw [g2] at hv'
                rcases (hown j v b hv hbk).1 with h | h
                · have := hb.bd t' v' b hv' hbq; omega
                · exact hnot t' v' b ab' hv' hbq g1 hl' (fun h => hd' (.inr h)) h
              · obtain ⟨j, ab0, h1, h2, h3, h4, _, h6⟩ := hfin t' ab' hd' hab' hl'
                obtain ⟨g1, g2⟩ := holdl t ab hd hab
                rw [h2] at hv'; rw [g2] at hv
                rcases (hown j v' b hv' hbq).1 with h | h
                · have := hb.bd t v b hv hbk; omega
                · exact hnot t v b ab hv hbk g1 hl (fun h => hd (.inr h)) h
              · obtain ⟨g1, g2⟩ := holdl t ab hd hab
                obtain ⟨g1', g2'⟩ := holdl t' ab' hd' hab'
                rw [g2] at hv; rw [g2'] at hv'
                exact hb.mem.apart t t' ab ab' v v' b g1 g1' hl hl' hne hv hv' hbk hbq
            · by_cases hd : (kb ≤ t ∧ t < kb + q) ∨ t ∈ ks
              · obtain ⟨j, ab0, h1, h2, h3, h4, _, h6⟩ := hfin t ab hd hab hl
                rw [h2] at hv
                exact hT.live j ab0 v b h3 h4 hv hbk hp
              · obtain ⟨g1, g2⟩ := holdl t ab hd hab
                rw [g2] at hv
                rcases hpub b hp with h | h | h
                · exact hb.mem.live t ab v b g1 hl hv hbk h
                · exact hnot t v b ab hv hbk g1 hl (fun h => hd (.inr h)) h
                · have := hb.bd t v b hv hbk; omega
            · by_cases hd : (kb ≤ t ∧ t < kb + q) ∨ t ∈ ks
              · obtain ⟨j, ab0, h1, h2, h3, h4, _, h6⟩ := hfin t ab hd hab hl
                rw [h2] at hv
                rcases (hown j v b hv hbk).1 with h | h
                · exact hb.mem.okn b h
                · obtain ⟨k, v', ab', _, q2, q3, q4, q5⟩ := hWn b h
                  exact hb.mem.okl k ab' v' b q4 q5 q2 q3
              · obtain ⟨g1, g2⟩ := holdl t ab hd hab
                rw [g2] at hv
                exact hb.mem.okl t ab v b g1 hl hv hbk
          · by_cases hn : kb ≤ k ∧ k < kb + q
            · exact .inr ⟨hn.1, by omega⟩
            · rw [hm'o k hn] at hk
              exact .inl hk
          · by_cases hn : kb ≤ k ∧ k < kb + q
            · rw [hm'n k hn] at hk
              exact (hown _ v b hk hv).2.1
            · rw [hm'o k hn] at hk
              exact Nat.lt_of_lt_of_le (hb.bd k v b hk hv) hsz
        · exact (Look.run_no he).elim
      · exact (Look.run_no he).elim
    · exact (Look.run_no he).elim
  · exact (Look.run_no he).elim
end
/-- one contract for each form of the i-th argument -/
def bySpec (i : Nat) (n b r s : Spec) : Spec := fun args kb => match lget args i with
  | .nl => n args kb
  | .rb _ _ => b args kb
  | .rw _ => r args kb
  | .sl _ _ _ _ _ _ => s args kb
  | _ => .no
end Go.Vc
set_option linter.unusedVariables false
set_option linter.unusedSimpArgs false
namespace Go.Vc
open Go Go.RowKit

/-! ## A contract that asks for content that stays, met by a row of the caller's own -/
mutual
/-- no reference to what merely stays -/
def AV.ns : AV → Bool
  | .rb _ _ => false
  | .pr _ => false
  | .tup _ => false
  | .ag _ c => AC.ns c
  | .fv _ l => AL.ns l
  | _ => true
def AC.ns : AC → Bool
  | .vs l => AL.ns l
  | .fn _ _ _ => false
  | .ds s _ => s.plain
  | _ => true
def AL.ns : List AV → Bool
  | [] => true
  | a :: l => match AV.ns a with
    | true => AL.ns l
    | false => false
end
def segsNs : List Seg → Bool
  | [] => true
  | (_, c) :: l => match AC.ns c with
    | true => segsNs l
    | false => false
def AB.ns : AB → Bool
  | .dead => true
  | .bk _ s => segsNs s
  | .row _ _ c => c.ns
  | .mp _ _ vs _ => vs.plain
  | .it _ _ _ _ => true
def abNs : List AB → Bool
  | [] => true
  | a :: l => match a.ns with
    | true => abNs l
    | false => false
def memNs : Mem → Bool
  | [] => true
  | (_, a) :: l => match a.ns with
    | true => memNs l
    | false => false
def AV.nsv : AV → Bool
  | .tup l => AL.ns l
  | a => a.ns
def idk (ks : List Nat) (k : Nat) : Option Nat := match lmem k ks with
  | true => some k
  | false => none
def ren0 : List Nat → Ren
  | [] => []
  | k :: ks => (k, some k) :: ren0 ks
def nameV : AV → Option Nat
  | .rw k => some k
  | .sl k _ _ _ _ _ => some k
  | _ => none
/-- the arguments, rows of the caller's own told by what lies in them; which rows these are -/
def convs (F : Fs) : List PT → List AV → List Nat → (List AV → List Nat → Look) → Look
  | [], [], us, K => K [] us
  | .keep :: ts, a :: r, us, K => convs F ts r us fun l us' => K (a :: l) us'
  | .row k :: ts, a :: r, us, K => match nameV a with
    | some j => .look j fun ab => match ab.live with
      | true => withContent F a k.esz fun c => match k.fits c, AC.nk false c with
        | true, true => convs F ts r (j :: us) fun l us' => K (.rb k.esz c :: l) us'
        | _, _ => .no
      | false => .no
    | none => match a with
      | .nl => convs F ts r us fun l us' => K (.rb k.esz k.nil :: l) us'
      | .z => convs F ts r us fun l us' => K (.rb k.esz k.nil :: l) us'
      | a => convs F ts r us fun l us' => K (a :: l) us'
  | _, _, _, _ => .no
def disj : List Nat → List Nat → Bool
  | [], _ => true
  | k :: us, ks => match lmem k ks with
    | true => false
    | false => disj us ks
def rbSpec (F : Fs) (ts : List PT) (s : Spec) : Spec := fun args kb =>
  convs F ts args [] fun args1 us =>
    match us with
    | [] => s args1 kb
    | us => gather 40 (keysL args1 []) 0 [] fun ks abs =>
      match rnAL (idk ks) args1, rnABs (idk ks) abs, disj us ks, abNs abs with
      | some l, some mm, true, true => match (s l kb).run (zipKs ks abs) with
        | some e => match e.v.nsv, memNs e.puts with
          | true, true => .ret e
          | _, _ => .no
        | none => .no
      | _, _, _, _ => .no

theorem disj_spec : ∀ {us ks : List Nat}, disj us ks = true → ∀ k, k ∈ us → k ∉ ks
  | [], ks, h, k, hk => by simp at hk
  | u :: us, ks, h, k, hk => by
    simp only [disj] at h
    split at h
    · cases h
    · rename_i hm
      rcases List.mem_cons.1 hk with rfl | hk
      · exact lmem_spec hm
      · exact disj_spec h k hk
theorem idk_eq {ks : List Nat} {k j : Nat} (h : idk ks k = some j) : j = k ∧ k ∈ ks := by
  unfold idk at h
  split at h
  · rename_i hm
    refine ⟨(Option.some.inj h).symm, ?_⟩
    clear h
    induction ks with
    | nil => simp [lmem] at hm
    | cons a r ih =>
      simp only [lmem] at hm
      split at hm
      · rename_i e; rw [beq_nat e]; exact List.mem_cons_self
      · exact List.mem_cons_of_mem _ (ih hm)
  · cases h
theorem ren0_look : ∀ (ks : List Nat) (t : Nat), rlook (ren0 ks) t = if t ∈ ks then some (some t) else none
  | [], t => by simp [ren0, rlook]
  | k :: ks, t => by
    rw [ren0, rlook_cons, ren0_look ks t]
    by_cases e : k = t
    · subst e; simp
    · rw [if_neg e]
      have : t ∈ k :: ks ↔ t ∈ ks := ⟨fun h => (List.mem_cons.1 h).resolve_left (fun h => e h.symm), List.mem_cons_of_mem _⟩
      simp only [this]
theorem same0 (ks : List Nat) : sameAll (ren0 ks) (idk ks) := by
  intro k j h
  obtain ⟨rfl, h2⟩ := idk_eq h
  rw [ren0_look, if_pos h2]
section
variable {f : Nat → Option Nat}
mutual
theorem rnAV_id (hf : ∀ k j, f k = some j → j = k) : ∀ (a b : AV), rnAV f a = some b → b = a
  | .i _, b, h => by simp only [rnAV, Option.some.injEq] at h; exact h.symm
  | .w8 _, b, h => by simp only [rnAV, Option.some.injEq] at h; exact h.symm
  | .w16 _, b, h => by simp only [rnAV, Option.some.injEq] at h; exact h.symm
  | .w32 _, b, h => by simp only [rnAV, Option.some.injEq] at h; exact h.symm
  | .w64 _, b, h => by simp only [rnAV, Option.some.injEq] at h; exact h.symm
  | .b _, b, h => by simp only [rnAV, Option.some.injEq] at h; exact h.symm
  | .kb _, b, h => by simp only [rnAV, Option.some.injEq] at h; exact h.symm
  | .s _, b, h => by simp only [rnAV, Option.some.injEq] at h; exact h.symm
  | .nl, b, h => by simp only [rnAV, Option.some.injEq] at h; exact h.symm
  | .pn, b, h => by simp only [rnAV, Option.some.injEq] at h; exact h.symm
  | .z, b, h => by simp only [rnAV, Option.some.injEq] at h; exact h.symm
  | .mn, b, h => by simp only [rnAV, Option.some.injEq] at h; exact h.symm
  | .ag n c, b, h => by
    simp only [rnAV] at h
    split at h
    · rename_i d hd; cases h; rw [rnAC_id hf c d hd]
    · cases h
  | .rb e c, b, h => by
    simp only [rnAV] at h
    split at h
    · cases h; rfl
    · cases h
  | .pr a, b, h => by
    simp only [rnAV] at h
    split at h
    · cases h; rfl
    · cases h
  | .rw k, b, h => by
    simp only [rnAV] at h
    split at h
    · rename_i j hj; cases h; rw [hf k j hj]
    · cases h
  | .p k g o, b, h => by
    simp only [rnAV] at h
    split at h
    · rename_i j hj; cases h; rw [hf k j hj]
    · cases h
  | .sl k g o e a n, b, h => by
    simp only [rnAV] at h
    split at h
    · rename_i j hj; cases h; rw [hf k j hj]
    · cases h
  | .cl k, b, h => by
    simp only [rnAV] at h
    split at h
    · rename_i j hj; cases h; rw [hf k j hj]
    · cases h
  | .mh k, b, h => by
    simp only [rnAV] at h
    split at h
    · rename_i j hj; cases h; rw [hf k j hj]
    · cases h
  | .fv g l, b, h => by
    simp only [rnAV] at h
    split at h
    · rename_i l' hl; cases h; rw [rnAL_id hf l l' hl]
    · cases h
  | .u, b, h => by simp [rnAV] at h
  | .tup _, b, h => by simp [rnAV] at h
  | .pe _ _ _ _ _, b, h => by simp [rnAV] at h
  | .pf _ _ _ _ _ _ _, b, h => by simp [rnAV] at h
theorem rnAC_id (hf : ∀ k j, f k = some j → j = k) : ∀ (a b : AC), rnAC f a = some b → b = a
  | .bt _, b, h => by simp only [rnAC, Option.some.injEq] at h; exact h.symm
  | .wh _, b, h => by simp only [rnAC, Option.some.injEq] at h; exact h.symm
  | .wd _, b, h => by simp only [rnAC, Option.some.injEq] at h; exact h.symm
  | .ww _, b, h => by simp only [rnAC, Option.some.injEq] at h; exact h.symm
  | .is _, b, h => by simp only [rnAC, Option.some.injEq] at h; exact h.symm
  | .ss _, b, h => by simp only [rnAC, Option.some.injEq] at h; exact h.symm
  | .ds _ _, b, h => by simp only [rnAC, Option.some.injEq] at h; exact h.symm
  | .vs l, b, h => by
    simp only [rnAC] at h
    split at h
    · rename_i l' hl; cases h; rw [rnAL_id hf l l' hl]
    · cases h
  | .fn _ _ _, b, h => by simp [rnAC] at h
theorem rnAL_id (hf : ∀ k j, f k = some j → j = k) : ∀ (a b : List AV), rnAL f a = some b → b = a
  | [], b, h => by simp only [rnAL, Option.some.injEq] at h; exact h.symm
  | a :: l, b, h => by
    simp only [rnAL] at h
    split at h
    · rename_i a' l' h1 h2; cases h; rw [rnAV_id hf a a' h1, rnAL_id hf l l' h2]
    · cases h
end
theorem rnSegs_id (hf : ∀ k j, f k = some j → j = k) : ∀ (a b : List Seg), rnSegs f a = some b → b = a
  | [], b, h => by simp only [rnSegs, Option.some.injEq] at h; exact h.symm
  | (n, c) :: l, b, h => by
    simp only [rnSegs] at h
    split at h
    · rename_i a' l' h1 h2; cases h; rw [rnAC_id hf c a' h1, rnSegs_id hf l l' h2]
    · cases h
theorem rnAB_id (hf : ∀ k j, f k = some j → j = k) (a b : AB) (h : rnAB f a = some b) : b = a := by
  cases a with
  | dead => simp [rnAB] at h
  | bk T s =>
    simp only [rnAB] at h
    split at h
    · rename_i s' hs; cases h; rw [rnSegs_id hf s s' hs]
    · cases h
  | row T e c =>
    simp only [rnAB] at h
    split at h
    · rename_i d hd; cases h; rw [rnAC_id hf c d hd]
    · cases h
  | mp T kk vs M => simp only [rnAB, Option.some.injEq] at h; exact h.symm
  | it k a b c =>
    simp only [rnAB] at h
    split at h
    · rename_i j hj; cases h; rw [hf k j hj]
    · cases h
end
section
variable {m m' : Hd} {w : World}
mutual
theorem CR_ns (h : ∀ k v, m k = some v → m' k = some v) : ∀ (a : AV) (cs : List Value), a.ns = true → CR m w a cs → CR m' w a cs
  | .u, cs, hn, hc => by simpa only [CR] using hc
  | .i n, cs, hn, hc => by simpa only [CR] using hc
  | .w8 x, cs, hn, hc => by simpa only [CR] using hc
  | .w16 x, cs, hn, hc => by simpa only [CR] using hc
  | .w32 x, cs, hn, hc => by simpa only [CR] using hc
  | .w64 x, cs, hn, hc => by simpa only [CR] using hc
  | .b x, cs, hn, hc => by simpa only [CR] using hc
  | .kb x, cs, hn, hc => by simpa only [CR] using hc
  | .s x, cs, hn, hc => by simpa only [CR] using hc
  | .ag n c, cs, hn, hc => by simp only [AV.ns] at hn; simp only [CR] at hc ⊢; exact ⟨hc.1, RC_ns h c cs hn hc.2⟩
  | .tup l, cs, hn, hc => by simp [AV.ns] at hn
  | .p k g o, cs, hn, hc => by simp only [CR] at hc ⊢; obtain ⟨g, h1, h2⟩ := hc; exact ⟨g, h _ _ h1, h2⟩
  | .pe k g o e i, cs, hn, hc => by simp only [CR] at hc ⊢; obtain ⟨v, g, h1, h2⟩ := hc; exact ⟨v, g, h _ _ h1, h2⟩
  | .pr a, cs, hn, hc => by simp [AV.ns] at hn
  | .sl k g o e a n, cs, hn, hc => by simp only [CR] at hc ⊢; obtain ⟨v, ad, cap, h1, h2⟩ := hc; exact ⟨v, ad, cap, h _ _ h1, h2⟩
  | .rb e c, cs, hn, hc => by simp [AV.ns] at hn
  | .rw k, cs, hn, hc => by simp only [CR] at hc ⊢; obtain ⟨v, h1, h2⟩ := hc; exact ⟨v, h _ _ h1, h2⟩
  | .nl, cs, hn, hc => by simpa only [CR] using hc
  | .pn, cs, hn, hc => by simpa only [CR] using hc
  | .cl k, cs, hn, hc => by simp only [CR] at hc ⊢; obtain ⟨v, h1, h2⟩ := hc; exact ⟨v, h _ _ h1, h2⟩
  | .z, cs, hn, hc => by simpa only [CR] using hc
  | .mh k, cs, hn, hc => by simp only [CR] at hc ⊢; obtain ⟨v, h1, h2⟩ := hc; exact ⟨v, h _ _ h1, h2⟩
  | .mn, cs, hn, hc => by simpa only [CR] using hc
  | .pf k g o e i j c, cs, hn, hc => by simp only [CR] at hc ⊢; obtain ⟨v, g, h1, h2⟩ := hc; exact ⟨v, g, h _ _ h1, h2⟩
  | .fv f l, cs, hn, hc => by simp only [AV.ns] at hn; simp only [CR] at hc ⊢; obtain ⟨vs, h1, h2⟩ := hc; exact ⟨vs, h1, LR_ns h l vs hn h2⟩
theorem RC_ns (h : ∀ k v, m k = some v → m' k = some v) : ∀ (c : AC) (cs : List Value), c.ns = true → RC m w c cs → RC m' w c cs
  | .bt xs, cs, hn, hc => by simpa only [RC] using hc
  | .wh xs, cs, hn, hc => by simpa only [RC] using hc
  | .wd xs, cs, hn, hc => by simpa only [RC] using hc
  | .ww xs, cs, hn, hc => by simpa only [RC] using hc
  | .is xs, cs, hn, hc => by simpa only [RC] using hc
  | .ss xs, cs, hn, hc => by simpa only [RC] using hc
  | .vs l, cs, hn, hc => by simp only [AC.ns] at hn; simp only [RC] at hc ⊢; exact LR_ns h l cs hn hc
  | .fn e n f, cs, hn, hc => by simp [AC.ns] at hn
  | .ds sh xs, cs, hn, hc => by
    simp only [AC.ns] at hn
    simp only [RC] at hc ⊢
    obtain ⟨css, h1, h2, h3⟩ := hc
    exact ⟨css, h1, h2, fun j x y hx hy => ⟨(h3 j x y hx hy).1, DR_move (sh := false) (fun h => by cases h) sh y x (.inr hn) (h3 j x y hx hy).2⟩⟩
theorem LR_ns (h : ∀ k v, m k = some v → m' k = some v) : ∀ (l : List AV) (cs : List Value), AL.ns l = true → LR m w l cs → LR m' w l cs
  | [], cs, hn, hc => by simpa only [LR] using hc
  | a :: l, cs, hn, hc => by
    simp only [AL.ns] at hn
    split at hn
    · rename_i ha
      simp only [LR] at hc ⊢
      obtain ⟨c1, c2, h1, h2, h3⟩ := hc
      exact ⟨c1, c2, h1, CR_ns h a c1 ha h2, LR_ns h l c2 hn h3⟩
    · cases hn
end
theorem RV_ns1 (h : ∀ k v, m k = some v → m' k = some v) (a : AV) (v : Value) (hn : a.ns = true) (hv : RV m w a v) : RV m' w a v := by
  cases a with
  | ag n c =>
    simp only [AV.ns] at hn
    simp only [RV] at hv ⊢
    obtain ⟨cs, h1, h2, h3⟩ := hv
    exact ⟨cs, h1, h2, RC_ns h c cs hn h3⟩
  | tup l => simp [AV.ns] at hn
  | u => simp [RV]
  | _ => simp only [RV] at hv ⊢; exact CR_ns h _ _ hn hv
theorem RVs_ns (h : ∀ k v, m k = some v → m' k = some v) : ∀ (l : List AV) (vs : List Value), AL.ns l = true → RVs m w l vs → RVs m' w l vs
  | [], vs, hn, hv => by simpa only [RVs] using hv
  | a :: l, vs, hn, hv => by
    simp only [AL.ns] at hn
    split at hn
    · rename_i ha
      simp only [RVs] at hv ⊢
      obtain ⟨v, r, h1, h2, h3⟩ := hv
      exact ⟨v, r, h1, RV_ns1 h a v ha h2, RVs_ns h l r hn h3⟩
    · cases hn
theorem RV_nsv (h : ∀ k v, m k = some v → m' k = some v) (a : AV) (v : Value) (hn : a.nsv = true) (hv : RV m w a v) : RV m' w a v := by
  cases a with
  | tup l =>
    simp only [AV.nsv] at hn
    simp only [RV] at hv ⊢
    obtain ⟨vs, h1, h2⟩ := hv
    exact ⟨vs, h1, RVs_ns h l vs hn h2⟩
  | _ => exact RV_ns1 h _ _ hn hv
theorem SegsR_ns (h : ∀ k v, m k = some v → m' k = some v) : ∀ (l : List Seg) (cs : List Value), segsNs l = true → SegsR m w l cs → SegsR m' w l cs
  | [], cs, hn, hc => by simpa only [SegsR] using hc
  | (n, c) :: l, cs, hn, hc => by
    simp only [segsNs] at hn
    split at hn
    · rename_i ha
      simp only [SegsR] at hc ⊢
      obtain ⟨c1, c2, h1, h2, h3, h4⟩ := hc
      exact ⟨c1, c2, h1, h2, RC_ns h c c1 ha h3, SegsR_ns h l c2 hn h4⟩
    · cases hn
theorem ER_ns {kk : KK} {vs : Sh} (hn : vs.plain = true) : ∀ (l : List (Nat × D × D)) (es : List MapEntry), ER m w kk vs l es → ER m' w kk vs l es
  | [], es, he => he
  | (b, k, d) :: l, es, he => by
    obtain ⟨e, r, h1, h2, h3, ⟨cs, g1, g2⟩, h5⟩ := he
    exact ⟨e, r, h1, h2, h3, ⟨cs, DR_move (sh := false) (fun h => by cases h) vs d cs (.inr hn) g1, g2⟩, ER_ns hn l r h5⟩
theorem ABR_ns (h : ∀ k v, m k = some v → m' k = some v) {k : Nat} {ab : AB} (hn : ab.ns = true) (ha : ABR m w k ab) : ABR m' w k ab := by
  cases ab with
  | dead => trivial
  | bk T segs =>
    obtain ⟨g, cs, fz, h1, h2, h3, h4⟩ := ha
    exact ⟨g, cs, fz, h _ _ h1, h2, h3, SegsR_ns h segs _ hn h4⟩
  | row T e c =>
    obtain ⟨v, n, cs, h1, h2, h3⟩ := ha
    exact ⟨v, n, cs, h _ _ h1, h2, RC_ns h c cs hn h3⟩
  | mp T kk vs M =>
    obtain ⟨r, es, h1, h2, h3, h4⟩ := ha
    exact ⟨r, es, h _ _ h1, h2, ER_ns hn _ _ h3, h4⟩
  | it k0 a b c =>
    obtain ⟨r, rm, h1, h2, h3⟩ := ha
    exact ⟨r, rm, h _ _ h1, h _ _ h2, h3⟩
end
theorem abNs_get : ∀ {l : List AB}, abNs l = true → ∀ (j : Nat) a, l[j]? = some a → a.ns = true
  | [], h, j, a, hj => by simp at hj
  | b :: l, h, j, a, hj => by
    simp only [abNs] at h
    split at h
    · rename_i hb
      cases j with
      | zero => simp only [List.getElem?_cons_zero, Option.some.injEq] at hj; subst hj; exact hb
      | succ j => exact abNs_get h j a (by simpa using hj)
    · cases h
theorem memNs_look : ∀ {l : Mem}, memNs l = true → ∀ k a, mlook l k = some a → a.ns = true
  | [], h, k, a, hj => by simp [mlook] at hj
  | (t, b) :: l, h, k, a, hj => by
    simp only [memNs] at h
    split at h
    · rename_i hb
      rw [mlook_cons] at hj
      split at hj
      · cases hj; exact hb
      · exact memNs_look h k a hj
    · cases h
end Go.Vc
set_option linter.unusedVariables false
set_option linter.unusedSimpArgs false
namespace Go.Vc
open Go Go.RowKit

/-- an argument: as it is; a row of the caller's own, told by what lies in it -/
def ArgR (m : Hd) (w : World) (me : Mem) (us : List Nat) (a : AV) (v : Value) : Prop :=
  RV m w a v ∨ ∃ e c, a = .rb e c ∧ AC.nk false c = true ∧ ∃ ad n cap cs, v = .slice ad n cap ∧ RC m w c cs ∧ cs.length = n * e ∧ n ≤ cap ∧
    (0 < n → ∃ b, ad = some b ∧ b.block < w.heap.size ∧ (∀ j x, cs[j]? = some x → w.cell? (b.add j) = some x) ∧ ∃ k v0 ab, k ∈ us ∧ m k = some v0 ∧ blk v0 = some b.block ∧ mlook me k = some ab ∧ ab.live = true)
def ArgsR (m : Hd) (w : World) (me : Mem) (us : List Nat) : List AV → List Value → Prop
  | [], vs => vs = []
  | a :: l, vs => ∃ v r, vs = v :: r ∧ ArgR m w me us a v ∧ ArgsR m w me us l r
section
variable {P : Program} {m : Hd} {w : World} {me : Mem} {kb : Nat}
theorem ArgsR_nil : ∀ {l : List AV} {vs : List Value}, ArgsR m w me [] l vs → RVs m w l vs
  | [], vs, h => by simp only [RVs]; exact h
  | a :: l, vs, h => by
    obtain ⟨v, r, h1, h2, h3⟩ := h
    simp only [RVs]
    refine ⟨v, r, h1, ?_, ArgsR_nil h3⟩
    rcases h2 with h2 | ⟨e, c, rfl, g2, ad, n, cap, cs, rfl, g4, g5, g6, g7⟩
    · exact h2
    · simp only [RV, CR]
      refine ⟨ad, n, cap, cs, rfl, g4, g5, g6, fun hn => ?_⟩
      obtain ⟨b, _, _, _, k, _, _, hk, _⟩ := g7 hn
      simp at hk
theorem name_blk {a : AV} {j : Nat} (hn : nameV a = some j) {b : Addr} {n cap : Nat} (hv : RV m w a (.slice (some b) n cap)) (h0 : 0 < n) (hc : n ≤ cap) : ∃ v0, m j = some v0 ∧ blk v0 = some b.block := by
  cases a <;> simp only [nameV, Option.some.injEq, reduceCtorEq] at hn
  · subst hn
    simp only [RV, CR] at hv
    obtain ⟨v0, ad, cap', h1, h2, h3, h4, _⟩ := hv
    simp only [List.cons.injEq, and_true, Value.slice.injEq] at h2
    obtain ⟨rfl, rfl, rfl⟩ := h2
    obtain ⟨g, g1, g2⟩ := h4 (by omega)
    refine ⟨v0, h1, ?_⟩
    rw [g1]
    have := Option.some.inj g2
    rw [this]
  · subst hn
    simp only [RV, CR] at hv
    obtain ⟨v0, h1, h2, _⟩ := hv
    simp only [List.cons.injEq, and_true] at h2
    subst h2
    exact ⟨_, h1, blk_slice (by omega)⟩
theorem convs_sound (hb : Base m w me kb) : ∀ (ts : List PT) (args : List AV) (us : List Nat) (vals : List Value) (K : List AV → List Nat → Look) (e : Eff), RVs m w args vals → (convs real ts args us K).run me = some e → e.c →
    ∃ l us' e0, (K l us').run me = some e0 ∧ e0.c ∧ e0.v = e.v ∧ e0.puts = e.puts ∧ (∀ k, k ∈ us → k ∈ us') ∧ ArgsR m w me us' l vals
  | [], [], us, vals, K, e, hv, h, hc => ⟨[], us, e, h, hc, rfl, rfl, fun _ h => h, by simp only [RVs] at hv; exact hv⟩
  | .keep :: ts, a :: r, us, vals, K, e, hv, h, hc => by
    simp only [convs] at h
    simp only [RVs] at hv
    obtain ⟨v, q, rfl, h1, h2⟩ := hv
    obtain ⟨l, us', e0, g1, g2, g3, g4, g5, g6⟩ := convs_sound hb ts r us q _ e h2 h hc
    exact ⟨a :: l, us', e0, g1, g2, g3, g4, g5, v, q, rfl, .inl h1, g6⟩
  | .row k :: ts, a :: r, us, vals, K, e, hv, h, hc => by
    simp only [RVs] at hv
    obtain ⟨v, q, rfl, h1, h2⟩ := hv
    have empty : ∀ ad, v = .slice ad 0 0 → RV m w (.rb k.esz k.nil) v := by
      rintro ad rfl
      simp only [RV, CR]
      exact ⟨ad, 0, 0, [], rfl, by cases k <;> simp [EK.nil, RC], by simp, by omega, fun h => by omega⟩
    simp only [convs] at h
    split at h
    · rename_i j hj
      obtain ⟨ab, hab, h⟩ := Look.run_look h
      split at h
      · rename_i hlv
        obtain ⟨c, cs, e1, k1, k2, k3, k4, k5, k6, k6b, k7⟩ := content_sound hb h1 h hc
        split at k1
        · rename_i hf hnk
          obtain ⟨l, us', e0, g1, g2, g3, g4, g5, g6⟩ := convs_sound hb ts r (j :: us) q _ e1 h2 k1 k2
          refine ⟨_ :: l, us', e0, g1, g2, g3.trans k3, g4.trans k4, fun t ht => g5 t (List.mem_cons_of_mem _ ht), v, q, rfl, .inr ?_, g6⟩
          obtain ⟨ad, cap, rfl, q1, q2, q3⟩ := k7
          refine ⟨_, c, rfl, hnk, ad, _, cap, cs, rfl, k5, q1, q2, fun hn => ?_⟩
          obtain ⟨b, rfl, hb2⟩ := q3 hn
          obtain ⟨v0, p1, p2⟩ := name_blk hj h1 hn q2
          refine ⟨b, rfl, ?_, hb2, j, v0, ab, g5 j List.mem_cons_self, p1, p2, hab, hlv⟩
          exact hb.bd _ _ _ p1 p2
        · exact (Look.run_no k1).elim
      · exact (Look.run_no h).elim
    · split at h
      · obtain ⟨l, us', e0, g1, g2, g3, g4, g5, g6⟩ := convs_sound hb ts r us q _ e h2 h hc
        refine ⟨_ :: l, us', e0, g1, g2, g3, g4, g5, v, q, rfl, .inl ?_, g6⟩
        simp only [RV, CR, List.cons.injEq, and_true] at h1
        exact empty none h1
      · obtain ⟨l, us', e0, g1, g2, g3, g4, g5, g6⟩ := convs_sound hb ts r us q _ e h2 h hc
        refine ⟨_ :: l, us', e0, g1, g2, g3, g4, g5, v, q, rfl, .inl ?_, g6⟩
        simp only [RV, CR, List.cons.injEq, and_true] at h1
        obtain ⟨ad, h1⟩ := h1
        exact empty ad h1
      · obtain ⟨l, us', e0, g1, g2, g3, g4, g5, g6⟩ := convs_sound hb ts r us q _ e h2 h hc
        exact ⟨_ :: l, us', e0, g1, g2, g3, g4, g5, v, q, rfl, .inl h1, g6⟩
  | [], _ :: _, us, vals, K, e, hv, h, hc => by simp only [convs] at h; exact (Look.run_no h).elim
  | .keep :: _, [], us, vals, K, e, hv, h, hc => by simp only [convs] at h; exact (Look.run_no h).elim
  | .row _ :: _, [], us, vals, K, e, hv, h, hc => by simp only [convs] at h; exact (Look.run_no h).elim

theorem rb_ok {f : Nat} {ts : List PT} {s : Spec} (hs : SpecOK P f s) : SpecOK P f (rbSpec real ts s) := by
  intro m w me kb args vals e hgi hb hv he hc
  unfold rbSpec at he
  obtain ⟨args1, us, e1, he1, hc1, ev, ep, _, ha⟩ := convs_sound hb ts args [] vals _ e hv he hc
  have back : (Calls P f vals.toArray w fun en w' => ∃ v, en = .returned v ∧ ∃ m', OkE m w me kb e1.v e1.puts v m' w') → Calls P f vals.toArray w fun en w' => ∃ v, en = .returned v ∧ ∃ m', OkE m w me kb e.v e.puts v m' w' := by
    rw [ev, ep]; exact id
  refine back ?_
  clear back ev ep hc he hv e
  have he := he1
  clear he1
  split at he
  · exact hs m w me kb args1 vals e1 hgi hb (ArgsR_nil ha) he hc1
  · obtain ⟨ks, abs, hnd, hal, habs, he⟩ := gather_sound 40 (keysL args1 []) 0 [] (keysL_nodup args1 [] List.nodup_nil).1 rfl (fun j ab hj => by simp at hj) (Nat.zero_le _) he
    split at he
    · rename_i l mm hl hmm hdj hns
      split at he
      · rename_i e2 hrun
        split at he
        · rename_i hnv hnp
          simp only [Look.run, Option.some.injEq] at he
          subst he
          have hidf : ∀ k j, idk ks k = some j → j = k := fun k j h => (idk_eq h).1
          have hl1 := rnAL_id hidf _ _ hl
          subst hl1
          obtain ⟨hmml, hmmg⟩ := rnABs_get hmm
          -- the callee's names
          let m1 : Hd := ⟨(hren m (ren0 ks)).mu, fun _ => True, m.pub⟩
          have hm1 : ∀ k, m1 k = if k ∈ ks then m k else none := by
            intro k
            show (hren m (ren0 ks)) k = _
            rw [hren_apply, ren0_look]
            by_cases h : k ∈ ks
            · rw [if_pos h, if_pos h]
            · rw [if_neg h, if_neg h]
          have hent : ∀ k, k ∈ ks → ∃ (j : Nat) (ab : AB) (v : Value), ks[j]? = some k ∧ abs[j]? = some ab ∧ mlook me k = some ab ∧ ab.live = true ∧ ab.ns = true ∧ rnAB (idk ks) ab = some ab ∧ m k = some v := by
            intro k hk
            obtain ⟨j, hj⟩ := List.getElem?_of_mem hk
            have hjl := (List.getElem?_eq_some_iff.1 hj).1
            obtain ⟨ab, hab⟩ : ∃ ab, abs[j]? = some ab := ⟨_, List.getElem?_eq_getElem (by omega)⟩
            obtain ⟨k', h1, h2⟩ := habs j ab hab
            rw [hj] at h1; cases h1
            obtain ⟨y, hy⟩ : ∃ y, mm[j]? = some y := ⟨_, List.getElem?_eq_getElem (by omega)⟩
            obtain ⟨x, hx1, hx2⟩ := hmmg j y hy
            rw [hab] at hx1; cases hx1
            have hyx := rnAB_id hidf _ _ hx2
            subst hyx
            obtain ⟨_, h5, _⟩ := rnb_le (same0 ks) _ _ hx2
            obtain ⟨v, h6⟩ := ABR_live (hb.mem.at_ k _ h2) h5
            exact ⟨j, _, v, hj, hab, h2, h5, abNs_get hns j _ hab, hx2, h6⟩
          have hlkS : ∀ k, mlook (zipKs ks abs) k = if k ∈ ks then mlook me k else none := by
            intro k
            rw [zipKs_look ks abs 0 k hal]
            by_cases h : k ∈ ks
            · obtain ⟨j, ab, v, h1, h2, h3, _⟩ := hent k h
              rw [if_pos h, idxOf_of ks 0 k j hnd h1, h3]
              simpa using h2
            · rw [if_neg h]
              cases hq : idxOf k 0 ks with
              | none => rfl
              | some j => exact absurd (List.mem_of_getElem? (idxOf_get ks 0 k j hq).2) h
          have hsub : ∀ k v, m1 k = some v → m k = some v ∧ k ∈ ks := by
            intro k v h
            rw [hm1] at h
            split at h
            · exact ⟨h, by assumption⟩
            · cases h
          have hpr : Pres (hren m (ren0 ks)) w m1 w := ⟨fun _ _ h => h, fun b hb => ⟨rfl, hb.1, trivial, hb.2.2⟩⟩
          have hdis := disj_spec hdj
          -- arguments
          have hvS : ∀ (l0 : List AV) (vs : List Value), ArgsR m w me us l0 vs → rnAL (idk ks) l0 = some l0 → RVs m1 w l0 vs := by
            intro l0
            induction l0 with
            | nil => intro vs h _; simp only [RVs]; exact h
            | cons a r ih =>
              intro vs h hr
              obtain ⟨v, q, rfl, h2, h3⟩ := h
              simp only [rnAL] at hr
              split at hr
              · rename_i a' r' ha' hr'
                have ea := rnAV_id hidf _ _ ha'
                have er := rnAL_id hidf _ _ hr'
                subst ea er
                simp only [RVs]
                refine ⟨v, q, rfl, ?_, ih q h3 hr'⟩
                rcases h2 with h2 | ⟨e0, c, rfl, g2, ad, n, cap, cs, rfl, g4, g5, g6, g7⟩
                · obtain ⟨p1, p2⟩ := rn_le (same0 ks) _ _ ha'
                  exact RV_mono hpr _ _ (RV_le _ _ _ p1 p2 h2)
                · simp only [RV, CR]
                  refine ⟨ad, n, cap, cs, rfl, RC_move (sh := false) (fun h => by cases h) c cs g2 g4, g5, g6, fun hn => ?_⟩
                  obtain ⟨b, rfl, q2, q3, k, v0, ab, q4, q5, q6, q7, q8⟩ := g7 hn
                  refine ⟨b, rfl, ⟨q2, trivial, .inr fun k' v' hk' hv' => ?_⟩, q3⟩
                  obtain ⟨s1, s2⟩ := hsub k' v' hk'
                  obtain ⟨_, ab', _, _, _, s3, s4, _⟩ := hent k' s2
                  exact hb.mem.apart k k' ab ab' v0 v' _ q7 s3 q8 s4 (fun e => hdis k q4 (e ▸ s2)) q5 s1 q6 hv'
              · cases hr
          have hRV := hvS _ _ ha hl
          have hbS : Base m1 w (zipKs ks abs) kb := by
            refine ⟨⟨fun k ab hk => ?_, fun k k' ab ab' v v' b hk hk' hlv hlv' hne hv hv' hbk => ?_, fun b hp => hb.mem.pubs b hp, fun k ab v b hk hlv hv hbk => ?_, fun _ _ _ _ _ _ _ _ => trivial, fun _ _ => trivial⟩, fun k v b hk hbk => hb.bd k v b (hsub k v hk).1 hbk, fun k h1 h2 => ?_⟩
            · rw [hlkS] at hk
              split at hk
              · rename_i hm
                obtain ⟨_, ab', _, _, _, s3, s4, _, s6, _⟩ := hent k hm
                rw [s3] at hk; cases hk
                refine ABR_keep (ABR_le (r := ren0 ks) (k := k) (o := k) (by rw [ren0_look, if_pos hm]) (rnb_le (same0 ks) _ _ s6).1 (hb.mem.at_ k _ s3)) (fun _ h => h) (fun _ _ _ _ => rfl) hpr
              · cases hk
            · rw [hlkS] at hk hk'
              split at hk
              · split at hk'
                · exact hb.mem.apart k k' ab ab' v v' b hk hk' hlv hlv' hne (hsub _ _ hv).1 (hsub _ _ hv').1 hbk
                · cases hk'
              · cases hk
            · rw [hlkS] at hk
              split at hk
              · exact hb.mem.live k ab v b hk hlv (hsub _ _ hv).1 hbk
              · cases hk
            · rw [hm1, hb.fresh k h1 h2]; simp
          have hgi1 : GInv P m1 w := by
            obtain ⟨w0, hs0, hg0⟩ := hgi
            refine ⟨w0, hs0, fun g o h1 h2 => ?_⟩
            obtain ⟨⟨a1, a2, a3⟩, a4⟩ := hg0 g o h1 h2
            exact ⟨⟨a1, trivial, a3.imp id fun h k v hk => h k v (hsub k v hk).1⟩, a4⟩
          refine (hs m1 w (zipKs ks abs) kb _ vals e2 hgi1 hbS hRV hrun hc1).mono ?_
          rintro en w' ⟨v, rfl, m', ⟨tr, rv, mem, keys, bd⟩⟩
          refine ⟨v, rfl, ?_⟩
          let m2 : Hd := ⟨fun k => match m k with
            | some v => some v
            | none => m' k, m.ok, m'.pub⟩
          have hm2o : ∀ k v, m k = some v → m2 k = some v := by
            intro k v h
            show (match m k with
              | some v => some v
              | none => m' k) = _
            rw [h]
          have hm2n : ∀ k, m k = none → m2 k = m' k := by
            intro k h
            show (match m k with
              | some v => some v
              | none => m' k) = _
            rw [h]
          have hext : ∀ k v, m' k = some v → m2 k = some v := by
            intro k v h
            cases hq : m k with
            | none => rw [hm2n k hq]; exact h
            | some v0 =>
              rw [hm2o k v0 hq]
              have h1 : m1 k ≠ none := by
                rcases keys k (by rw [h]; simp) with h1 | h1
                · exact h1
                · rw [hb.fresh k h1.1 h1.2] at hq; cases hq
              cases hq1 : m1 k with
              | none => exact absurd hq1 h1
              | some v1 =>
                have e1 := (hsub k v1 hq1).1
                have e2 := tr.mu k v1 hq1
                rw [e2] at h; cases h
                rw [hq] at e1; exact e1
          have hm2c : ∀ k v, m2 k = some v → m k = some v ∨ (m k = none ∧ m' k = some v) := by
            intro k v h
            cases hq : m k with
            | none => exact .inr ⟨rfl, by rw [hm2n k hq] at h; exact h⟩
            | some v0 => rw [hm2o k v0 hq] at h; exact .inl h
          have tr2 : Tr m w m2 w' := by
            refine ⟨hm2o, rfl, fun b h => tr.pub b h, fun b h => ?_, tr.size, fun b h hn => ?_, fun k v b hk hv => ?_, tr.os, tr.tape, tr.output⟩
            · rcases tr.pubn b h with h1 | ⟨k, v, h1, h2⟩ | h1
              · exact .inl h1
              · exact .inr (.inl ⟨k, v, (hsub k v h1).1, h2⟩)
              · exact .inr (.inr h1)
            · refine tr.old b h ?_
              rcases hn with hn | hn
              · exact .inl hn
              · exact .inr fun k v hk hv => hn k v (hsub k v hk).1 hv
            · rcases hm2c k v hk with h1 | ⟨_, h1⟩
              · exact .inl ⟨k, v, h1, hv⟩
              · rcases tr.own k v b h1 hv with ⟨k0, v0, h2, h3⟩ | h2
                · exact .inl ⟨k0, v0, (hsub k0 v0 h2).1, h3⟩
                · exact .inr h2
          -- each entry: the callee's, or as it was
          have hcase : ∀ t ab, mlook (mputs e2.puts me) t = some ab → (mlook (mputs e2.puts (zipKs ks abs)) t = some ab ∧ ab.ns = true) ∨ (t ∉ ks ∧ mlook me t = some ab) := by
            intro t ab h
            rw [mlook_mputs] at h ⊢
            cases hq : mlook e2.puts t with
            | some a => rw [hq] at h; cases h; exact .inl ⟨rfl, memNs_look hnp t _ hq⟩
            | none =>
              rw [hq] at h
              by_cases hm : t ∈ ks
              · refine .inl ⟨?_, ?_⟩
                · simp only; rw [hlkS, if_pos hm]; exact h
                · obtain ⟨_, ab', _, _, _, s3, _, s5, _⟩ := hent t hm
                  have h' : mlook me t = some ab := h
                  rw [s3] at h'; cases h'; exact s5
              · exact .inr ⟨hm, h⟩
          have hcov : ∀ t ab, mlook (mputs e2.puts (zipKs ks abs)) t = some ab → ab.live = true → ∃ v, m' t = some v ∧ m2 t = some v := by
            intro t ab h hl
            obtain ⟨v, hv⟩ := ABR_live (mem.at_ t ab h) hl
            exact ⟨v, hv, hext t v hv⟩
          have hold : ∀ t ab, t ∉ ks → mlook me t = some ab → ab.live = true → ∃ v, m t = some v ∧ m2 t = some v ∧ ∀ b, blk v = some b → b < w.heap.size ∧ ∀ k0 v0, m1 k0 = some v0 → blk v0 ≠ some b := by
            intro t ab hm h hl
            obtain ⟨v, hv⟩ := ABR_live (hb.mem.at_ t ab h) hl
            refine ⟨v, hv, hm2o t v hv, fun b hbk => ⟨hb.bd t v b hv hbk, fun k0 v0 h0 hb0 => ?_⟩⟩
            obtain ⟨s1, s2⟩ := hsub k0 v0 h0
            obtain ⟨_, ab0, _, _, _, s3, s4, _⟩ := hent k0 s2
            exact hb.mem.apart t k0 ab ab0 v v0 b h s3 hl s4 (fun e => hm (e ▸ s2)) hv s1 hbk hb0
          refine ⟨m2, tr2, RV_nsv hext _ _ hnv rv, ?_, fun k hk => ?_, fun k v b hk hv => ?_⟩
          · refine ⟨fun t ab hab => ?_, fun t t' ab ab' v v' b hab hab' hl hl' hne hv hv' hbk => ?_, mem.pubs, fun t ab v b hab hl hv hbk hp => ?_, fun t ab v b hab hl hv hbk => ?_, fun b h => hb.mem.okn b (Nat.le_trans tr.size h)⟩
            · rcases hcase t ab hab with ⟨h1, h2⟩ | ⟨h1, h2⟩
              · exact ABR_ns hext h2 (mem.at_ t ab h1)
              · cases hlv : ab.live with
                | false => cases ab with
                  | dead => trivial
                  | _ => simp [AB.live] at hlv
                | true =>
                  obtain ⟨v, g1, g2, g3⟩ := hold t ab h1 h2 hlv
                  refine ABR_keep (hb.mem.at_ t ab h2) (fun v hv => hm2o t v hv) (fun v1 b hv hbk => ?_) tr2.pres
                  rw [g1] at hv; cases hv
                  obtain ⟨p1, p2⟩ := g3 b hbk
                  exact tr.old b p1 (.inr p2)
            · intro hbq
              rcases hcase t ab hab with ⟨h1, h2⟩ | ⟨h1, h2⟩ <;> rcases hcase t' ab' hab' with ⟨h1', h2'⟩ | ⟨h1', h2'⟩
              · obtain ⟨u, g1, g2⟩ := hcov t ab h1 hl
                obtain ⟨u', g1', g2'⟩ := hcov t' ab' h1' hl'
                rw [g2] at hv; cases hv
                rw [g2'] at hv'; cases hv'
                exact mem.apart t t' ab ab' v v' b h1 h1' hl hl' hne g1 g1' hbk hbq
              · obtain ⟨u, g1, g2⟩ := hcov t ab h1 hl
                obtain ⟨u', g1', g2', g3'⟩ := hold t' ab' h1' h2' hl'
                rw [g2] at hv; cases hv
                rw [g2'] at hv'; cases hv'
                obtain ⟨p1, p2⟩ := g3' b hbq
                rcases tr.own t v b g1 hbk with ⟨k0, v0, q1, q2⟩ | q1
                · exact p2 k0 v0 q1 q2
                · omega
              · obtain ⟨u, g1, g2, g3⟩ := hold t ab h1 h2 hl
                obtain ⟨u', g1', g2'⟩ := hcov t' ab' h1' hl'
                rw [g2] at hv; cases hv
                rw [g2'] at hv'; cases hv'
                obtain ⟨p1, p2⟩ := g3 b hbk
                rcases tr.own t' v' b g1' hbq with ⟨k0, v0, q1, q2⟩ | q1
                · exact p2 k0 v0 q1 q2
                · omega
              · obtain ⟨u, g1, g2, g3⟩ := hold t ab h1 h2 hl
                obtain ⟨u', g1', g2', g3'⟩ := hold t' ab' h1' h2' hl'
                rw [g2] at hv; cases hv
                rw [g2'] at hv'; cases hv'
                exact hb.mem.apart t t' ab ab' v v' b h2 h2' hl hl' hne g1 g1' hbk hbq
            · rcases hcase t ab hab with ⟨h1, h2⟩ | ⟨h1, h2⟩
              · obtain ⟨u, g1, g2⟩ := hcov t ab h1 hl
                rw [g2] at hv; cases hv
                exact mem.live t ab v b h1 hl g1 hbk hp
              · obtain ⟨u, g1, g2, g3⟩ := hold t ab h1 h2 hl
                rw [g2] at hv; cases hv
                obtain ⟨p1, p2⟩ := g3 b hbk
                rcases tr.pubn b hp with q | ⟨k0, v0, q1, q2⟩ | q
                · exact hb.mem.live t ab v b h2 hl g1 hbk q
                · exact p2 k0 v0 q1 q2
                · omega
            · rcases hcase t ab hab with ⟨h1, h2⟩ | ⟨h1, h2⟩
              · obtain ⟨u, g1, g2⟩ := hcov t ab h1 hl
                rw [g2] at hv; cases hv
                rcases tr.own t v b g1 hbk with ⟨k0, v0, q1, q2⟩ | q1
                · obtain ⟨s1, s2⟩ := hsub k0 v0 q1
                  obtain ⟨_, ab0, _, _, _, s3, s4, _⟩ := hent k0 s2
                  exact hb.mem.okl k0 ab0 v0 b s3 s4 s1 q2
                · exact hb.mem.okn b q1
              · obtain ⟨u, g1, g2, g3⟩ := hold t ab h1 h2 hl
                rw [g2] at hv; cases hv
                exact hb.mem.okl t ab v b h2 hl g1 hbk
          · cases hq : m k with
            | some v0 => exact .inl (by simp)
            | none =>
              rw [hm2n k hq] at hk
              rcases keys k hk with h1 | h1
              · exfalso
                apply h1
                rw [hm1, hq]; simp
              · exact .inr h1
          · rcases hm2c k v hk with h1 | ⟨_, h1⟩
            · exact Nat.lt_of_lt_of_le (hb.bd k v b h1 hv) tr.size
            · exact bd k v b h1 hv
        · exact (Look.run_no he).elim
      · exact (Look.run_no he).elim
    · exact (Look.run_no he).elim
end
end Go.Vc
set_option linter.unusedVariables false
set_option linter.unusedSimpArgs false
set_option maxRecDepth 100000
set_option maxHeartbeats 1000000
namespace Go.Proofs.Ytmldccfchnlpgaa
open Go Go.Vc
/-! ## Small words about numbers and guards -/
theorem lt_g {j n : Nat} (h : ¬ real.pB (real.lti (real.int j) (real.int n)) false) : j < n := by
  simp only [real, Bool.not_eq_false, decide_eq_true_eq] at h
  omega
theorem ge_g {j n : Nat} (h : ¬ real.pB (real.lti (real.int j) (real.int n)) true) : n ≤ j := by
  simp only [real, Bool.not_eq_true, decide_eq_false_iff_not] at h
  omega
theorem le_g {a n : Nat} (h : ¬ real.pB (real.lei (real.int a) (real.int n)) false) : a ≤ n := by
  simp only [real, Bool.not_eq_false, decide_eq_true_eq] at h
  omega
theorem gt_g {a n : Nat} (h : ¬ real.pB (real.lei (real.int a) (real.int n)) true) : n < a := by
  simp only [real, Bool.not_eq_true, decide_eq_false_iff_not] at h
  omega
theorem addi1 {i : Nat} (h : i ≤ 1000000000000000) : real.addi (real.int i) (real.int 1) = real.int (i + 1) := by
  show IntKind.i64.wrap ((i : Int) + 1) = ((i + 1 : Nat) : Int)
  rw [wrap_sm (by omega) (by omega)]; omega
theorem addiN {i k : Nat} (h : i ≤ 1000000000000000) (hk : k ≤ 1000000000000000) : real.addi (real.int i) (real.int k) = real.int (i + k) := by
  show IntKind.i64.wrap ((i : Int) + (k : Int)) = ((i + k : Nat) : Int)
  rw [wrap_sm (by omega) (by omega)]; omega
theorem sub_stepN {j n : Nat} (h : j < n) : real.subn n (j + 1) < real.subn n j := by show n - (j + 1) < n - j; omega
theorem subiN {i k : Nat} (h : k ≤ i) (hi : i ≤ 1000000000000000) : real.subi (real.int i) (real.int k) = real.int (i - k) := by
  show IntKind.i64.wrap ((i : Int) - (k : Int)) = ((i - k : Nat) : Int)
  rw [wrap_sm (by omega) (by omega)]; omega
section
variable {F : Fs} (hF : real = F)
include hF
theorem trueF {b : Bool} (h : ¬ F.pB b false) : b = true := by
  subst hF; cases b with
  | true => rfl
  | false => exact absurd rfl h
theorem falseF {b : Bool} (h : ¬ F.pB b true) : b = false := by
  subst hF; cases b with
  | false => rfl
  | true => exact absurd rfl h
end
end Go.Proofs.Ytmldccfchnlpgaa
set_option linter.unusedVariables false
set_option linter.unusedSimpArgs false
set_option maxRecDepth 100000
set_option maxHeartbeats 1000000
namespace Go.Proofs.Ytmldccfchnlpgaa
open Go Go.Vc
theorem mfill_len (k : List UInt8) : (u_fill k).length = 64 := by
  unfold u_fill
  rw [List.length_append, List.length_take, List.length_replicate]
  omega
theorem mpadP_end (k : List UInt8) (c : UInt8) : us.mpadP k c 64 = us.mpad k c := by
  show u_mpadP k c 64 = u_mpad k c
  have hl := mfill_len k
  unfold u_mpadP u_mpad
  rw [List.take_of_length_le (by omega), List.drop_of_length_le (by omega), List.append_nil]
theorem mpadP_step (k : List UInt8) (c : UInt8) (i : Nat) (h : i < 64) : real.setB (us.mpadP k c i) (real.nat (real.int i)) (real.xor8 (real.getB (us.mpadP k c i) (real.nat (real.int i))) c) = us.mpadP k c (i + 1) := by
  have hl := mfill_len k
  have hL : ((u_fill k).take i |>.map (· ^^^ c)).length = i := by rw [List.length_map, List.length_take]; omega
  show (u_mpadP k c i).set i ((u_mpadP k c i).getD i 0 ^^^ c) = u_mpadP k c (i + 1)
  have e : (u_fill k).drop i = (u_fill k)[i]'(by omega) :: (u_fill k).drop (i + 1) := List.drop_eq_getElem_cons (by omega)
  have e1 : (u_mpadP k c i).getD i 0 = (u_fill k)[i]'(by omega) := by
    unfold u_mpadP
    rw [List.getD_eq_getElem?_getD, List.getElem?_append_right (by omega), hL, Nat.sub_self, e]
    rfl
  rw [e1]
  unfold u_mpadP
  rw [e, List.set_append_right _ _ (by omega), hL, Nat.sub_self, List.set_cons_zero, List.take_succ_eq_append_getElem (by omega), List.map_append, List.append_assoc]
  rfl
theorem mfill_eq (k : List UInt8) (c : UInt8) : real.splB (real.repB 64) 0 (real.cutB k 0 (real.minn (real.lenB k) 64)) = us.mpadP k c 0 := by
  show (List.replicate 64 (0 : UInt8)).take 0 ++ (k.drop 0).take (min k.length 64) ++ (List.replicate 64 (0 : UInt8)).drop (0 + ((k.drop 0).take (min k.length 64)).length) = u_mpadP k c 0
  have e : (k.drop 0).take (min k.length 64) = k.take 64 := by
    rw [List.drop_zero]
    by_cases h : k.length ≤ 64
    · rw [Nat.min_eq_left h, List.take_length, List.take_of_length_le h]
    · rw [Nat.min_eq_right (by omega)]
  rw [e, List.take_zero, List.nil_append, List.drop_replicate, List.length_take]
  show _ = ((u_fill k).take 0).map (· ^^^ c) ++ (u_fill k).drop 0
  rw [List.take_zero, List.drop_zero, List.map_nil, List.nil_append]
  unfold u_fill
  congr 2
  omega
attribute [local irreducible] u_fill u_mpad u_mpadP
noncomputable def sp_mac_pad_b (F : Fs) (U : Us) : Specs := []
theorem ok_mac_pad_b : SpecsOK Try.prog (sp_mac_pad_b real us) := sp_nil
noncomputable def an_mac_pad_b (F : Fs) (U : Us) (k : List UInt8) (c : UInt8) : Anns := [(4, ⟨Nat, fun i => F.pLe i 64, fun i => F.subn 64 i, fun i => ⟨[(1, .w8 c), (5, .p 0 0 0), (10, .i (F.int i))], [(5, 0, .bk 31 [(64, .bt (U.mpadP k c i))])]⟩⟩)]
noncomputable def g_mac_pad_b (F : Fs) (U : Us) : GLaw := fun l mm => match l, mm with
  | [.rb 1 (.bt k), .w8 c], [] => some ⟨F.pLe (F.lenB k) 1000000000, [.sl 0 0 0 1 0 64], [], [.bk 31 [(64, .bt (U.mpad k c))]]⟩
  | _, _ => none
noncomputable def s_mac_pad_b (F : Fs) (U : Us) : Vc.Spec := gSpec 0 1 (g_mac_pad_b F U)
noncomputable def x_mac_pad_b (F : Fs) (U : Us) : Cx := ⟨Try.f115.ntmps, tt F, sp_mac_pad_b F U, [], [], [], []⟩
theorem c_mac_pad_b (k : List UInt8) (c : UInt8) (hc : real.pLe (real.lenB k) 1000000000) : vc real (x_mac_pad_b real us) (an_mac_pad_b real us k c) [] (Try.f115.body.getD .skip) ⟨zipSl 0 [.rb 1 (.bt k), .w8 c], zipMe 0 [], 64⟩ (retGOk real (tt real) Try.f115.results.toList [.sl 0 0 0 1 0 64] [] [.bk 31 [(64, .bt (us.mpad k c))]]) := by
  generalize hU : us = U
  generalize hF : real = F
  have hk : k.length ≤ 1000000000 := hc
  cbv
  repeat' first | apply And.intro | refine Classical.or_iff_not_imp_left.2 (fun _ => ?_) | exact trivial
  all_goals try (subst hF hU; simp only [real, us, Nat.le_eq, Int.cast_ofNat_Int, decide_eq_false_iff_not, decide_eq_true_eq, List.length_take, List.length_drop, List.length_append, List.length_replicate, List.length_set, List.length_cons, List.length_nil, List.length_zipWith] at *; (try simp (disch := omega) only [wrap_sm] at *); omega)
  · refine ⟨(0 : Nat), ?_⟩
    cbv; subst hF hU
    exact ⟨Nat.zero_le _, ⟨mfill_eq k c, trivial⟩, trivial⟩
  · intro (i : Nat) hi
    have h1 : i ≤ 64 := by subst hF; exact hi
    clear hi
    cbv
    repeat' first | apply And.intro | refine Classical.or_iff_not_imp_left.2 (fun _ => ?_) | exact trivial
    all_goals try (subst hF hU; simp only [real, us, Nat.le_eq, Int.cast_ofNat_Int, decide_eq_false_iff_not, decide_eq_true_eq, List.length_take, List.length_drop, List.length_append, List.length_replicate, List.length_set, List.length_cons, List.length_nil, List.length_zipWith] at *; (try simp (disch := omega) only [wrap_sm] at *); omega)
    · rename_i g1
      refine ⟨(i + 1 : Nat), ?_⟩
      cbv; subst hF hU
      have hlt : i < 64 := lt_g (n := 64) g1
      exact ⟨hlt, sub_stepN (n := 64) hlt, ⟨addi1 (by omega), trivial⟩, ⟨mpadP_step k c i hlt, trivial⟩, trivial⟩
    · rename_i g1; subst hF hU
      have e : i = 64 := by have := ge_g (n := 64) g1; omega
      subst e; exact mpadP_end k c
theorem k_mac_pad_b : SpecOK Try.prog 115 (s_mac_pad_b real us) := by
  refine g_sound (n := 0) (q := 1) (x := x_mac_pad_b real us) ⟨tt_ok, ok_mac_pad_b, Go.Vc.ks_nil⟩ mixed Try.func115 rfl rfl (by kernel_rfl) (by decide) (fun j hj => by omega) ?_
  intro l mm c rs ch news hg hl hc
  unfold g_mac_pad_b at hg
  split at hg
  · cases hg
    exact ⟨Nat.le_of_ble_eq_true rfl, an_mac_pad_b real us _ _, [], c_mac_pad_b _ _ hc⟩
  · cases hg

noncomputable def s_mac_pad (F : Fs) (U : Us) : Vc.Spec := rbSpec F [.row (.kB), .keep] (s_mac_pad_b F U)
theorem r_mac_pad : Ready Try.prog 115 := by unfold Ready; kernel_rfl
theorem k_mac_pad : SpecOK Try.prog 115 (s_mac_pad real us) := rb_ok k_mac_pad_b
end Go.Proofs.Ytmldccfchnlpgaa
set_option linter.unusedVariables false
set_option linter.unusedSimpArgs false
set_option maxRecDepth 100000
set_option maxHeartbeats 1000000
namespace Go.Proofs.Ytmldccfchnlpgaa
open Go Go.Vc
theorem mul32 {i : Nat} (h : i ≤ 5000000000000) : real.muli (real.int i) (real.int 32) = ((32 * i : Nat) : Int) := by
  show IntKind.i64.wrap ((i : Int) * 32) = _
  rw [wrap_sm (by omega) (by omega)]
  omega
attribute [local irreducible] u_chM u_chB u_chL u_chN
noncomputable def sp_mac_chunks (F : Fs) (U : Us) : Specs := []
noncomputable def an_mac_chunks (F : Fs) (U : Us) (b : List UInt8) : Anns := [(3, ⟨Nat, fun i => F.pLe i (U.chN b), fun i => F.subn (U.chN b) i, fun i => ⟨[(0, .rb 1 (.bt b)), (3, .mh 5), (4, .i (F.int i))], [(3, 5, .mp 161 .i (.t [.l8 32, .i]) (U.chM b i))]⟩⟩)]
noncomputable def g_mac_chunks (F : Fs) (U : Us) : GLaw := fun l mm => match l, mm with
  | [.rb 1 (.bt b)], [] => some ⟨F.pLe (F.lenB b) 140737488355328, [.mh 0], [], [.mp 161 .i (.t [.l8 32, .i]) (U.chM b (U.chN b))]⟩
  | _, _ => none
noncomputable def s_mac_chunks (F : Fs) (U : Us) : Vc.Spec := gSpec 0 1 (g_mac_chunks F U)
noncomputable def x_mac_chunks (F : Fs) (U : Us) : Cx := ⟨Try.f116.ntmps, tt F, sp_mac_chunks F U, [], [(6, ([(5, [1])], []))], [], []⟩
end Go.Proofs.Ytmldccfchnlpgaa
set_option linter.unusedVariables false
set_option linter.unusedSimpArgs false
set_option maxRecDepth 100000
set_option maxHeartbeats 1000000
namespace Go.Proofs.Ytmldccfchnlpgaa
open Go Go.Vc
noncomputable abbrev cL (b : List UInt8) (i : Nat) : Int := real.dI (real.dF (real.mget (us.chM b (us.chN b)) (D.i (real.int i)) (real.dz (.t [.l8 32, .i]))) 1)
noncomputable abbrev cB (b : List UInt8) (i : Nat) : List UInt8 := real.dL8 (real.dF (real.mget (us.chM b (us.chN b)) (D.i (real.int i)) (real.dz (.t [.l8 32, .i]))) 0)
attribute [local irreducible] u_chM u_chB u_chL u_chN u_meqP
noncomputable def sp_mac_Equal (F : Fs) (U : Us) : Specs := [(116, s_mac_chunks F U)]
noncomputable def an_mac_Equal (F : Fs) (U : Us) (a b : List UInt8) : Anns := [(4, ⟨Nat, fun i => F.pLe i (U.chN a), fun i => F.subn (U.chN a) i, fun i => ⟨[(5, .mh 5), (6, .mh 6), (7, .b (U.meqP a b i)), (21, .i (F.int (F.mlen (U.chM a (U.chN a))))), (22, .i (F.int i))], [(5, 5, .mp 161 .i (.t [.l8 32, .i]) (U.chM a (U.chN a))), (6, 6, .mp 161 .i (.t [.l8 32, .i]) (U.chM b (U.chN b)))]⟩⟩)]
noncomputable def g_mac_Equal (F : Fs) (U : Us) : Law
  | [.rb 1 (.bt a), .rb 1 (.bt b)] => some (F.pLe (F.lenB a) 140737488355328 ∧ F.pLe (F.lenB b) 140737488355328, [.val (.b (U.meq a b))])
  | _ => none
noncomputable def s_mac_Equal (F : Fs) (U : Us) : Vc.Spec := pureSpec F false [.row .kB, .row .kB] (g_mac_Equal F U)
noncomputable def x_mac_Equal (F : Fs) (U : Us) : Cx := ⟨Try.f63.ntmps, tt F, sp_mac_Equal F U, [], [(6, ([(5, [2, 6]), (6, [2, 5]), (7, [2, 5, 6]), (8, [5])], [(8, [6])]))], [], []⟩
end Go.Proofs.Ytmldccfchnlpgaa
set_option linter.unusedVariables false
set_option linter.unusedSimpArgs false
set_option maxRecDepth 100000
set_option maxHeartbeats 4000000
namespace Go.Proofs.Ytmldccfchnlpgaa
open Go Go.Vc
theorem r_stream_Quarter : Ready Try.prog 33 := by unfold Ready; kernel_rfl
noncomputable def sp_stream_Quarter (F : Fs) (U : Us) : Specs := [(89, s_bits_Rotl F U)]
theorem ok_stream_Quarter : SpecsOK Try.prog (sp_stream_Quarter real us) := sp_cons r_bits_Rotl k_bits_Rotl sp_nil
noncomputable def g_stream_Quarter (F : Fs) (U : Us) : Law
  | [.w32 a, .w32 b, .w32 c, .w32 d] => some (True, [.val (.w32 (U.qa a b c d)), .val (.w32 (U.qb a b c d)), .val (.w32 (U.qc a b c d)), .val (.w32 (U.qd a b c d))])
  | _ => none
noncomputable def s_stream_Quarter (F : Fs) (U : Us) : Vc.Spec := pureSpec F false [.keep, .keep, .keep, .keep] (g_stream_Quarter F U)
noncomputable def x_stream_Quarter (F : Fs) (U : Us) : Cx := ⟨Try.f33.ntmps, tt F, sp_stream_Quarter F U, [], [], [], []⟩
theorem c_stream_Quarter (a b c d : UInt32) : vc real (x_stream_Quarter real us) [] [] (Try.f33.body.getD .skip) ⟨zipSl 0 [.w32 a, .w32 b, .w32 c, .w32 d], [], 64⟩ (retOk real (tt real) false Try.f33.results.toList [.val (.w32 (us.qa a b c d)), .val (.w32 (us.qb a b c d)), .val (.w32 (us.qc a b c d)), .val (.w32 (us.qd a b c d))]) := by
  generalize hU : us = U
  generalize hF : real = F
  cbv
  subst hF hU
  exact ⟨rfl, rfl, rfl, rfl, trivial⟩
theorem k_stream_Quarter : SpecOK Try.prog 33 (s_stream_Quarter real us) := by
  refine pure_sound (x := x_stream_Quarter real us) ⟨tt_ok, ok_stream_Quarter, Go.Vc.ks_nil⟩ mixed Try.func33 rfl rfl (by kernel_rfl) ?_
  intro l c rs hg hc
  unfold g_stream_Quarter at hg
  split at hg
  · cases hg; exact ⟨Nat.le_of_ble_eq_true rfl, [], [], c_stream_Quarter _ _ _ _⟩
  · cases hg

theorem r_ref4_Quarter : Ready Try.prog 34 := by unfold Ready; kernel_rfl
noncomputable def sp_ref4_Quarter (F : Fs) (U : Us) : Specs := [(90, s_ref1_Rotl F U)]
theorem ok_ref4_Quarter : SpecsOK Try.prog (sp_ref4_Quarter real us) := sp_cons r_ref1_Rotl k_ref1_Rotl sp_nil
noncomputable def g_ref4_Quarter (F : Fs) (U : Us) : Law
  | [.w32 a, .w32 b, .w32 c, .w32 d] => some (True, [.val (.w32 (U.qa a b c d)), .val (.w32 (U.qb a b c d)), .val (.w32 (U.qc a b c d)), .val (.w32 (U.qd a b c d))])
  | _ => none
noncomputable def s_ref4_Quarter (F : Fs) (U : Us) : Vc.Spec := pureSpec F false [.keep, .keep, .keep, .keep] (g_ref4_Quarter F U)
noncomputable def x_ref4_Quarter (F : Fs) (U : Us) : Cx := ⟨Try.f34.ntmps, tt F, sp_ref4_Quarter F U, [], [], [], []⟩
theorem c_ref4_Quarter (a b c d : UInt32) : vc real (x_ref4_Quarter real us) [] [] (Try.f34.body.getD .skip) ⟨zipSl 0 [.w32 a, .w32 b, .w32 c, .w32 d], [], 64⟩ (retOk real (tt real) false Try.f34.results.toList [.val (.w32 (us.qa a b c d)), .val (.w32 (us.qb a b c d)), .val (.w32 (us.qc a b c d)), .val (.w32 (us.qd a b c d))]) := by
  generalize hU : us = U
  generalize hF : real = F
  cbv
  subst hF hU
  exact ⟨rfl, rfl, rfl, rfl, trivial⟩
theorem k_ref4_Quarter : SpecOK Try.prog 34 (s_ref4_Quarter real us) := by
  refine pure_sound (x := x_ref4_Quarter real us) ⟨tt_ok, ok_ref4_Quarter, Go.Vc.ks_nil⟩ mixed Try.func34 rfl rfl (by kernel_rfl) ?_
  intro l c rs hg hc
  unfold g_ref4_Quarter at hg
  split at hg
  · cases hg; exact ⟨Nat.le_of_ble_eq_true rfl, [], [], c_ref4_Quarter _ _ _ _⟩
  · cases hg

theorem r_stream_words_quarter : Ready Try.prog 122 := by unfold Ready; kernel_rfl
noncomputable def sp_stream_words_quarter (F : Fs) (U : Us) : Specs := [(33, s_stream_Quarter F U)]
theorem ok_stream_words_quarter : SpecsOK Try.prog (sp_stream_words_quarter real us) := sp_cons r_stream_Quarter k_stream_Quarter sp_nil
noncomputable def g_stream_words_quarter (F : Fs) (U : Us) : HLaw := fun l mm => match l, mm with
  | [.p 0 0 0, .i a, .i b, .i c, .i d], [.bk T0 [(n1, .wd ws)]] => match Nat.beq T0 127, Nat.beq n1 16 with
    | true, true => some (U.is16 ws ∧ F.pIn a 16 ∧ F.pIn b 16 ∧ F.pIn c 16 ∧ F.pIn d 16, [], [some (.bk 127 [(16, .wd (U.qr ws (F.nat a) (F.nat b) (F.nat c) (F.nat d)))])])
    | _, _ => none
  | _, _ => none
noncomputable def s_stream_words_quarter (F : Fs) (U : Us) : Vc.Spec := hSpec 1 (g_stream_words_quarter F U)
noncomputable def x_stream_words_quarter (F : Fs) (U : Us) : Cx := ⟨Try.f122.ntmps, tt F, sp_stream_words_quarter F U, [], [(0, ([(17, [12]), (22, [12, 17]), (27, [12, 17, 22])], []))], [0], []⟩
theorem c_stream_words_quarter (ws : List UInt32) (a b c d : Int) (hc : us.is16 ws ∧ real.pIn a 16 ∧ real.pIn b 16 ∧ real.pIn c 16 ∧ real.pIn d 16) : vc real (x_stream_words_quarter real us) [] [] (Try.f122.body.getD .skip) ⟨zipSl 0 [.p 0 0 0, .i a, .i b, .i c, .i d], zipMe 0 [.bk 127 [(16, .wd ws)]], 64⟩ (retHOk real (tt real) Try.f122.results.toList [.bk 127 [(16, .wd ws)]] [] [some (.bk 127 [(16, .wd (us.qr ws (real.nat a) (real.nat b) (real.nat c) (real.nat d)))])]) := by
  generalize hU : us = U
  generalize hF : real = F
  obtain ⟨h16, ha, hb, hc', hd⟩ := hc
  have ha : 0 ≤ a ∧ a < 16 := ha
  have hb : 0 ≤ b ∧ b < 16 := hb
  have hc' : 0 ≤ c ∧ c < 16 := hc'
  have hd : 0 ≤ d ∧ d < 16 := hd
  cbv
  repeat' first | apply And.intro | refine Classical.or_iff_not_imp_left.2 (fun _ => ?_) | exact trivial
  all_goals try (subst hF hU; simp only [real, us, Nat.le_eq, Int.cast_ofNat_Int, decide_eq_false_iff_not, decide_eq_true_eq, Bool.not_eq_true', Bool.not_eq_false', beq_eq_false_iff_ne, beq_iff_eq, ne_eq, Decidable.not_not, List.length_take, List.length_drop, List.length_append, List.length_replicate, List.length_set, List.length_cons, List.length_nil] at *; omega)
  subst hF hU
  rfl
theorem k_stream_words_quarter : SpecOK Try.prog 122 (s_stream_words_quarter real us) := by
  refine h_sound (x := x_stream_words_quarter real us) ⟨tt_ok, ok_stream_words_quarter, Go.Vc.ks_nil⟩ mixed Try.func122 rfl rfl (by kernel_rfl) (by decide) (fun j hj => by simp [x_stream_words_quarter]; omega) ?_
  intro l mm c rs ch hg hl hc
  unfold g_stream_words_quarter at hg
  split at hg
  · split at hg
    · rename_i h0 h1
      have z0 := beq_nat h0
      have z1 := beq_nat h1
      subst z0
      subst z1
      cases hg
      exact ⟨Nat.le_of_ble_eq_true rfl, [], [], c_stream_words_quarter _ _ _ _ _ hc⟩
    · cases hg
  · cases hg

theorem qr_len (ws : List UInt32) (a b c d : Nat) : (u_qr ws a b c d).length = ws.length := by simp [u_qr]
theorem colP_len (ws : List UInt32) : ∀ i, (u_colP ws i).length = ws.length
  | 0 => rfl
  | i + 1 => by rw [u_colP, qr_len, colP_len ws i]
theorem diagP_len (ws : List UInt32) : ∀ i, (u_diagP ws i).length = ws.length
  | 0 => rfl
  | i + 1 => by rw [u_diagP, qr_len, diagP_len ws i]
theorem rndP_len (ws : List UInt32) : ∀ i, (u_rndP ws i).length = ws.length
  | 0 => rfl
  | i + 1 => by rw [u_rndP, diagP_len, colP_len, rndP_len ws i]
theorem r_stream_words_round : Ready Try.prog 92 := by unfold Ready; kernel_rfl
noncomputable def sp_stream_words_round (F : Fs) (U : Us) : Specs := [(122, s_stream_words_quarter F U)]
theorem ok_stream_words_round : SpecsOK Try.prog (sp_stream_words_round real us) := sp_cons r_stream_words_quarter k_stream_words_quarter sp_nil
noncomputable def an_stream_words_round (F : Fs) (U : Us) (ws : List UInt32) : Anns := [(1, ⟨Nat, fun i => i ≤ 4, fun i => F.subn 4 i, fun i => ⟨[(0, .p 0 0 0), (4, .i (F.int i))], [(0, 0, .bk 127 [(16, .wd (U.colP ws i))])]⟩⟩),
  (6, ⟨Nat, fun i => i ≤ 4, fun i => F.subn 4 i, fun i => ⟨[(0, .p 0 0 0), (17, .i (F.int i))], [(0, 0, .bk 127 [(16, .wd (U.diagP (U.colP ws 4) i))])]⟩⟩)]
noncomputable def g_stream_words_round (F : Fs) (U : Us) : HLaw := fun l mm => match l, mm with
  | [.p 0 0 0], [.bk T0 [(n1, .wd ws)]] => match Nat.beq T0 127, Nat.beq n1 16 with
    | true, true => some (U.is16 ws, [], [some (.bk 127 [(16, .wd (U.rndP ws 1))])])
    | _, _ => none
  | _, _ => none
noncomputable def s_stream_words_round (F : Fs) (U : Us) : Vc.Spec := hSpec 1 (g_stream_words_round F U)
noncomputable def x_stream_words_round (F : Fs) (U : Us) : Cx := ⟨Try.f92.ntmps, tt F, sp_stream_words_round F U, [], [], [0], []⟩
theorem c_stream_words_round (ws : List UInt32) (hc : us.is16 ws) : vc real (x_stream_words_round real us) (an_stream_words_round real us ws) [] (Try.f92.body.getD .skip) ⟨zipSl 0 [.p 0 0 0], zipMe 0 [.bk 127 [(16, .wd ws)]], 64⟩ (retHOk real (tt real) Try.f92.results.toList [.bk 127 [(16, .wd ws)]] [] [some (.bk 127 [(16, .wd (us.rndP ws 1))])]) := by
  generalize hU : us = U
  generalize hF : real = F
  have h16 : ws.length = 16 := hc
  cbv
  refine ⟨⟨(0 : Nat), ?_⟩, fun (i : Nat) hi => ?_⟩
  · cbv
    subst hF hU
    exact ⟨⟨rfl, trivial⟩, trivial⟩
  · replace hi : i ≤ 4 := hi
    have hl := colP_len ws i
    have hl4 := colP_len ws 4
    have hq : i < 4 → u_qr (u_colP ws i) (Int.toNat i) (Int.toNat (IntKind.i64.wrap (i + 4))) (Int.toNat (IntKind.i64.wrap (i + 8))) (Int.toNat (IntKind.i64.wrap (i + 12))) = u_colP ws (i + 1) := fun h => by
      simp (disch := omega) only [wrap_sm]
      rfl
    cbv
    repeat' first | apply And.intro | refine Classical.or_iff_not_imp_left.2 (fun _ => ?_) | exact trivial
    all_goals try (subst hF hU; simp only [real, us, Nat.le_eq, Int.cast_ofNat_Int, decide_eq_false_iff_not, decide_eq_true_eq, List.length_take, List.length_drop, List.length_append, List.length_replicate, List.length_set, List.length_cons, List.length_nil, List.length_zipWith] at *; (try simp (disch := omega) only [wrap_sm] at *); omega)
    · subst hF hU; show (u_colP ws i).length = 16; omega
    · refine ⟨(i + 1 : Nat), ?_⟩
      cbv; subst hF hU; simp only [real, us, Nat.le_eq, Int.cast_ofNat_Int, decide_eq_false_iff_not, decide_eq_true_eq] at *
      exact ⟨by omega, by omega, ⟨wrap_sm (by omega) (by omega), trivial⟩, ⟨hq (by omega), trivial⟩, trivial⟩
    · refine ⟨(0 : Nat), ?_⟩
      cbv; subst hF hU; simp only [real, us, Nat.le_eq, Int.cast_ofNat_Int, decide_eq_false_iff_not, decide_eq_true_eq] at *
      have e : i = 4 := by omega
      rw [e]
      exact ⟨⟨rfl, trivial⟩, trivial⟩
    · intro (j : Nat) hj
      replace hj : j ≤ 4 := hj
      have hlj := diagP_len (u_colP ws 4) j
      have hq2 : j < 4 → u_qr (u_diagP (u_colP ws 4) j) (Int.toNat j) (Int.toNat (IntKind.i64.wrap (4 + (IntKind.i64.wrap (j + 1)).tmod 4))) (Int.toNat (IntKind.i64.wrap (8 + (IntKind.i64.wrap (j + 2)).tmod 4))) (Int.toNat (IntKind.i64.wrap (12 + (IntKind.i64.wrap (j + 3)).tmod 4))) = u_diagP (u_colP ws 4) (j + 1) := fun h => by
        have hk : j = 0 ∨ j = 1 ∨ j = 2 ∨ j = 3 := by omega
        rcases hk with e | e | e | e <;> subst e <;> rfl
      cbv
      repeat' first | apply And.intro | refine Classical.or_iff_not_imp_left.2 (fun _ => ?_) | exact trivial
      all_goals try (subst hF hU; simp only [real, us, Nat.le_eq, Int.cast_ofNat_Int, decide_eq_false_iff_not, decide_eq_true_eq, List.length_take, List.length_drop, List.length_append, List.length_replicate, List.length_set, List.length_cons, List.length_nil, List.length_zipWith] at *; (try simp (disch := omega) only [wrap_sm] at *); omega)
      · subst hF hU; show (u_diagP (u_colP ws 4) j).length = 16; omega
      · subst hF hU
        have hlt : j < 4 := by simp only [real, decide_eq_false_iff_not] at *; omega
        have hk : j = 0 ∨ j = 1 ∨ j = 2 ∨ j = 3 := by omega
        rcases hk with e | e | e | e <;> subst e <;> (simp only [real]; decide)
      · subst hF hU
        have hlt : j < 4 := by simp only [real, decide_eq_false_iff_not] at *; omega
        have hk : j = 0 ∨ j = 1 ∨ j = 2 ∨ j = 3 := by omega
        rcases hk with e | e | e | e <;> subst e <;> (simp only [real]; decide)
      · subst hF hU
        have hlt : j < 4 := by simp only [real, decide_eq_false_iff_not] at *; omega
        have hk : j = 0 ∨ j = 1 ∨ j = 2 ∨ j = 3 := by omega
        rcases hk with e | e | e | e <;> subst e <;> (simp only [real]; decide)
      · refine ⟨(j + 1 : Nat), ?_⟩
        cbv; subst hF hU; simp only [real, us, Nat.le_eq, Int.cast_ofNat_Int, decide_eq_false_iff_not, decide_eq_true_eq] at *
        exact ⟨by omega, by omega, ⟨wrap_sm (by omega) (by omega), trivial⟩, ⟨hq2 (by omega), trivial⟩, trivial⟩
      · subst hF hU; simp only [real, us, Nat.le_eq, Int.cast_ofNat_Int, decide_eq_false_iff_not, decide_eq_true_eq] at *
        have e : j = 4 := by omega
        rw [e]
        exact rfl
theorem k_stream_words_round : SpecOK Try.prog 92 (s_stream_words_round real us) := by
  refine h_sound (x := x_stream_words_round real us) ⟨tt_ok, ok_stream_words_round, Go.Vc.ks_nil⟩ mixed Try.func92 rfl rfl (by kernel_rfl) (by decide) (fun j hj => by simp [x_stream_words_round]; omega) ?_
  intro l mm c rs ch hg hl hc
  unfold g_stream_words_round at hg
  split at hg
  · split at hg
    · rename_i h0 h1
      have z0 := beq_nat h0
      have z1 := beq_nat h1
      subst z0
      subst z1
      cases hg
      exact ⟨Nat.le_of_ble_eq_true rfl, an_stream_words_round real us _, [], c_stream_words_round _ hc⟩
    · cases hg
  · cases hg

end Go.Proofs.Ytmldccfchnlpgaa
set_option linter.unusedVariables false
set_option linter.unusedSimpArgs false
set_option maxRecDepth 100000
set_option maxHeartbeats 4000000
namespace Go.Proofs.Ytmldccfchnlpgaa
open Go Go.Vc
theorem kwP_len (k : List UInt8) : ∀ i, (u_kwP k i).length = 16
  | 0 => rfl
  | i + 1 => by rw [u_kwP, List.length_set, kwP_len k i]
theorem nwP_len (k n : List UInt8) (c : UInt32) : ∀ i, (u_nwP k n c i).length = 16
  | 0 => by rw [u_nwP, u_cw, List.length_set, kwP_len]
  | i + 1 => by rw [u_nwP, List.length_set, nwP_len k n c i]
theorem outP_len (a b : List UInt32) : ∀ i, i ≤ 16 → (u_outP a b i).length = 64
  | 0, _ => by simp [u_outP]
  | i + 1, h => by
    have := outP_len a b i (by omega)
    have e : (u_putLittle (b.getD i 0 + a.getD i 0)).length = 4 := rfl
    simp only [u_outP, List.length_append, List.length_take, List.length_drop, e]
    omega
theorem kw_step (k : List UInt8) (i : Nat) (h : i < 8) (hk : k.length = 32) : (u_kwP k i).set (IntKind.i64.wrap (4 + (i : Int))).toNat (u_little (List.take (32 - (IntKind.i64.wrap (4 * (i : Int))).toNat) (List.drop (IntKind.i64.wrap (4 * (i : Int))).toNat k))) = u_kwP k (i + 1) := by
  rw [wrap_sm (by omega) (by omega), wrap_sm (by omega) (by omega), show (4 + (i : Int)).toNat = 4 + i by omega, show (4 * (i : Int)).toNat = 4 * i by omega, List.take_of_length_le (by rw [List.length_drop]; omega)]
  rfl
theorem nw_step (k n : List UInt8) (c : UInt32) (i : Nat) (h : i < 3) (hn : n.length = 12) : (u_nwP k n c i).set (IntKind.i64.wrap (13 + (i : Int))).toNat (u_little (List.take (12 - (IntKind.i64.wrap (4 * (i : Int))).toNat) (List.drop (IntKind.i64.wrap (4 * (i : Int))).toNat n))) = u_nwP k n c (i + 1) := by
  rw [wrap_sm (by omega) (by omega), wrap_sm (by omega) (by omega), show (13 + (i : Int)).toNat = 13 + i by omega, show (4 * (i : Int)).toNat = 4 * i by omega, List.take_of_length_le (by rw [List.length_drop]; omega)]
  rfl
theorem r_stream_first : Ready Try.prog 91 := by unfold Ready; kernel_rfl
noncomputable def sp_stream_first (F : Fs) (U : Us) : Specs := [(121, s_bits_Little F U)]
theorem ok_stream_first : SpecsOK Try.prog (sp_stream_first real us) := sp_cons r_bits_Little k_bits_Little sp_nil
noncomputable def an_stream_first (F : Fs) (U : Us) (k n : List UInt8) (c : UInt32) : Anns := [(3, ⟨Nat, fun i => i ≤ 8, fun i => F.subn 8 i, fun i => ⟨[(2, .w32 c), (3, .p 0 0 0), (4, .p 1 0 0), (6, .p 2 0 0), (7, .p 3 0 0), (11, .i (F.int i))], [(3, 0, .bk 24 [(32, .bt k)]), (4, 1, .bk 26 [(12, .bt n)]), (6, 2, .bk 127 [(16, .wd (F.repW 16))]), (7, 3, .bk 127 [(16, .wd (U.kwP k i))])]⟩⟩),
  (9, ⟨Nat, fun i => i ≤ 3, fun i => F.subn 3 i, fun i => ⟨[(4, .p 1 0 0), (6, .p 2 0 0), (7, .p 3 0 0), (24, .i (F.int i))], [(4, 1, .bk 26 [(12, .bt n)]), (6, 2, .bk 127 [(16, .wd (F.repW 16))]), (7, 3, .bk 127 [(16, .wd (U.nwP k n c i))])]⟩⟩)]
noncomputable def g_stream_first (F : Fs) (U : Us) : Law
  | [.ag 32 (.bt k), .ag 12 (.bt n), .w32 c] => some (U.isL k 32 ∧ U.isL n 12, [.val (.ag 16 (.wd (U.nwP k n c 3)))])
  | _ => none
noncomputable def s_stream_first (F : Fs) (U : Us) : Vc.Spec := pureSpec F false [.keep, .keep, .keep] (g_stream_first F U)
noncomputable def x_stream_first (F : Fs) (U : Us) : Cx := ⟨Try.f91.ntmps, tt F, sp_stream_first F U, [], [], [], []⟩
theorem c_stream_first (k n : List UInt8) (c : UInt32) (hc : us.isL k 32 ∧ us.isL n 12) : vc real (x_stream_first real us) (an_stream_first real us k n c) [] (Try.f91.body.getD .skip) ⟨zipSl 0 [.ag 32 (.bt k), .ag 12 (.bt n), .w32 c], [], 64⟩ (retOk real (tt real) false Try.f91.results.toList [.val (.ag 16 (.wd (us.nwP k n c 3)))]) := by
  generalize hU : us = U
  generalize hF : real = F
  have hk : k.length = 32 := hc.1
  have hn : n.length = 12 := hc.2
  cbv
  repeat' first | apply And.intro | refine Classical.or_iff_not_imp_left.2 (fun _ => ?_) | exact trivial
  all_goals try (subst hF hU; simp only [real, us, Nat.le_eq, Int.cast_ofNat_Int, decide_eq_false_iff_not, decide_eq_true_eq, List.length_take, List.length_drop, List.length_append, List.length_replicate, List.length_set, List.length_cons, List.length_nil, List.length_zipWith] at *; (try simp (disch := omega) only [wrap_sm] at *); omega)
  · refine ⟨(0 : Nat), ?_⟩
    cbv
    subst hF hU
    simp only [real, us]
    exact ⟨⟨by rw [u_kwP]; decide, trivial⟩, trivial⟩
  · intro (i : Nat) hi
    replace hi : i ≤ 8 := hi
    have hl := kwP_len k i
    cbv
    repeat' first | apply And.intro | refine Classical.or_iff_not_imp_left.2 (fun _ => ?_) | exact trivial
    all_goals try (subst hF hU; simp only [real, us, Nat.le_eq, Int.cast_ofNat_Int, decide_eq_false_iff_not, decide_eq_true_eq, List.length_take, List.length_drop, List.length_append, List.length_replicate, List.length_set, List.length_cons, List.length_nil, List.length_zipWith] at *; (try simp (disch := omega) only [wrap_sm] at *); omega)
    · refine ⟨(i + 1 : Nat), ?_⟩
      cbv; subst hF hU; simp only [real, us, Nat.le_eq, Int.cast_ofNat_Int, decide_eq_false_iff_not, decide_eq_true_eq] at *
      exact ⟨by omega, by omega, ⟨wrap_sm (by omega) (by omega), trivial⟩, ⟨kw_step k i (by omega) hk, trivial⟩, trivial⟩
    · refine ⟨(0 : Nat), ?_⟩
      cbv; subst hF hU; simp only [real, us, Nat.le_eq, Int.cast_ofNat_Int, decide_eq_false_iff_not, decide_eq_true_eq] at *
      have e : i = 8 := by omega
      rw [e]
      exact ⟨⟨rfl, trivial⟩, trivial⟩
    · intro (j : Nat) hj
      replace hj : j ≤ 3 := hj
      have hlj := nwP_len k n c j
      cbv
      repeat' first | apply And.intro | refine Classical.or_iff_not_imp_left.2 (fun _ => ?_) | exact trivial
      all_goals try (subst hF hU; simp only [real, us, Nat.le_eq, Int.cast_ofNat_Int, decide_eq_false_iff_not, decide_eq_true_eq, List.length_take, List.length_drop, List.length_append, List.length_replicate, List.length_set, List.length_cons, List.length_nil, List.length_zipWith] at *; (try simp (disch := omega) only [wrap_sm] at *); omega)
      · refine ⟨(j + 1 : Nat), ?_⟩
        cbv; subst hF hU; simp only [real, us, Nat.le_eq, Int.cast_ofNat_Int, decide_eq_false_iff_not, decide_eq_true_eq] at *
        exact ⟨by omega, by omega, ⟨wrap_sm (by omega) (by omega), trivial⟩, ⟨nw_step k n c j (by omega) hn, trivial⟩, trivial⟩
      · subst hF hU; simp only [real, us, Nat.le_eq, Int.cast_ofNat_Int, decide_eq_false_iff_not, decide_eq_true_eq] at *
        have e : j = 3 := by omega
        rw [e]
theorem k_stream_first : SpecOK Try.prog 91 (s_stream_first real us) := by
  refine pure_sound (x := x_stream_first real us) ⟨tt_ok, ok_stream_first, Go.Vc.ks_nil⟩ mixed Try.func91 rfl rfl (by kernel_rfl) ?_
  intro l c rs hg hc
  unfold g_stream_first at hg
  split at hg
  · cases hg; exact ⟨Nat.le_of_ble_eq_true rfl, an_stream_first real us _ _ _, [], c_stream_first _ _ _ hc⟩
  · cases hg

end Go.Proofs.Ytmldccfchnlpgaa
set_option linter.unusedVariables false
set_option linter.unusedSimpArgs false
set_option maxRecDepth 100000
set_option maxHeartbeats 4000000
namespace Go.Proofs.Ytmldccfchnlpgaa
open Go Go.Vc
theorem nw16 (k n : List UInt8) (c : UInt32) (i : Nat) : u_is16 (u_rndP (u_nwP k n c 3) i) := by
  show (u_rndP (u_nwP k n c 3) i).length = 16
  rw [rndP_len, nwP_len]
theorem out_step (o f : List UInt8) (hf : f.length = 4) (j : Nat) (h : j < 16) : List.take (IntKind.i64.wrap (4 * (j : Int))).toNat o ++ List.take (min (List.take 4 (List.drop 0 f)).length (64 - (IntKind.i64.wrap (4 * (j : Int))).toNat)) (List.drop 0 (List.take 4 (List.drop 0 f))) ++
    List.drop ((IntKind.i64.wrap (4 * (j : Int))).toNat + (List.take (min (List.take 4 (List.drop 0 f)).length (64 - (IntKind.i64.wrap (4 * (j : Int))).toNat)) (List.drop 0 (List.take 4 (List.drop 0 f)))).length) o = o.take (4 * j) ++ f ++ o.drop (4 * j + 4) := by
  rw [wrap_sm (by omega) (by omega), show (4 * (j : Int)).toNat = 4 * j by omega, List.drop_zero, List.drop_zero, List.take_of_length_le (show f.length ≤ 4 by omega), hf, Nat.min_eq_left (by omega), List.take_of_length_le (show f.length ≤ 4 by omega), hf]
theorem r_stream_Block : Ready Try.prog 35 := by unfold Ready; kernel_rfl
noncomputable def sp_stream_Block (F : Fs) (U : Us) : Specs := [(91, s_stream_first F U), (92, s_stream_words_round F U), (93, s_bits_PutLittle F U)]
theorem ok_stream_Block : SpecsOK Try.prog (sp_stream_Block real us) := sp_cons r_stream_first k_stream_first (sp_cons r_stream_words_round k_stream_words_round (sp_cons r_bits_PutLittle k_bits_PutLittle sp_nil))
noncomputable def an_stream_Block (F : Fs) (U : Us) (k n : List UInt8) (c : UInt32) : Anns := [(4, ⟨Nat, fun i => i ≤ 10, fun i => F.subn 10 i, fun i => ⟨[(6, .p 0 0 0), (7, .p 1 0 0), (8, .p 2 0 0), (18, .i (F.int i))], [(6, 0, .bk 31 [(64, .bt (F.repB 64))]), (7, 1, .bk 127 [(16, .wd (U.nwP k n c 3))]), (8, 2, .bk 127 [(16, .wd (U.rndP (U.nwP k n c 3) i))])]⟩⟩),
  (9, ⟨Nat, fun i => i ≤ 16, fun i => F.subn 16 i, fun i => ⟨[(6, .p 0 0 0), (7, .p 1 0 0), (9, .p 2 0 0), (22, .ag 16 (.wd (U.rndP (U.nwP k n c 3) 10))), (23, .i (F.int i))], [(6, 0, .bk 31 [(64, .bt (F.repB 64))]), (7, 1, .bk 127 [(16, .wd (U.nwP k n c 3))]), (9, 2, .bk 31 [(64, .bt (U.outP (U.nwP k n c 3) (U.rndP (U.nwP k n c 3) 10) i))])]⟩⟩)]
noncomputable def g_stream_Block (F : Fs) (U : Us) : Law
  | [.ag 32 (.bt k), .ag 12 (.bt n), .w32 c] => some (U.isL k 32 ∧ U.isL n 12, [.val (.ag 64 (.bt (U.block k n c)))])
  | _ => none
noncomputable def s_stream_Block (F : Fs) (U : Us) : Vc.Spec := pureSpec F false [.keep, .keep, .keep] (g_stream_Block F U)
noncomputable def x_stream_Block (F : Fs) (U : Us) : Cx := ⟨Try.f35.ntmps, tt F, sp_stream_Block F U, [], [(12, ([(3, [2])], []))], [], []⟩
theorem c_stream_Block (k n : List UInt8) (c : UInt32) (hc : us.isL k 32 ∧ us.isL n 12) : vc real (x_stream_Block real us) (an_stream_Block real us k n c) [] (Try.f35.body.getD .skip) ⟨zipSl 0 [.ag 32 (.bt k), .ag 12 (.bt n), .w32 c], [], 64⟩ (retOk real (tt real) false Try.f35.results.toList [.val (.ag 64 (.bt (us.block k n c)))]) := by
  generalize hU : us = U
  generalize hF : real = F
  have hk : k.length = 32 := hc.1
  have hn : n.length = 12 := hc.2
  cbv
  repeat' first | apply And.intro | refine Classical.or_iff_not_imp_left.2 (fun _ => ?_) | exact trivial
  · subst hU; exact hk
  · subst hU; exact hn
  · refine ⟨(0 : Nat), ?_⟩
    cbv
    subst hF hU
    exact ⟨⟨rfl, trivial⟩, trivial⟩
  · intro (i : Nat) hi
    replace hi : i ≤ 10 := hi
    cbv
    repeat' first | apply And.intro | refine Classical.or_iff_not_imp_left.2 (fun _ => ?_) | exact trivial
    all_goals try (subst hF hU; simp only [real, us, Nat.le_eq, Int.cast_ofNat_Int, decide_eq_false_iff_not, decide_eq_true_eq, List.length_take, List.length_drop, List.length_append, List.length_replicate, List.length_set, List.length_cons, List.length_nil, List.length_zipWith] at *; (try simp (disch := omega) only [wrap_sm] at *); omega)
    · subst hU; exact nw16 k n c i
    · refine ⟨(i + 1 : Nat), ?_⟩
      cbv; subst hF hU; simp only [real, us, Nat.le_eq, Int.cast_ofNat_Int, decide_eq_false_iff_not, decide_eq_true_eq] at *
      exact ⟨by omega, by omega, ⟨wrap_sm (by omega) (by omega), trivial⟩, ⟨rfl, trivial⟩, trivial⟩
    · refine ⟨(0 : Nat), ?_⟩
      cbv; subst hF hU; simp only [real, us, Nat.le_eq, Int.cast_ofNat_Int, decide_eq_false_iff_not, decide_eq_true_eq] at *
      have e : i = 10 := by omega
      rw [e]
      exact ⟨⟨rfl, trivial⟩, ⟨rfl, trivial⟩, trivial⟩
    · intro (j : Nat) hj
      replace hj : j ≤ 16 := hj
      cbv
      repeat' first | apply And.intro | refine Classical.or_iff_not_imp_left.2 (fun _ => ?_) | exact trivial
      all_goals try (subst hF hU; simp only [real, us, Nat.le_eq, Int.cast_ofNat_Int, decide_eq_false_iff_not, decide_eq_true_eq, List.length_take, List.length_drop, List.length_append, List.length_replicate, List.length_set, List.length_cons, List.length_nil, List.length_zipWith] at *; (try simp (disch := omega) only [wrap_sm] at *); omega)
      · subst hF hU; exact Nat.le_refl 4
      · refine ⟨(j + 1 : Nat), ?_⟩
        cbv; subst hF hU; simp only [real, us, Nat.le_eq, Int.cast_ofNat_Int, decide_eq_false_iff_not, decide_eq_true_eq] at *
        exact ⟨by omega, by omega, ⟨wrap_sm (by omega) (by omega), trivial⟩, ⟨out_step _ _ rfl j (by omega), trivial⟩, trivial⟩
      · subst hF hU; simp only [real, us, Nat.le_eq, Int.cast_ofNat_Int, decide_eq_false_iff_not, decide_eq_true_eq] at *
        have e : j = 16 := by omega
        rw [e]
        rfl
theorem k_stream_Block : SpecOK Try.prog 35 (s_stream_Block real us) := by
  refine pure_sound (x := x_stream_Block real us) ⟨tt_ok, ok_stream_Block, Go.Vc.ks_nil⟩ mixed Try.func35 rfl rfl (by kernel_rfl) ?_
  intro l c rs hg hc
  unfold g_stream_Block at hg
  split at hg
  · cases hg; exact ⟨Nat.le_of_ble_eq_true rfl, an_stream_Block real us _ _ _, [], c_stream_Block _ _ _ hc⟩
  · cases hg

end Go.Proofs.Ytmldccfchnlpgaa
set_option linter.unusedVariables false
set_option linter.unusedSimpArgs false
set_option maxRecDepth 100000
set_option maxHeartbeats 4000000
namespace Go.Proofs.Ytmldccfchnlpgaa
open Go Go.Vc
theorem block_len (k n : List UInt8) (c : UInt32) : (u_block k n c).length = 64 := outP_len _ _ 16 (by omega)
theorem ks_len (k n : List UInt8) (c : UInt32) (m : Nat) : (u_ks k n c m).length = m := by simp [u_ks]
theorem sx_len (k n : List UInt8) (c : UInt32) (xs : List UInt8) : (u_sx k n c xs).length = xs.length := by simp [u_sx, ks_len]
theorem cnt_zero (c : UInt32) : c = u_cnt c 0 := by
  show c = c + 0
  rw [UInt32.add_zero]
theorem cnt_succ (c : UInt32) (i : Nat) : u_cnt c i + 1 = u_cnt c (i + 1) := by
  simp only [u_cnt]
  rw [UInt32.add_assoc]
  congr 1
  rw [UInt32.ofNat_add]
  rfl
theorem sx_step (k n : List UInt8) (c : UInt32) (xs : List UInt8) (i m : Nat) (hm : m = min (xs.length - 64 * i) 64) :
    List.zipWith (fun a b => a ^^^ b) ((xs.drop (64 * i)).take m) (u_block k n (u_cnt c i)) = ((u_sx k n c xs).drop (64 * i)).take m := by
  apply List.ext_getElem?
  intro j
  rw [List.getElem?_zipWith, List.getElem?_take, List.getElem?_take]
  by_cases h : j < m
  · rw [if_pos h, if_pos h, List.getElem?_drop, List.getElem?_drop]
    simp only [u_sx]
    rw [List.getElem?_zipWith]
    have hx : 64 * i + j < xs.length := by omega
    rw [List.getElem?_eq_getElem hx]
    have hk : (u_ks k n c xs.length)[64 * i + j]? = some ((u_block k n (u_cnt c i)).getD j 0) := by
      simp only [u_ks, List.getElem?_map, List.getElem?_range hx, Option.map_some]
      rw [show (64 * i + j) / 64 = i by omega, show (64 * i + j) % 64 = j by omega]
      rfl
    rw [hk]
    have hb : (u_block k n (u_cnt c i))[j]? = some ((u_block k n (u_cnt c i)).getD j 0) := by
      rw [List.getD_eq_getElem?_getD, List.getElem?_eq_getElem (by rw [block_len]; omega)]; rfl
    rw [hb]
  · rw [if_neg h, if_neg h]
theorem sx_next (k n : List UInt8) (c : UInt32) (xs : List UInt8) (i : Nat) (h : 64 * i < xs.length) :
    List.take ((List.take (xs.length - 64 * i) (List.drop (64 * i) xs)).length - (if 64 < ((List.take (xs.length - 64 * i) (List.drop (64 * i) xs)).length : Int) then 64 else ((List.take (xs.length - 64 * i) (List.drop (64 * i) xs)).length : Int)).toNat)
      (List.drop (if 64 < ((List.take (xs.length - 64 * i) (List.drop (64 * i) xs)).length : Int) then 64 else ((List.take (xs.length - 64 * i) (List.drop (64 * i) xs)).length : Int)).toNat (List.take (xs.length - 64 * i) (List.drop (64 * i) xs))) =
        List.take (xs.length - 64 * (i + 1)) (List.drop (64 * (i + 1)) xs) ∧
    List.take (64 * i) (List.drop 0 (u_sx k n c xs)) ++ List.zipWith (fun a b => a ^^^ b) (List.take (if 64 < ((List.take (xs.length - 64 * i) (List.drop (64 * i) xs)).length : Int) then 64 else ((List.take (xs.length - 64 * i) (List.drop (64 * i) xs)).length : Int)).toNat (List.drop 0 (List.take (xs.length - 64 * i) (List.drop (64 * i) xs))))
      (List.take 64 (List.drop 0 (u_block k n (u_cnt c i)))) = List.take (64 * (i + 1)) (List.drop 0 (u_sx k n c xs)) := by
  have hR : List.take (xs.length - 64 * i) (List.drop (64 * i) xs) = List.drop (64 * i) xs := List.take_of_length_le (by rw [List.length_drop]; omega)
  rw [hR]
  have hM : (if 64 < ((List.drop (64 * i) xs).length : Int) then 64 else ((List.drop (64 * i) xs).length : Int)).toNat = min (xs.length - 64 * i) 64 := by
    rw [List.length_drop]; split <;> omega
  rw [hM]
  generalize hm : min (xs.length - 64 * i) 64 = m
  have hsl := sx_len k n c xs
  constructor
  · rw [List.drop_drop, List.length_drop]
    by_cases h64 : 64 ≤ xs.length - 64 * i
    · have e : m = 64 := by omega
      subst e
      rw [show 64 * i + 64 = 64 * (i + 1) by omega]
      congr 1
    · rw [List.drop_of_length_le (by omega), List.drop_of_length_le (show xs.length ≤ 64 * (i + 1) by omega)]
      simp
  · rw [List.drop_zero, List.drop_zero, List.drop_zero, List.take_of_length_le (show (u_block k n (u_cnt c i)).length ≤ 64 by rw [block_len]; omega), sx_step k n c xs i m hm.symm, ← List.take_add]
    by_cases h64 : 64 ≤ xs.length - 64 * i
    · congr 1; omega
    · rw [List.take_of_length_le (by omega), List.take_of_length_le (by omega)]
theorem r_stream_Xor : Ready Try.prog 37 := by unfold Ready; kernel_rfl
noncomputable def sp_stream_Xor (F : Fs) (U : Us) : Specs := [(35, s_stream_Block F U), (95, s_bits_Xor F U)]
theorem ok_stream_Xor : SpecsOK Try.prog (sp_stream_Xor real us) := sp_cons r_stream_Block k_stream_Block (sp_cons r_bits_Xor k_bits_Xor sp_nil)
noncomputable def an_stream_Xor (F : Fs) (U : Us) (k n : List UInt8) (c : UInt32) (xs : List UInt8) : Anns := [(2, ⟨Nat, fun i => F.pLe (F.muln 64 i) (F.addn (F.lenB xs) 63), fun i => F.subn (F.lenB xs) (F.muln 64 i), fun i => ⟨[(2, .w32 (U.cnt c i)), (3, .rb 1 (.bt (F.cutB xs (F.muln 64 i) (F.subn (F.lenB xs) (F.muln 64 i))))), (4, .p 0 0 0), (5, .p 1 0 0), (9, .rw 2)], [(4, 0, .bk 24 [(32, .bt k)]), (5, 1, .bk 26 [(12, .bt n)]), (9, 2, .row 5 1 (.bt (F.cutB (U.sx k n c xs) 0 (F.muln 64 i))))]⟩⟩)]
noncomputable def g_stream_Xor (F : Fs) (U : Us) : Law
  | [.ag 32 (.bt k), .ag 12 (.bt n), .w32 c, .rb 1 (.bt xs)] => some ((U.isL k 32 ∧ U.isL n 12) ∧ F.pLe (F.lenB xs) 1000000, [.row 5 1 (.bt (U.sx k n c xs))])
  | _ => none
noncomputable def s_stream_Xor (F : Fs) (U : Us) : Vc.Spec := pureSpec F false [.keep, .keep, .keep, .row .kB] (g_stream_Xor F U)
noncomputable def x_stream_Xor (F : Fs) (U : Us) : Cx := ⟨Try.f37.ntmps, tt F, sp_stream_Xor F U, [], [(5, ([(5, [4])], []))], [], []⟩
theorem c_stream_Xor (k n : List UInt8) (c : UInt32) (xs : List UInt8) (hc : (us.isL k 32 ∧ us.isL n 12) ∧ real.pLe (real.lenB xs) 1000000) : vc real (x_stream_Xor real us) (an_stream_Xor real us k n c xs) [] (Try.f37.body.getD .skip) ⟨zipSl 0 [.ag 32 (.bt k), .ag 12 (.bt n), .w32 c, .rb 1 (.bt xs)], [], 64⟩ (retOk real (tt real) false Try.f37.results.toList [.row 5 1 (.bt (us.sx k n c xs))]) := by
  generalize hU : us = U
  generalize hF : real = F
  have hk : k.length = 32 := hc.1.1
  have hn : n.length = 12 := hc.1.2
  have hx : xs.length ≤ 1000000 := hc.2
  have hsl := sx_len k n c xs
  cbv
  repeat' first | apply And.intro | refine Classical.or_iff_not_imp_left.2 (fun _ => ?_) | exact trivial
  all_goals try (subst hF hU; simp only [real, us, Nat.le_eq, Int.cast_ofNat_Int, decide_eq_false_iff_not, decide_eq_true_eq, List.length_take, List.length_drop, List.length_append, List.length_replicate, List.length_set, List.length_cons, List.length_nil, List.length_zipWith] at *; (try simp (disch := omega) only [wrap_sm] at *); omega)
  · refine ⟨(0 : Nat), ?_⟩
    cbv; subst hF hU; simp only [real, us, Nat.le_eq, Int.cast_ofNat_Int, decide_eq_false_iff_not, decide_eq_true_eq] at *
    exact ⟨by omega, ⟨cnt_zero c, by simp, trivial⟩, by simp, trivial⟩
  · intro (i : Nat) hi
    replace hi : F.pLe (F.muln 64 i) (F.addn (F.lenB xs) 63) := hi
    have hbl := block_len k n (u_cnt c i)
    cbv
    repeat' first | apply And.intro | refine Classical.or_iff_not_imp_left.2 (fun _ => ?_) | exact trivial
    all_goals try (subst hF hU; simp only [real, us, Nat.le_eq, Int.cast_ofNat_Int, decide_eq_false_iff_not, decide_eq_true_eq, List.length_take, List.length_drop, List.length_append, List.length_replicate, List.length_set, List.length_cons, List.length_nil, List.length_zipWith] at *; (try simp (disch := omega) only [wrap_sm] at *); omega)
    · subst hU; exact hk
    · subst hU; exact hn
    · refine ⟨(i + 1 : Nat), ?_⟩
      cbv; subst hF hU; simp only [real, us, Nat.le_eq, Int.cast_ofNat_Int, decide_eq_false_iff_not, decide_eq_true_eq] at *
      have hlt : 64 * i < xs.length := by
        simp only [List.length_take, List.length_drop] at *
        omega
      obtain ⟨h1, h2⟩ := sx_next k n c xs i hlt
      exact ⟨by omega, by omega, ⟨cnt_succ c i, h1, trivial⟩, h2, trivial⟩
    · subst hF hU; simp only [real, us, Nat.le_eq, Int.cast_ofNat_Int, decide_eq_false_iff_not, decide_eq_true_eq] at *
      simp only [List.length_take, List.length_drop] at *
      rw [List.drop_zero, List.take_of_length_le (by omega)]
theorem k_stream_Xor : SpecOK Try.prog 37 (s_stream_Xor real us) := by
  refine pure_sound (x := x_stream_Xor real us) ⟨tt_ok, ok_stream_Xor, Go.Vc.ks_nil⟩ mixed Try.func37 rfl rfl (by kernel_rfl) ?_
  intro l c rs hg hc
  unfold g_stream_Xor at hg
  split at hg
  · cases hg; exact ⟨Nat.le_of_ble_eq_true rfl, an_stream_Xor real us _ _ _ _, [], c_stream_Xor _ _ _ _ hc⟩
  · cases hg

end Go.Proofs.Ytmldccfchnlpgaa
set_option linter.unusedVariables false
set_option linter.unusedSimpArgs false
set_option maxRecDepth 100000
set_option maxHeartbeats 4000000
namespace Go.Proofs.Ytmldccfchnlpgaa
open Go Go.Vc
noncomputable def sp_law4_known (F : Fs) (U : Us) : Specs := [(33, s_stream_Quarter F U), (35, s_stream_Block F U), (37, s_stream_Xor F U)]
noncomputable def an_law4_known (F : Fs) (U : Us)  : Anns := [(4, ⟨Nat, fun i => i ≤ 32, fun i => F.subn 32 i, fun i => ⟨[(1, .w32 (F.ofI32 (F.int 0xea2a92f4))), (2, .w32 (F.ofI32 (F.int 0xcb1cf8ce))), (3, .w32 (F.ofI32 (F.int 0x4581472e))), (4, .w32 (F.ofI32 (F.int 0x5881c4bb))), (5, .p 0 0 0), (6, .i (F.int i))], [(5, 0, .bk 24 [(32, .bt (U.upto i))])]⟩⟩)]
noncomputable def g_law4_known (F : Fs) (U : Us) : Law
  | [] => some (True, [.val (.kb true)])
  | _ => none
noncomputable def s_law4_known (F : Fs) (U : Us) : Vc.Spec := pureSpec F false [] (g_law4_known F U)
noncomputable def x_law4_known (F : Fs) (U : Us) : Cx := ⟨Try.f32.ntmps, tt F, sp_law4_known F U, [], [], [], [8]⟩
end Go.Proofs.Ytmldccfchnlpgaa
set_option linter.unusedVariables false
set_option linter.unusedSimpArgs false
set_option maxRecDepth 100000
set_option maxHeartbeats 1000000
namespace Go.Proofs.Ytmldccfchnlpgaa
open Go Go.Vc
theorem four_take (ys : List UInt8) : four (ys.take 4) = four ys := by
  unfold four
  by_cases h : ys.length ≤ 4
  · rw [List.take_of_length_le h]
  · rw [List.take_append_of_le_length (by rw [List.length_take]; omega), List.take_append_of_le_length (by omega), List.take_take, Nat.min_self]
theorem little_take (ys : List UInt8) : u_little (ys.take 4) = u_little ys := by simp only [u_little, four_take]
theorem big_take (ys : List UInt8) : u_big (ys.take 4) = u_big ys := by simp only [u_big, four_take]
theorem kw4_step (k : List UInt8) (i : Nat) (h : i < 8) : (u_kwP k i).set (IntKind.i64.wrap (4 + (i : Int))).toNat (u_little (List.take ((IntKind.i64.wrap (IntKind.i64.wrap (4 * (i : Int)) + 4)).toNat - (IntKind.i64.wrap (4 * (i : Int))).toNat) (List.drop (IntKind.i64.wrap (4 * (i : Int))).toNat k))) = u_kwP k (i + 1) := by
  simp (disch := omega) only [wrap_sm]
  rw [show (4 * (i : Int) + 4).toNat - (4 * (i : Int)).toNat = 4 by omega, show (4 + (i : Int)).toNat = 4 + i by omega, show (4 * (i : Int)).toNat = 4 * i by omega, little_take]
  rfl
theorem nw4_step (k n : List UInt8) (c : UInt32) (i : Nat) (h : i < 3) : (u_nwP k n c i).set (IntKind.i64.wrap (13 + (i : Int))).toNat (u_little (List.take ((IntKind.i64.wrap (IntKind.i64.wrap (4 * (i : Int)) + 4)).toNat - (IntKind.i64.wrap (4 * (i : Int))).toNat) (List.drop (IntKind.i64.wrap (4 * (i : Int))).toNat n))) = u_nwP k n c (i + 1) := by
  simp (disch := omega) only [wrap_sm]
  rw [show (4 * (i : Int) + 4).toNat - (4 * (i : Int)).toNat = 4 by omega, show (13 + (i : Int)).toNat = 13 + i by omega, show (4 * (i : Int)).toNat = 4 * i by omega, little_take]
  rfl
theorem rows_in (j q : Nat) (hj : j < 8) (hq : q < 4) : 0 ≤ (u_rows j).getD q 0 ∧ (u_rows j).getD q 0 < 16 := by
  have : ∀ j : Fin 8, ∀ q : Fin 4, 0 ≤ (u_rows j.val).getD q.val 0 ∧ (u_rows j.val).getD q.val 0 < 16 := by decide
  exact this ⟨j, hj⟩ ⟨q, hq⟩
theorem rows_len (j : Nat) (hj : j < 8) : (u_rows j).length = 4 := by
  have : ∀ j : Fin 8, (u_rows j.val).length = 4 := by decide
  exact this ⟨j, hj⟩
theorem r4P_len (ws : List UInt32) : ∀ i, (u_r4P ws i).length = ws.length
  | 0 => rfl
  | i + 1 => by rw [u_r4P, qr_len, r4P_len ws i]
theorem r4P_add8 (ws : List UInt32) (r : Nat) (h : r % 8 = 0) : u_r4P ws (r + 8) = u_diagP (u_colP (u_r4P ws r) 4) 4 := by
  have e : ∀ j, j < 8 → (r + j) % 8 = j := fun j hj => by omega
  have e0 := e 0 (by omega)
  rw [Nat.add_zero] at e0
  show u_qr (u_qr (u_qr (u_qr (u_qr (u_qr (u_qr (u_qr (u_r4P ws r) _ _ _ _) _ _ _ _) _ _ _ _) _ _ _ _) _ _ _ _) _ _ _ _) _ _ _ _) _ _ _ _ = _
  rw [e0, e 1 (by omega), e 2 (by omega), e 3 (by omega), e 4 (by omega), e 5 (by omega), e 6 (by omega), e 7 (by omega)]
  rfl
theorem r4P_rnd (ws : List UInt32) : ∀ i, u_r4P ws (8 * i) = u_rndP ws i
  | 0 => rfl
  | i + 1 => by
    rw [show 8 * (i + 1) = 8 * i + 8 by omega, r4P_add8 ws (8 * i) (by omega), r4P_rnd ws i]
    rfl
theorem chunk_get {α : Type} (o : Nat → List α) (g : Nat → List α) (L n : Nat) (d : α) (hg : ∀ i, (g i).length = 4) (hs : ∀ i, i < n → o (i + 1) = (o i).take (4 * i) ++ g i ++ (o i).drop (4 * i + 4)) (hl : ∀ i, i ≤ n → (o i).length = L) (hL : 4 * n ≤ L) :
    ∀ i, i ≤ n → ∀ j, j < 4 * i → (o i).getD j d = (g (j / 4)).getD (j % 4) d
  | 0, _, j, hj => by omega
  | i + 1, hi, j, hj => by
    have ih := chunk_get o g L n d hg hs hl hL i (by omega)
    have h1 := hl i (by omega)
    have hgi := hg i
    rw [hs i (by omega)]
    simp only [List.getD_eq_getElem?_getD] at ih ⊢
    by_cases h : j < 4 * i
    · rw [List.append_assoc, List.getElem?_append_left (by rw [List.length_take]; omega), List.getElem?_take, if_pos h]
      exact ih j h
    · rw [List.append_assoc, List.getElem?_append_right (by rw [List.length_take]; omega), List.length_take, Nat.min_eq_left (by omega), List.getElem?_append_left (by omega), show j / 4 = i by omega, show j - 4 * i = j % 4 by omega]
theorem putLittle_get (x : UInt32) (j : Nat) (h : j < 4) : (u_putLittle x).getD j 0 = real.ofI8 (real.toI32 (real.shr32 x ((8 * j : Nat) : Int))) := by
  have h4 : j = 0 ∨ j = 1 ∨ j = 2 ∨ j = 3 := by omega
  have e : real.shr32 x 0 = x := by simp [real]
  rcases h4 with rfl | rfl | rfl | rfl
  · rw [show ((8 * 0 : Nat) : Int) = 0 from rfl, e]; rfl
  · rfl
  · rfl
  · rfl
theorem o4_get (was ws : List UInt32) (i : Nat) (h : i < 64) : (u_outP was ws 16).getD i 0 = real.ofI8 (real.toI32 (real.shr32 (ws.getD (i / 4) 0 + was.getD (i / 4) 0) ((8 * (i % 4) : Nat) : Int))) := by
  rw [chunk_get (u_outP was ws) (fun i => u_putLittle (ws.getD i 0 + was.getD i 0)) 64 16 0 (fun _ => rfl) (fun _ _ => rfl) (fun i hi => outP_len was ws i hi) (by omega) 16 (by omega) i (by omega), putLittle_get _ _ (by omega)]
theorem shamt (m : Nat) (h : m < 4) : real.toI64 (real.mul64 (real.ofI64 (real.int 8)) (real.ofI64 (m : Int))) = ((8 * m : Nat) : Int) := by
  have : ∀ m : Fin 4, real.toI64 (real.mul64 (real.ofI64 (real.int 8)) (real.ofI64 (m.val : Int))) = ((8 * m.val : Nat) : Int) := by decide
  exact this ⟨m, h⟩
theorem quo4 (j : Nat) (h : j < 1000000) : real.nat (real.quoi (real.int j) (real.int 4)) = j / 4 := by
  show (IntKind.i64.wrap ((j : Int).tdiv 4)).toNat = j / 4
  rw [show (j : Int).tdiv 4 = ((j / 4 : Nat) : Int) from rfl, wrap_sm (by omega) (by omega)]
  rfl
theorem o4_step (was ws : List UInt32) (j : Nat) (h : j < 64) : (u_o4 was ws j).set (real.nat (real.int j)) (real.ofI8 (real.toI32 (real.shr32 (real.add32 (real.getW ws (real.nat (real.quoi (real.int j) (real.int 4)))) (real.getW was (real.nat (real.quoi (real.int j) (real.int 4))))) (real.toI64 (real.mul64 (real.ofI64 (real.int 8)) (real.ofI64 (real.remi (real.int j) (real.int 4)))))))) = u_o4 was ws (j + 1) := by
  rw [quo4 j (by omega), show real.remi (real.int j) (real.int 4) = ((j % 4 : Nat) : Int) from rfl, shamt _ (by omega), show real.nat (real.int j) = j from rfl]
  exact fill_step _ 64 j 0 0 _ (outP_len was ws 16 (by omega)) h (o4_get was ws j h)
theorem nw_zero (k n : List UInt8) (c : UInt32) : (u_kwP k 8).set (Int.toNat 12) c = u_nwP k n c 0 := rfl
theorem r4_zero (ws : List UInt32) : ws = u_r4P ws 0 := rfl
theorem r4_step (ws : List UInt32) (i : Nat) : u_qr (u_r4P ws i) ((u_rows ((i : Int).tmod 8).toNat).getD (Int.toNat 0) 0).toNat ((u_rows ((i : Int).tmod 8).toNat).getD (Int.toNat 1) 0).toNat ((u_rows ((i : Int).tmod 8).toNat).getD (Int.toNat 2) 0).toNat ((u_rows ((i : Int).tmod 8).toNat).getD (Int.toNat 3) 0).toNat = u_r4P ws (i + 1) := rfl
theorem o4_zero (was ws : List UInt32) : List.replicate 64 0 = u_o4 was ws 0 := (fill_zero _ 64 0).symm
theorem o4_end (ws : List UInt32) : u_o4 ws (u_r4P ws 80) 64 = u_outP ws (u_rndP ws 10) 16 := by
  rw [show u_r4P ws 80 = u_rndP ws 10 from r4P_rnd ws 10]
  exact fill_full _ 64 0 (outP_len _ _ 16 (by omega))
theorem sx_next4 (k n : List UInt8) (c : UInt32) (xs : List UInt8) (i : Nat) (h : 64 * i < xs.length) (hx : xs.length ≤ 1000000) :
    List.take (64 * i) (List.drop 0 (u_sx k n c xs)) ++ List.zipWith (fun a b => a ^^^ b) (List.take ((if IntKind.i64.wrap (((64 * i : Nat) : Int) + 64) < (xs.length : Int) then IntKind.i64.wrap (((64 * i : Nat) : Int) + 64) else (xs.length : Int)).toNat - (((64 * i : Nat) : Int)).toNat) (List.drop (((64 * i : Nat) : Int)).toNat xs))
      (List.take 64 (List.drop 0 (u_block k n (u_cnt c i)))) = List.take (64 * (i + 1)) (List.drop 0 (u_sx k n c xs)) := by
  have hsl := sx_len k n c xs
  have hbl := block_len k n (u_cnt c i)
  rw [wrap_sm (by omega) (by omega)]
  have hM : (if ((64 * i : Nat) : Int) + 64 < (xs.length : Int) then ((64 * i : Nat) : Int) + 64 else (xs.length : Int)).toNat - (((64 * i : Nat) : Int)).toNat = min (xs.length - 64 * i) 64 := by
    split <;> omega
  rw [hM]
  generalize hm : min (xs.length - 64 * i) 64 = m
  rw [show (((64 * i : Nat) : Int)).toNat = 64 * i from rfl, List.drop_zero, List.drop_zero, List.take_of_length_le (show (u_block k n (u_cnt c i)).length ≤ 64 by omega), sx_step k n c xs i m hm.symm, ← List.take_add]
  by_cases h64 : 64 ≤ xs.length - 64 * i
  · rw [show 64 * i + m = 64 * (i + 1) by omega]
  · rw [List.take_of_length_le (by omega), List.take_of_length_le (by omega)]
end Go.Proofs.Ytmldccfchnlpgaa
set_option linter.unusedVariables false
set_option linter.unusedSimpArgs false
set_option maxRecDepth 100000
set_option maxHeartbeats 1000000
namespace Go.Proofs.Ytmldccfchnlpgaa
open Go Go.Vc
attribute [local irreducible] u_outP u_r4P u_nwP u_o4 u_kwP u_rndP u_block u_sx
theorem r_ref4_Block : Ready Try.prog 36 := by unfold Ready; kernel_rfl
noncomputable def sp_ref4_Block (F : Fs) (U : Us) : Specs := [(94, s_ref1_Little F U), (34, s_ref4_Quarter F U)]
theorem ok_ref4_Block : SpecsOK Try.prog (sp_ref4_Block real us) := sp_cons r_ref1_Little k_ref1_Little (sp_cons r_ref4_Quarter k_ref4_Quarter sp_nil)
noncomputable def an_ref4_Block (F : Fs) (U : Us) (k n : List UInt8) (c : UInt32) : Anns := [(4, ⟨Nat, fun i => i ≤ 8, fun i => F.subn 8 i, fun i => ⟨[(2, .w32 c), (3, .p 0 0 0), (4, .p 1 0 0), (6, .p 2 0 0), (7, .p 3 0 0), (8, .i (F.int i))], [(3, 0, .bk 24 [(32, .bt k)]), (4, 1, .bk 26 [(12, .bt n)]), (6, 2, .bk 31 [(64, .bt (F.repB 64))]), (7, 3, .bk 126 [(16, .wd (U.kwP k i))])]⟩⟩),
  (9, ⟨Nat, fun i => i ≤ 3, fun i => F.subn 3 i, fun i => ⟨[(4, .p 1 0 0), (6, .p 2 0 0), (7, .p 3 0 0), (9, .i (F.int i))], [(4, 1, .bk 26 [(12, .bt n)]), (6, 2, .bk 31 [(64, .bt (F.repB 64))]), (7, 3, .bk 126 [(16, .wd (U.nwP k n c i))])]⟩⟩),
  (15, ⟨Nat, fun i => i ≤ 80, fun i => F.subn 80 i, fun i => ⟨[(6, .p 2 0 0), (7, .p 3 0 0), (10, .p 4 0 0), (11, .p 5 0 0), (12, .i (F.int i))], [(6, 2, .bk 31 [(64, .bt (F.repB 64))]), (7, 3, .bk 126 [(16, .wd (U.nwP k n c 3))]), (10, 4, .bk 133 [(32, .fn 4 8 (fun j => .ag 4 (.is (U.rows j))))]), (11, 5, .bk 126 [(16, .wd (U.r4P (U.nwP k n c 3) i))])]⟩⟩),
  (25, ⟨Nat, fun i => i ≤ 64, fun i => F.subn 64 i, fun i => ⟨[(6, .p 2 0 0), (7, .p 3 0 0), (11, .p 5 0 0), (18, .p 6 0 0), (19, .i (F.int i))], [(6, 2, .bk 31 [(64, .bt (F.repB 64))]), (7, 3, .bk 126 [(16, .wd (U.nwP k n c 3))]), (11, 5, .bk 126 [(16, .wd (U.r4P (U.nwP k n c 3) 80))]), (18, 6, .bk 31 [(64, .bt (U.o4 (U.nwP k n c 3) (U.r4P (U.nwP k n c 3) 80) i))])]⟩⟩)]
noncomputable def g_ref4_Block (F : Fs) (U : Us) : Law
  | [.ag 32 (.bt k), .ag 12 (.bt n), .w32 c] => some (U.isL k 32 ∧ U.isL n 12, [.val (.ag 64 (.bt (U.block k n c)))])
  | _ => none
noncomputable def s_ref4_Block (F : Fs) (U : Us) : Vc.Spec := pureSpec F false [.keep, .keep, .keep] (g_ref4_Block F U)
noncomputable def x_ref4_Block (F : Fs) (U : Us) : Cx := ⟨Try.f36.ntmps, tt F, sp_ref4_Block F U, [], [(18, ([(5, [1, 3]), (7, [1, 3]), (9, [1, 3, 5, 7]), (11, [1, 3, 5, 7]), (13, [1, 3, 5, 7, 9, 11]), (15, [1, 3, 5, 7, 9, 11])], [])), (27, ([(7, [3])], []))], [], []⟩
theorem c_ref4_Block (k n : List UInt8) (c : UInt32) (hc : us.isL k 32 ∧ us.isL n 12) : vc real (x_ref4_Block real us) (an_ref4_Block real us k n c) [] (Try.f36.body.getD .skip) ⟨zipSl 0 [.ag 32 (.bt k), .ag 12 (.bt n), .w32 c], [], 64⟩ (retOk real (tt real) false Try.f36.results.toList [.val (.ag 64 (.bt (us.block k n c)))]) := by
  generalize hU : us = U
  generalize hF : real = F
  have hk : k.length = 32 := hc.1
  have hn : n.length = 12 := hc.2
  cbv
  repeat' first | apply And.intro | refine Classical.or_iff_not_imp_left.2 (fun _ => ?_) | exact trivial
  all_goals try (subst hF hU; simp only [real, us, Nat.le_eq, Int.cast_ofNat_Int, decide_eq_false_iff_not, decide_eq_true_eq, List.length_take, List.length_drop, List.length_append, List.length_replicate, List.length_set, List.length_cons, List.length_nil, List.length_zipWith] at *; (try simp (disch := omega) only [wrap_sm] at *); omega)
  · refine ⟨(0 : Nat), ?_⟩
    cbv
    subst hF hU
    simp only [real, us]
    exact ⟨⟨by rw [u_kwP]; decide, trivial⟩, trivial⟩
  · intro (i : Nat) hi
    replace hi : i ≤ 8 := hi
    have hl := kwP_len k i
    cbv
    repeat' first | apply And.intro | refine Classical.or_iff_not_imp_left.2 (fun _ => ?_) | exact trivial
    all_goals try (subst hF hU; simp only [real, us, Nat.le_eq, Int.cast_ofNat_Int, decide_eq_false_iff_not, decide_eq_true_eq, List.length_take, List.length_drop, List.length_append, List.length_replicate, List.length_set, List.length_cons, List.length_nil, List.length_zipWith] at *; (try simp (disch := omega) only [wrap_sm] at *); omega)
    · refine ⟨(i + 1 : Nat), ?_⟩
      cbv; subst hF hU; simp only [real, us, Nat.le_eq, Int.cast_ofNat_Int, decide_eq_false_iff_not, decide_eq_true_eq] at *
      exact ⟨by omega, by omega, ⟨wrap_sm (by omega) (by omega), trivial⟩, ⟨kw4_step k i (by omega), trivial⟩, trivial⟩
    · refine ⟨(0 : Nat), ?_⟩
      cbv; subst hF hU; simp only [real, us, Nat.le_eq, Int.cast_ofNat_Int, decide_eq_false_iff_not, decide_eq_true_eq] at *
      have e : i = 8 := by omega
      rw [e]
      exact ⟨⟨nw_zero k n c, trivial⟩, trivial⟩
    · intro (i : Nat) hi
      replace hi : i ≤ 3 := hi
      have hl := nwP_len k n c i
      cbv
      repeat' first | apply And.intro | refine Classical.or_iff_not_imp_left.2 (fun _ => ?_) | exact trivial
      all_goals try (subst hF hU; simp only [real, us, Nat.le_eq, Int.cast_ofNat_Int, decide_eq_false_iff_not, decide_eq_true_eq, List.length_take, List.length_drop, List.length_append, List.length_replicate, List.length_set, List.length_cons, List.length_nil, List.length_zipWith] at *; (try simp (disch := omega) only [wrap_sm] at *); omega)
      · refine ⟨(i + 1 : Nat), ?_⟩
        cbv; subst hF hU; simp only [real, us, Nat.le_eq, Int.cast_ofNat_Int, decide_eq_false_iff_not, decide_eq_true_eq] at *
        exact ⟨by omega, by omega, ⟨wrap_sm (by omega) (by omega), trivial⟩, ⟨nw4_step k n c i (by omega), trivial⟩, trivial⟩
      · refine ⟨(0 : Nat), ?_⟩
        cbv; subst hF hU; simp only [real, us, Nat.le_eq, Int.cast_ofNat_Int, decide_eq_false_iff_not, decide_eq_true_eq] at *
        have e : i = 3 := by omega
        rw [e]
        refine ⟨⟨rfl, trivial⟩, ⟨fun j hj => ?_, trivial⟩, ⟨r4_zero _, trivial⟩, trivial⟩
        have h8 : j = 0 ∨ j = 1 ∨ j = 2 ∨ j = 3 ∨ j = 4 ∨ j = 5 ∨ j = 6 ∨ j = 7 := by omega
        rcases h8 with rfl | rfl | rfl | rfl | rfl | rfl | rfl | rfl <;> exact ⟨rfl, rfl⟩
      · intro (i : Nat) hi
        replace hi : i ≤ 80 := hi
        have hl := r4P_len (u_nwP k n c 3) i
        have hl3 := nwP_len k n c 3
        have hl80 := r4P_len (u_nwP k n c 3) 80
        have ht : (i : Int).tmod 8 = ((i % 8 : Nat) : Int) := rfl
        have hr0 := rows_in (i % 8) 0 (by omega) (by omega)
        have hr1 := rows_in (i % 8) 1 (by omega) (by omega)
        have hr2 := rows_in (i % 8) 2 (by omega) (by omega)
        have hr3 := rows_in (i % 8) 3 (by omega) (by omega)
        have hrl := rows_len (i % 8) (by omega)
        have hi1 : IntKind.i64.wrap ((i : Int) + 1) = (i : Int) + 1 := wrap_sm (by omega) (by omega)
        cbv
        repeat' first | apply And.intro | refine Classical.or_iff_not_imp_left.2 (fun _ => ?_) | exact trivial
        all_goals try (subst hF hU; (try simp only [real, us, Nat.le_eq, Int.cast_ofNat_Int, decide_eq_false_iff_not, decide_eq_true_eq, ht, List.length_set]); (try simp only [show ∀ a : Nat, ((a : Int)).toNat = a from fun _ => rfl, Int.toNat_zero, Int.toNat_one, Int.reduceToNat]); omega)
        · subst hF hU
          show 0 ≤ (i : Int).tmod 8 ∧ (i : Int).tmod 8 < 8
          rw [ht]
          exact ⟨Int.natCast_nonneg _, Int.ofNat_lt.2 (Nat.mod_lt i (by omega))⟩
        · refine ⟨(i + 1 : Nat), ?_⟩
          cbv; subst hF hU; simp only [real, us, Nat.le_eq, Int.cast_ofNat_Int, decide_eq_false_iff_not, decide_eq_true_eq] at *
          exact ⟨by omega, by omega, ⟨hi1, trivial⟩, ⟨fun j hj => ⟨rfl, rfl⟩, trivial⟩, ⟨r4_step _ i, trivial⟩, trivial⟩
        · refine ⟨(0 : Nat), ?_⟩
          cbv; subst hF hU; simp only [real, us, Nat.le_eq, Int.cast_ofNat_Int, decide_eq_false_iff_not, decide_eq_true_eq] at *
          have e : i = 80 := by omega
          rw [e]
          exact ⟨⟨rfl, trivial⟩, ⟨o4_zero _ _, trivial⟩, trivial⟩
        · intro (j : Nat) hj
          replace hj : j ≤ 64 := hj
          have hq : IntKind.i64.wrap ((j : Int).tdiv 4) = ((j / 4 : Nat) : Int) := by
            rw [show (j : Int).tdiv 4 = ((j / 4 : Nat) : Int) from rfl]
            exact wrap_sm (by omega) (by omega)
          have hm : (j : Int).tmod 4 = ((j % 4 : Nat) : Int) := rfl
          cbv
          repeat' first | apply And.intro | refine Classical.or_iff_not_imp_left.2 (fun _ => ?_) | exact trivial
          all_goals try (subst hF hU; simp only [real, us, Nat.le_eq, Int.cast_ofNat_Int, decide_eq_false_iff_not, decide_eq_true_eq, List.length_take, List.length_drop, List.length_append, List.length_replicate, List.length_set, List.length_cons, List.length_nil, List.length_zipWith] at *; (try simp (disch := omega) only [wrap_sm] at *); omega)
          all_goals try (subst hF hU; show 0 ≤ IntKind.i64.wrap ((j : Int).tdiv 4) ∧ IntKind.i64.wrap ((j : Int).tdiv 4) < 16; rw [hq]; have := lt_g (j := j) (n := 64) (by assumption); exact ⟨Int.natCast_nonneg _, Int.ofNat_lt.2 (show j / 4 < 16 by omega)⟩)
          all_goals try (subst hF hU; show (IntKind.i64.wrap ((j : Int).tdiv 4)).toNat < 16; rw [hq]; have := lt_g (j := j) (n := 64) (by assumption); show j / 4 < 16; omega)
          · have hj64 := lt_g (j := j) (n := 64) (by subst hF; assumption)
            have hj1 : IntKind.i64.wrap ((j : Int) + 1) = (j : Int) + 1 := wrap_sm (by omega) (by omega)
            refine ⟨(j + 1 : Nat), ?_⟩
            cbv; subst hF hU
            simp only [us]
            refine ⟨by show j + 1 ≤ 64; omega, by show 64 - (j + 1) < 64 - j; omega, ⟨hj1, trivial⟩, ⟨?_, trivial⟩, trivial⟩
            have hst := o4_step (u_nwP k n c 3) (u_r4P (u_nwP k n c 3) 80) j hj64
            simp only [real] at hst ⊢
            exact hst
          · have hj64 := ge_g (j := j) (n := 64) (by subst hF; assumption)
            have e : j = 64 := by omega
            subst hF hU e
            simp only [us]
            unfold u_block
            exact o4_end _
theorem k_ref4_Block : SpecOK Try.prog 36 (s_ref4_Block real us) := by
  refine pure_sound (x := x_ref4_Block real us) ⟨tt_ok, ok_ref4_Block, Go.Vc.ks_nil⟩ mixed Try.func36 rfl rfl (by kernel_rfl) ?_
  intro l c rs hg hc
  unfold g_ref4_Block at hg
  split at hg
  · cases hg; exact ⟨Nat.le_of_ble_eq_true rfl, an_ref4_Block real us _ _ _, [], c_ref4_Block _ _ _ hc⟩
  · cases hg

theorem r_ref4_Xor : Ready Try.prog 38 := by unfold Ready; kernel_rfl
noncomputable def sp_ref4_Xor (F : Fs) (U : Us) : Specs := [(36, s_ref4_Block F U), (96, s_ref1_Xor F U)]
theorem ok_ref4_Xor : SpecsOK Try.prog (sp_ref4_Xor real us) := sp_cons r_ref4_Block k_ref4_Block (sp_cons r_ref1_Xor k_ref1_Xor sp_nil)
noncomputable def an_ref4_Xor (F : Fs) (U : Us) (k n : List UInt8) (c : UInt32) (xs : List UInt8) : Anns := [(3, ⟨Nat, fun i => F.pLe (F.muln 64 i) (F.addn (F.lenB xs) 63), fun i => F.subn (F.addn (F.lenB xs) 63) (F.muln 64 i), fun i => ⟨[(2, .w32 (U.cnt c i)), (3, .rb 1 (.bt xs)), (4, .p 0 0 0), (5, .p 1 0 0), (9, .rw 2), (10, .i (F.int (F.muln 64 i)))], [(4, 0, .bk 24 [(32, .bt k)]), (5, 1, .bk 26 [(12, .bt n)]), (9, 2, .row 5 1 (.bt (F.cutB (U.sx k n c xs) 0 (F.muln 64 i))))]⟩⟩)]
noncomputable def g_ref4_Xor (F : Fs) (U : Us) : Law
  | [.ag 32 (.bt k), .ag 12 (.bt n), .w32 c, .rb 1 (.bt xs)] => some ((U.isL k 32 ∧ U.isL n 12) ∧ F.pLe (F.lenB xs) 1000000, [.row 5 1 (.bt (U.sx k n c xs))])
  | _ => none
noncomputable def s_ref4_Xor (F : Fs) (U : Us) : Vc.Spec := pureSpec F false [.keep, .keep, .keep, .row .kB] (g_ref4_Xor F U)
noncomputable def x_ref4_Xor (F : Fs) (U : Us) : Cx := ⟨Try.f38.ntmps, tt F, sp_ref4_Xor F U, [], [(7, ([(9, [4, 7, 8])], []))], [], []⟩
theorem c_ref4_Xor (k n : List UInt8) (c : UInt32) (xs : List UInt8) (hc : (us.isL k 32 ∧ us.isL n 12) ∧ real.pLe (real.lenB xs) 1000000) : vc real (x_ref4_Xor real us) (an_ref4_Xor real us k n c xs) [] (Try.f38.body.getD .skip) ⟨zipSl 0 [.ag 32 (.bt k), .ag 12 (.bt n), .w32 c, .rb 1 (.bt xs)], [], 64⟩ (retOk real (tt real) false Try.f38.results.toList [.row 5 1 (.bt (us.sx k n c xs))]) := by
  generalize hU : us = U
  generalize hF : real = F
  have hk : k.length = 32 := hc.1.1
  have hn : n.length = 12 := hc.1.2
  have hx : xs.length ≤ 1000000 := hc.2
  have hsl := sx_len k n c xs
  cbv
  repeat' first | apply And.intro | refine Classical.or_iff_not_imp_left.2 (fun _ => ?_) | exact trivial
  all_goals try (subst hF hU; simp only [real, us, Nat.le_eq, Int.cast_ofNat_Int, decide_eq_false_iff_not, decide_eq_true_eq, List.length_take, List.length_drop, List.length_append, List.length_replicate, List.length_set, List.length_cons, List.length_nil, List.length_zipWith] at *; (try simp (disch := omega) only [wrap_sm] at *); omega)
  · refine ⟨(0 : Nat), ?_⟩
    cbv; subst hF hU; simp only [real, us, Nat.le_eq, Int.cast_ofNat_Int, decide_eq_false_iff_not, decide_eq_true_eq] at *
    exact ⟨by omega, ⟨cnt_zero c, by simp, trivial⟩, by simp, trivial⟩
  · intro (i : Nat) hi
    replace hi : F.pLe (F.muln 64 i) (F.addn (F.lenB xs) 63) := hi
    have hbl := block_len k n (u_cnt c i)
    cbv
    repeat' first | apply And.intro | refine Classical.or_iff_not_imp_left.2 (fun _ => ?_) | exact trivial
    all_goals try (subst hF hU; simp only [real, us, Nat.le_eq, Int.cast_ofNat_Int, decide_eq_false_iff_not, decide_eq_true_eq, List.length_take, List.length_drop, List.length_append, List.length_replicate, List.length_set, List.length_cons, List.length_nil, List.length_zipWith] at *; (try simp (disch := omega) only [wrap_sm] at *); omega)
    · subst hU; exact hk
    · subst hU; exact hn
    · refine ⟨(i + 1 : Nat), ?_⟩
      cbv; subst hF hU; simp only [real, us, Nat.le_eq, Int.cast_ofNat_Int, decide_eq_false_iff_not, decide_eq_true_eq] at *
      have hlt : 64 * i < xs.length := by omega
      exact ⟨by omega, by omega, ⟨cnt_succ c i, by rw [wrap_sm (by omega) (by omega)]; omega, trivial⟩, sx_next4 k n c xs i hlt hx, trivial⟩
    · subst hF hU; simp only [real, us, Nat.le_eq, Int.cast_ofNat_Int, decide_eq_false_iff_not, decide_eq_true_eq] at *
      rw [List.drop_zero, List.take_of_length_le (by omega)]
theorem k_ref4_Xor : SpecOK Try.prog 38 (s_ref4_Xor real us) := by
  refine pure_sound (x := x_ref4_Xor real us) ⟨tt_ok, ok_ref4_Xor, Go.Vc.ks_nil⟩ mixed Try.func38 rfl rfl (by kernel_rfl) ?_
  intro l c rs hg hc
  unfold g_ref4_Xor at hg
  split at hg
  · cases hg; exact ⟨Nat.le_of_ble_eq_true rfl, an_ref4_Xor real us _ _ _ _, [], c_ref4_Xor _ _ _ _ hc⟩
  · cases hg

end Go.Proofs.Ytmldccfchnlpgaa
set_option linter.unusedVariables false
set_option linter.unusedSimpArgs false
set_option maxRecDepth 100000
set_option maxHeartbeats 1000000
namespace Go.Proofs.Ytmldccfchnlpgaa
open Go Go.Vc
theorem sched_len (b : List UInt8) : ∀ i, (u_sched b i).length = 64
  | 0 => by simp [u_sched]
  | i + 1 => by rw [u_sched, List.length_set, sched_len b i]
theorem rnds_len (ws v : List UInt32) (h : v.length = 8) : ∀ i, (u_rnds ws v i).length = 8
  | 0 => h
  | i + 1 => rfl
theorem kc_len : u_kc.length = 64 := by decide
theorem add_len (v s : List UInt32) (hv : v.length = 8) (hs : s.length = 8) (i : Nat) (h : i ≤ 8) : (u_add v s i).length = 8 := by
  simp [u_add]; omega
theorem sched_lo (b : List UInt8) (i : Nat) (h : i < 16) (hb : 64 ≤ b.length) : (u_sched b i).set (Int.toNat (i : Int)) (u_big (List.take (b.length - (IntKind.i64.wrap (4 * (i : Int))).toNat) (List.drop (IntKind.i64.wrap (4 * (i : Int))).toNat b))) = u_sched b (i + 1) := by
  rw [wrap_sm (by omega) (by omega), show (4 * (i : Int)).toNat = 4 * i by omega, List.take_of_length_le (by rw [List.length_drop]; omega), u_sched, if_pos h]
  rfl
theorem sched_hi (b : List UInt8) (i : Nat) (h : ¬ i < 16) (h64 : i < 64) (x y z t : Nat) (hx : x = i - 15) (hy : y = i - 2) (hz : z = i - 7) (ht : t = i - 16) : (u_sched b i).set i (((u_sg1 ((u_sched b i).getD y 0) + (u_sched b i).getD z 0) + u_sg0 ((u_sched b i).getD x 0)) + (u_sched b i).getD t 0) = u_sched b (i + 1) := by
  subst hx hy hz ht
  conv => rhs; rw [u_sched, if_neg h]
theorem add_zero (v s : List UInt32) : v = u_add v s 0 := by simp [u_add]
theorem add_get (v s : List UInt32) (hv : v.length = 8) (hs : s.length = 8) (i : Nat) (h : i < 8) : (u_add v s i).getD i 0 = v.getD i 0 := by
  simp only [u_add, List.getD_eq_getElem?_getD]
  rw [List.getElem?_append_right (by rw [List.length_take, List.length_zipWith]; omega), List.length_take, List.length_zipWith, List.getElem?_drop]
  congr 2; omega
theorem add_step (v s : List UInt32) (hv : v.length = 8) (hs : s.length = 8) (i : Nat) (h : i < 8) : (u_add v s i).set i ((u_add v s i).getD i 0 + s.getD i 0) = u_add v s (i + 1) := by
  rw [add_get v s hv hs i h]
  have hz : (List.zipWith (· + ·) v s).length = 8 := by rw [List.length_zipWith]; omega
  unfold u_add
  rw [List.set_append_right _ _ (by rw [List.length_take]; omega), List.length_take, hz, Nat.min_eq_left (by omega), Nat.sub_self, List.take_add_one, List.append_assoc]
  congr 1
  have e1 : v.drop i = v.getD i 0 :: v.drop (i + 1) := by
    rw [List.drop_eq_getElem_cons (by omega)]
    congr 1
    rw [List.getD_eq_getElem?_getD, List.getElem?_eq_getElem (by omega)]
    rfl
  rw [e1, List.set_cons_zero]
  have e2 : (List.zipWith (· + ·) v s)[i]? = some (v.getD i 0 + s.getD i 0) := by
    rw [List.getElem?_zipWith, List.getElem?_eq_getElem (by omega), List.getElem?_eq_getElem (by omega)]
    simp [List.getD_eq_getElem?_getD, List.getElem?_eq_getElem (show i < v.length by omega), List.getElem?_eq_getElem (show i < s.length by omega)]
  rw [e2]
  rfl
theorem ofI64_3 : real.toI64 (real.ofI64 (real.int 3)) = 3 := by decide
theorem ofI64_10 : real.toI64 (real.ofI64 (real.int 10)) = 10 := by decide
theorem sched_zero (b : List UInt8) : List.replicate 64 0 = u_sched b 0 := rfl
theorem subI (i k : Nat) (h : i ≤ 1000000) (hk : k ≤ i) : real.nat (real.subi (real.int i) (real.int k)) = i - k := by
  show (IntKind.i64.wrap ((i : Int) - (k : Int))).toNat = i - k
  rw [wrap_sm (by omega) (by omega)]; omega
theorem sched_loR (b : List UInt8) (i : Nat) (h : i < 16) (hb : 64 ≤ b.length) : real.setW (us.sched b i) (real.nat (real.int i)) (us.big (real.cutB b (real.nat (real.muli (real.int 4) (real.int i))) (real.subn (real.lenB b) (real.nat (real.muli (real.int 4) (real.int i)))))) = us.sched b (i + 1) := sched_lo b i h hb
theorem sched_hiR (b : List UInt8) (i : Nat) (h : ¬ i < 16) (h64 : i < 64) : real.setW (us.sched b i) (real.nat (real.int i)) (real.add32 (real.add32 (real.add32
    (real.xor32 (real.xor32 (us.rr (real.getW (us.sched b i) (real.nat (real.subi (real.int i) (real.int 2)))) (real.int 17)) (us.rr (real.getW (us.sched b i) (real.nat (real.subi (real.int i) (real.int 2)))) (real.int 19))) (real.shr32 (real.getW (us.sched b i) (real.nat (real.subi (real.int i) (real.int 2)))) (real.toI64 (real.ofI64 (real.int 10)))))
    (real.getW (us.sched b i) (real.nat (real.subi (real.int i) (real.int 7)))))
    (real.xor32 (real.xor32 (us.rr (real.getW (us.sched b i) (real.nat (real.subi (real.int i) (real.int 15)))) (real.int 7)) (us.rr (real.getW (us.sched b i) (real.nat (real.subi (real.int i) (real.int 15)))) (real.int 18))) (real.shr32 (real.getW (us.sched b i) (real.nat (real.subi (real.int i) (real.int 15)))) (real.toI64 (real.ofI64 (real.int 3))))))
    (real.getW (us.sched b i) (real.nat (real.subi (real.int i) (real.int 16))))) = us.sched b (i + 1) := by
  rw [subI i 2 (by omega) (by omega), subI i 7 (by omega) (by omega), subI i 15 (by omega) (by omega), subI i 16 (by omega) (by omega), ofI64_3, ofI64_10]
  exact sched_hi b i h h64 _ _ _ _ rfl rfl rfl rfl
theorem rnds_step (ws v : List UInt32) (i : Nat) : u_rnd (u_rnds ws v i) (u_kc.getD i 0) (ws.getD i 0) = u_rnds ws v (i + 1) := rfl
theorem rnds_zero (ws v : List UInt32) : v = u_rnds ws v 0 := rfl
theorem next_eq (s : List UInt32) (b : List UInt8) : u_add (u_rnds (u_sched b 64) s 64) s 8 = u_next s b := rfl
theorem r_sha_first : Ready Try.prog 99 := by unfold Ready; kernel_rfl
noncomputable def sp_sha_first (F : Fs) (U : Us) : Specs := []
theorem ok_sha_first : SpecsOK Try.prog (sp_sha_first real us) := sp_nil
noncomputable def g_sha_first (F : Fs) (U : Us) : Law
  | [] => some (True, [.val (.ag 8 (.wd (U.first)))])
  | _ => none
noncomputable def s_sha_first (F : Fs) (U : Us) : Vc.Spec := pureSpec F false [] (g_sha_first F U)
noncomputable def x_sha_first (F : Fs) (U : Us) : Cx := ⟨Try.f99.ntmps, tt F, sp_sha_first F U, [], [], [], []⟩
theorem c_sha_first  : vc real (x_sha_first real us) [] [] (Try.f99.body.getD .skip) ⟨zipSl 0 [], [], 64⟩ (retOk real (tt real) false Try.f99.results.toList [.val (.ag 8 (.wd (us.first)))]) := by
  generalize hU : us = U
  generalize hF : real = F
  cbv
  subst hF hU
  exact ⟨by decide, trivial⟩
theorem k_sha_first : SpecOK Try.prog 99 (s_sha_first real us) := by
  refine pure_sound (x := x_sha_first real us) ⟨tt_ok, ok_sha_first, Go.Vc.ks_nil⟩ mixed Try.func99 rfl rfl (by kernel_rfl) ?_
  intro l c rs hg hc
  unfold g_sha_first at hg
  split at hg
  · cases hg; exact ⟨Nat.le_of_ble_eq_true rfl, [], [], c_sha_first ⟩
  · cases hg

theorem r_sha_constants : Ready Try.prog 127 := by unfold Ready; kernel_rfl
noncomputable def sp_sha_constants (F : Fs) (U : Us) : Specs := []
theorem ok_sha_constants : SpecsOK Try.prog (sp_sha_constants real us) := sp_nil
noncomputable def g_sha_constants (F : Fs) (U : Us) : Law
  | [] => some (True, [.val (.ag 64 (.wd (U.kc)))])
  | _ => none
noncomputable def s_sha_constants (F : Fs) (U : Us) : Vc.Spec := pureSpec F false [] (g_sha_constants F U)
noncomputable def x_sha_constants (F : Fs) (U : Us) : Cx := ⟨Try.f127.ntmps, tt F, sp_sha_constants F U, [], [], [], []⟩
theorem c_sha_constants  : vc real (x_sha_constants real us) [] [] (Try.f127.body.getD .skip) ⟨zipSl 0 [], [], 64⟩ (retOk real (tt real) false Try.f127.results.toList [.val (.ag 64 (.wd (us.kc)))]) := by
  generalize hU : us = U
  generalize hF : real = F
  cbv
  subst hF hU
  exact ⟨by decide, trivial⟩
theorem k_sha_constants : SpecOK Try.prog 127 (s_sha_constants real us) := by
  refine pure_sound (x := x_sha_constants real us) ⟨tt_ok, ok_sha_constants, Go.Vc.ks_nil⟩ mixed Try.func127 rfl rfl (by kernel_rfl) ?_
  intro l c rs hg hc
  unfold g_sha_constants at hg
  split at hg
  · cases hg; exact ⟨Nat.le_of_ble_eq_true rfl, [], [], c_sha_constants ⟩
  · cases hg

end Go.Proofs.Ytmldccfchnlpgaa
set_option linter.unusedVariables false
set_option linter.unusedSimpArgs false
set_option maxRecDepth 100000
set_option maxHeartbeats 1000000
namespace Go.Proofs.Ytmldccfchnlpgaa
open Go Go.Vc
attribute [local irreducible] u_sched u_rnds u_kc u_add u_blks u_first
theorem r_sha_schedule : Ready Try.prog 126 := by unfold Ready; kernel_rfl
noncomputable def sp_sha_schedule (F : Fs) (U : Us) : Specs := [(141, s_bits_Big F U), (128, s_bits_Rotr F U)]
theorem ok_sha_schedule : SpecsOK Try.prog (sp_sha_schedule real us) := sp_cons r_bits_Big k_bits_Big (sp_cons r_bits_Rotr k_bits_Rotr sp_nil)
noncomputable def an_sha_schedule (F : Fs) (U : Us) (b : List UInt8) : Anns := [(3, ⟨Nat, fun i => i ≤ 64, fun i => F.subn 64 i, fun i => ⟨[(0, .rb 1 (.bt b)), (2, .p 0 0 0), (3, .p 1 0 0), (9, .i (F.int i))], [(2, 0, .bk 172 [(64, .wd (F.repW 64))]), (3, 1, .bk 172 [(64, .wd (U.sched b i))])]⟩⟩)]
noncomputable def g_sha_schedule (F : Fs) (U : Us) : Law
  | [.rb 1 (.bt b)] => some (F.pLe 64 (F.lenB b) ∧ F.pLe (F.lenB b) 1000000000, [.val (.ag 64 (.wd (U.sched b 64)))])
  | _ => none
noncomputable def s_sha_schedule (F : Fs) (U : Us) : Vc.Spec := pureSpec F false [.row .kB] (g_sha_schedule F U)
noncomputable def x_sha_schedule (F : Fs) (U : Us) : Cx := ⟨Try.f126.ntmps, tt F, sp_sha_schedule F U, [], [(7, ([(7, [3])], [])), (10, ([(12, [5])], []))], [], []⟩
theorem c_sha_schedule (b : List UInt8) (hc : real.pLe 64 (real.lenB b) ∧ real.pLe (real.lenB b) 1000000000) : vc real (x_sha_schedule real us) (an_sha_schedule real us b) [] (Try.f126.body.getD .skip) ⟨zipSl 0 [.rb 1 (.bt b)], [], 64⟩ (retOk real (tt real) false Try.f126.results.toList [.val (.ag 64 (.wd (us.sched b 64)))]) := by
  generalize hU : us = U
  generalize hF : real = F
  have hb : 64 ≤ b.length := hc.1
  have hb2 : b.length ≤ 1000000000 := hc.2
  cbv
  repeat' first | apply And.intro | refine Classical.or_iff_not_imp_left.2 (fun _ => ?_) | exact trivial
  all_goals try (subst hF hU; simp only [real, us, Nat.le_eq, Int.cast_ofNat_Int, decide_eq_false_iff_not, decide_eq_true_eq, List.length_take, List.length_drop, List.length_append, List.length_replicate, List.length_set, List.length_cons, List.length_nil, List.length_zipWith] at *; (try simp (disch := omega) only [wrap_sm] at *); omega)
  · refine ⟨(0 : Nat), ?_⟩
    cbv; subst hF hU; simp only [real, us, Nat.le_eq, Int.cast_ofNat_Int, decide_eq_false_iff_not, decide_eq_true_eq] at *
    exact ⟨⟨sched_zero b, trivial⟩, trivial⟩
  · intro (i : Nat) hi
    replace hi : i ≤ 64 := hi
    have hl := sched_len b i
    have hi1 : IntKind.i64.wrap ((i : Int) + 1) = (i : Int) + 1 := wrap_sm (by omega) (by omega)
    cbv
    repeat' first | apply And.intro | refine Classical.or_iff_not_imp_left.2 (fun _ => ?_) | exact trivial
    all_goals try (subst hF hU; simp only [real, us, Nat.le_eq, Int.cast_ofNat_Int, decide_eq_false_iff_not, decide_eq_true_eq, List.length_take, List.length_drop, List.length_append, List.length_replicate, List.length_set, List.length_cons, List.length_nil, List.length_zipWith] at *; (try simp (disch := omega) only [wrap_sm] at *); omega)
    · have h16 := lt_g (j := i) (n := 16) (by subst hF; assumption)
      refine ⟨(i + 1 : Nat), ?_⟩
      cbv; subst hF hU
      exact ⟨by show i + 1 ≤ 64; omega, by show 64 - (i + 1) < 64 - i; omega, ⟨hi1, trivial⟩, ⟨sched_loR b i h16 hb, trivial⟩, trivial⟩
    · have h16 := ge_g (j := i) (n := 16) (by subst hF; assumption)
      have h64 := lt_g (j := i) (n := 64) (by subst hF; assumption)
      refine ⟨(i + 1 : Nat), ?_⟩
      cbv; subst hF hU
      exact ⟨by show i + 1 ≤ 64; omega, by show 64 - (i + 1) < 64 - i; omega, ⟨hi1, trivial⟩, ⟨sched_hiR b i (by omega) h64, trivial⟩, trivial⟩
    · have h64 := ge_g (j := i) (n := 64) (by subst hF; assumption)
      have e : i = 64 := by omega
      subst hF hU e
      rfl
theorem k_sha_schedule : SpecOK Try.prog 126 (s_sha_schedule real us) := by
  refine pure_sound (x := x_sha_schedule real us) ⟨tt_ok, ok_sha_schedule, Go.Vc.ks_nil⟩ mixed Try.func126 rfl rfl (by kernel_rfl) ?_
  intro l c rs hg hc
  unfold g_sha_schedule at hg
  split at hg
  · cases hg; exact ⟨Nat.le_of_ble_eq_true rfl, an_sha_schedule real us _, [], c_sha_schedule _ hc⟩
  · cases hg

theorem r_sha_state_next : Ready Try.prog 101 := by unfold Ready; kernel_rfl
noncomputable def sp_sha_state_next (F : Fs) (U : Us) : Specs := [(126, s_sha_schedule F U), (127, s_sha_constants F U), (128, s_bits_Rotr F U)]
theorem ok_sha_state_next : SpecsOK Try.prog (sp_sha_state_next real us) := sp_cons r_sha_schedule k_sha_schedule (sp_cons r_sha_constants k_sha_constants (sp_cons r_bits_Rotr k_bits_Rotr sp_nil))
noncomputable def an_sha_state_next (F : Fs) (U : Us) (s : List UInt32) (b : List UInt8) : Anns := [(4, ⟨Nat, fun i => i ≤ 64, fun i => F.subn 64 i, fun i => ⟨[(2, .p 0 0 0), (4, .p 1 0 0), (5, .p 2 0 0), (6, .p 3 0 0), (7, .p 4 0 0), (20, .i (F.int i))], [(2, 0, .bk 138 [(8, .wd s)]), (4, 1, .bk 138 [(8, .wd (F.repW 8))]), (5, 2, .bk 172 [(64, .wd (U.sched b 64))]), (6, 3, .bk 172 [(64, .wd (U.kc))]), (7, 4, .bk 138 [(8, .wd (U.rnds (U.sched b 64) s i))])]⟩⟩),
  (14, ⟨Nat, fun i => i ≤ 8, fun i => F.subn 8 i, fun i => ⟨[(2, .p 0 0 0), (4, .p 1 0 0), (7, .p 4 0 0), (102, .i (F.int i))], [(2, 0, .bk 138 [(8, .wd s)]), (4, 1, .bk 138 [(8, .wd (F.repW 8))]), (7, 4, .bk 138 [(8, .wd (U.add (U.rnds (U.sched b 64) s 64) s i))])]⟩⟩)]
noncomputable def g_sha_state_next (F : Fs) (U : Us) : Law
  | [.ag 8 (.wd s), .rb 1 (.bt b)] => some (U.isW s 8 ∧ F.pLe 64 (F.lenB b) ∧ F.pLe (F.lenB b) 1000000000, [.val (.ag 8 (.wd (U.next s b)))])
  | _ => none
noncomputable def s_sha_state_next (F : Fs) (U : Us) : Vc.Spec := pureSpec F false [.keep, .row .kB] (g_sha_state_next F U)
noncomputable def x_sha_state_next (F : Fs) (U : Us) : Cx := ⟨Try.f101.ntmps, tt F, sp_sha_state_next F U, [], [(6, ([(3, [1])], [])), (8, ([(6, [1]), (11, [1, 6]), (17, [1, 6, 11]), (21, [1, 6, 11, 17])], [])), (16, ([(5, [2])], []))], [], []⟩
theorem c_sha_state_next (s : List UInt32) (b : List UInt8) (hc : us.isW s 8 ∧ real.pLe 64 (real.lenB b) ∧ real.pLe (real.lenB b) 1000000000) : vc real (x_sha_state_next real us) (an_sha_state_next real us s b) [] (Try.f101.body.getD .skip) ⟨zipSl 0 [.ag 8 (.wd s), .rb 1 (.bt b)], [], 64⟩ (retOk real (tt real) false Try.f101.results.toList [.val (.ag 8 (.wd (us.next s b)))]) := by
  generalize hU : us = U
  generalize hF : real = F
  have hs : s.length = 8 := hc.1
  have hb : 64 ≤ b.length := hc.2.1
  have hb2 : b.length ≤ 1000000000 := hc.2.2
  cbv
  repeat' first | apply And.intro | refine Classical.or_iff_not_imp_left.2 (fun _ => ?_) | exact trivial
  all_goals try (subst hF hU; simp only [real, us, Nat.le_eq, Int.cast_ofNat_Int, decide_eq_false_iff_not, decide_eq_true_eq, List.length_take, List.length_drop, List.length_append, List.length_replicate, List.length_set, List.length_cons, List.length_nil, List.length_zipWith] at *; (try simp (disch := omega) only [wrap_sm] at *); omega)
  · refine ⟨(0 : Nat), ?_⟩
    cbv; subst hF hU; simp only [real, us, Nat.le_eq, Int.cast_ofNat_Int, decide_eq_false_iff_not, decide_eq_true_eq] at *
    exact ⟨⟨rnds_zero _ _, trivial⟩, trivial⟩
  · intro (i : Nat) hi
    replace hi : i ≤ 64 := hi
    have hl := rnds_len (u_sched b 64) s hs i
    have hl2 := sched_len b 64
    have hl3 := kc_len
    have hi1 : IntKind.i64.wrap ((i : Int) + 1) = (i : Int) + 1 := wrap_sm (by omega) (by omega)
    cbv
    repeat' first | apply And.intro | refine Classical.or_iff_not_imp_left.2 (fun _ => ?_) | exact trivial
    all_goals try (subst hF hU; simp only [real, us, Nat.le_eq, Int.cast_ofNat_Int, decide_eq_false_iff_not, decide_eq_true_eq, List.length_take, List.length_drop, List.length_append, List.length_replicate, List.length_set, List.length_cons, List.length_nil, List.length_zipWith] at *; (try simp (disch := omega) only [wrap_sm] at *); omega)
    · have h64 := lt_g (j := i) (n := 64) (by subst hF; assumption)
      refine ⟨(i + 1 : Nat), ?_⟩
      cbv; subst hF hU
      exact ⟨by show i + 1 ≤ 64; omega, by show 64 - (i + 1) < 64 - i; omega, ⟨hi1, trivial⟩, ⟨rnds_step _ _ i, trivial⟩, trivial⟩
    · have h64 := ge_g (j := i) (n := 64) (by subst hF; assumption)
      have e : i = 64 := by omega
      refine ⟨(0 : Nat), ?_⟩
      cbv; subst hF hU e
      exact ⟨⟨add_zero _ _, trivial⟩, trivial⟩
    · intro (j : Nat) hj
      replace hj : j ≤ 8 := hj
      have hr := rnds_len (u_sched b 64) s hs 64
      have ha := add_len (u_rnds (u_sched b 64) s 64) s hr hs j hj
      have hj1 : IntKind.i64.wrap ((j : Int) + 1) = (j : Int) + 1 := wrap_sm (by omega) (by omega)
      cbv
      repeat' first | apply And.intro | refine Classical.or_iff_not_imp_left.2 (fun _ => ?_) | exact trivial
      all_goals try (subst hF hU; simp only [real, us, Nat.le_eq, Int.cast_ofNat_Int, decide_eq_false_iff_not, decide_eq_true_eq, List.length_take, List.length_drop, List.length_append, List.length_replicate, List.length_set, List.length_cons, List.length_nil, List.length_zipWith] at *; (try simp (disch := omega) only [wrap_sm] at *); omega)
      · have h8 := lt_g (j := j) (n := 8) (by subst hF; assumption)
        refine ⟨(j + 1 : Nat), ?_⟩
        cbv; subst hF hU
        exact ⟨by show j + 1 ≤ 8; omega, by show 8 - (j + 1) < 8 - j; omega, ⟨hj1, trivial⟩, ⟨add_step _ s hr hs j h8, trivial⟩, trivial⟩
      · have h8 := ge_g (j := j) (n := 8) (by subst hF; assumption)
        have e : j = 8 := by omega
        subst hF hU e
        exact next_eq s b
theorem k_sha_state_next : SpecOK Try.prog 101 (s_sha_state_next real us) := by
  refine pure_sound (x := x_sha_state_next real us) ⟨tt_ok, ok_sha_state_next, Go.Vc.ks_nil⟩ mixed Try.func101 rfl rfl (by kernel_rfl) ?_
  intro l c rs hg hc
  unfold g_sha_state_next at hg
  split at hg
  · cases hg; exact ⟨Nat.le_of_ble_eq_true rfl, an_sha_state_next real us _ _, [], c_sha_state_next _ _ hc⟩
  · cases hg

end Go.Proofs.Ytmldccfchnlpgaa
set_option linter.unusedVariables false
set_option linter.unusedSimpArgs false
set_option maxRecDepth 100000
set_option maxHeartbeats 1000000
namespace Go.Proofs.Ytmldccfchnlpgaa
open Go Go.Vc
theorem add_comm8 (v s : List UInt32) (hv : v.length = 8) (hs : s.length = 8) : u_add v s 8 = u_add s v 8 := by
  unfold u_add
  have h : List.zipWith (· + ·) v s = List.zipWith (· + ·) s v := by
    rw [List.zipWith_comm]
    congr 1
    funext a b
    exact UInt32.add_comm b a
  rw [h, List.drop_of_length_le (by omega), List.drop_of_length_le (by omega)]
theorem next_len (s : List UInt32) (b : List UInt8) (hs : s.length = 8) : (u_next s b).length = 8 := add_len _ s (rnds_len _ s hs 64) hs 8 (Nat.le_refl _)
theorem blks_len (s : List UInt32) (b : List UInt8) (hs : s.length = 8) : ∀ n, (u_blks s b n).length = 8
  | 0 => hs
  | n + 1 => next_len _ _ (blks_len s b hs n)
theorem sched_take (b : List UInt8) (h : 64 ≤ b.length) : ∀ i, u_sched (b.take 64) i = u_sched b i
  | 0 => rfl
  | i + 1 => by
    rw [u_sched, u_sched, sched_take b h i]
    by_cases h16 : i < 16
    · rw [if_pos h16, if_pos h16]
      have hl : (List.drop (4 * i) (List.take 64 b)).take 4 = (List.drop (4 * i) b).take 4 := by
        apply List.ext_getElem?
        intro j
        rw [List.getElem?_take, List.getElem?_take]
        split
        · rw [List.getElem?_drop, List.getElem?_drop, List.getElem?_take, if_pos (by omega)]
        · rfl
      have e : u_big (List.drop (4 * i) (List.take 64 b)) = u_big (List.drop (4 * i) b) := by
        rw [← big_take (List.drop (4 * i) (List.take 64 b)), ← big_take (List.drop (4 * i) b), hl]
      rw [e]
    · rw [if_neg h16, if_neg h16]
theorem next_take (s : List UInt32) (b : List UInt8) (h : 64 ≤ b.length) : u_next s (b.take 64) = u_next s b := by
  unfold u_next
  rw [sched_take b h]
theorem blks_step (s : List UInt32) (x : List UInt8) (j : Nat) (h : j < u_nblk x) : u_next (u_blks s x j) (List.take 64 (List.drop 0 (List.take (x.length - 64 * j) (List.drop (64 * j) x)))) = u_blks s x (j + 1) := by
  unfold u_nblk at h
  have e : List.take (x.length - 64 * j) (List.drop (64 * j) x) = List.drop (64 * j) x := List.take_of_length_le (by rw [List.length_drop]; omega)
  rw [List.drop_zero, e, next_take _ _ (by rw [List.length_drop]; omega)]
  rfl
theorem rest_step (x : List UInt8) (j : Nat) (h : j < u_nblk x) : List.take ((List.take (x.length - 64 * j) (List.drop (64 * j) x)).length - 64) (List.drop 64 (List.take (x.length - 64 * j) (List.drop (64 * j) x))) = List.take (x.length - 64 * (j + 1)) (List.drop (64 * (j + 1)) x) := by
  unfold u_nblk at h
  have e : List.take (x.length - 64 * j) (List.drop (64 * j) x) = List.drop (64 * j) x := List.take_of_length_le (by rw [List.length_drop]; omega)
  rw [e, List.drop_drop, List.length_drop, show 64 * j + 64 = 64 * (j + 1) by omega, show x.length - 64 * j - 64 = x.length - 64 * (j + 1) by omega]
theorem blks_zero (s : List UInt32) (x : List UInt8) : s = u_blks s x 0 := rfl
theorem rest_zero (x : List UInt8) : x = List.take (x.length - 64 * 0) (List.drop (64 * 0) x) := by simp
theorem nblk_lt {x : List UInt8} {j : Nat} (hj : j ≤ u_nblk x) (h : 64 ≤ (List.take (x.length - 64 * j) (List.drop (64 * j) x)).length) : j < u_nblk x := by
  unfold u_nblk at *
  rw [List.length_take, List.length_drop] at h
  omega
theorem nblk_eq {x : List UInt8} {j : Nat} (hj : j ≤ u_nblk x) (h : (List.take (x.length - 64 * j) (List.drop (64 * j) x)).length < 64) : j = u_nblk x := by
  unfold u_nblk at *
  rw [List.length_take, List.length_drop] at h
  omega
theorem ws_end (s : List UInt32) (r b : List UInt8) : u_blks s (r ++ b) (u_nblk (r ++ b)) = u_ws s r b := rfl
theorem wr_end (r b : List UInt8) : List.take ((r ++ b).length - 64 * u_nblk (r ++ b)) (List.drop (64 * u_nblk (r ++ b)) (r ++ b)) = u_wr r b := by
  rw [List.take_of_length_le (by rw [List.length_drop]; omega)]
  rfl
theorem r_slices_Clip : Ready Try.prog 100 := by unfold Ready; kernel_rfl
noncomputable def sp_slices_Clip (F : Fs) (U : Us) : Specs := []
theorem ok_slices_Clip : SpecsOK Try.prog (sp_slices_Clip real us) := sp_nil
noncomputable def g_slices_Clip (F : Fs) (U : Us) : HLaw := fun l mm => match l, mm with
  | [.rw 0], [.row T0 e0 (.bt xs)] => match Nat.beq T0 5, Nat.beq e0 1 with
    | true, true => some (F.pLe (F.lenB xs) 1000000000, [.val (.cl 0)], [none])
    | _, _ => none
  | _, _ => none
noncomputable def s_slices_Clip (F : Fs) (U : Us) : Vc.Spec := hSpec 1 (g_slices_Clip F U)
noncomputable def x_slices_Clip (F : Fs) (U : Us) : Cx := ⟨Try.f100.ntmps, tt F, sp_slices_Clip F U, [], [], [0], []⟩
theorem c_slices_Clip (xs : List UInt8) (hc : real.pLe (real.lenB xs) 1000000000) : vc real (x_slices_Clip real us) [] [] (Try.f100.body.getD .skip) ⟨zipSl 0 [.rw 0], zipMe 0 [.row 5 1 (.bt xs)], 64⟩ (retHOk real (tt real) Try.f100.results.toList [.row 5 1 (.bt xs)] [.val (.cl 0)] [none]) := by
  generalize hU : us = U
  generalize hF : real = F
  have h : xs.length ≤ 1000000000 := hc
  cbv
  repeat' first | apply And.intro | refine Classical.or_iff_not_imp_left.2 (fun _ => ?_) | exact trivial
  all_goals try (subst hF hU; simp only [real, us, Nat.le_eq, Int.cast_ofNat_Int, decide_eq_false_iff_not, decide_eq_true_eq, List.length_take, List.length_drop, List.length_append, List.length_replicate, List.length_set, List.length_cons, List.length_nil, List.length_zipWith] at *; (try simp (disch := omega) only [wrap_sm] at *); omega)
theorem k_slices_Clip : SpecOK Try.prog 100 (s_slices_Clip real us) := by
  refine h_sound (x := x_slices_Clip real us) ⟨tt_ok, ok_slices_Clip, Go.Vc.ks_nil⟩ mixed Try.func100 rfl rfl (by kernel_rfl) (by decide) (fun j hj => by simp [x_slices_Clip]; omega) ?_
  intro l mm c rs ch hg hl hc
  unfold g_slices_Clip at hg
  split at hg
  · split at hg
    · rename_i h0 h1
      have z0 := beq_nat h0
      have z1 := beq_nat h1
      subst z0
      subst z1
      cases hg
      exact ⟨Nat.le_of_ble_eq_true rfl, [], [], c_slices_Clip _ hc⟩
    · cases hg
  · cases hg

theorem r_slices_Clone : Ready Try.prog 104 := by unfold Ready; kernel_rfl
noncomputable def sp_slices_Clone (F : Fs) (U : Us) : Specs := []
theorem ok_slices_Clone : SpecsOK Try.prog (sp_slices_Clone real us) := sp_nil
noncomputable def g_slices_Clone (F : Fs) (U : Us) : Law
  | [.rb 1 (.bt xs)] => some (F.pLe (F.lenB xs) 1000000000, [.row 5 1 (.bt xs)])
  | _ => none
noncomputable def s_slices_Clone (F : Fs) (U : Us) : Vc.Spec := pureSpec F false [.row .kB] (g_slices_Clone F U)
noncomputable def x_slices_Clone (F : Fs) (U : Us) : Cx := ⟨Try.f104.ntmps, tt F, sp_slices_Clone F U, [], [], [], []⟩
theorem c_slices_Clone (xs : List UInt8) (hc : real.pLe (real.lenB xs) 1000000000) : vc real (x_slices_Clone real us) [] [] (Try.f104.body.getD .skip) ⟨zipSl 0 [.rb 1 (.bt xs)], [], 64⟩ (retOk real (tt real) false Try.f104.results.toList [.row 5 1 (.bt xs)]) := by
  generalize hU : us = U
  generalize hF : real = F
  have h : xs.length ≤ 1000000000 := hc
  cbv
  intro (z : Bool) (hz : z = true → xs = [])
  cbv
  repeat' first | apply And.intro | refine Classical.or_iff_not_imp_left.2 (fun _ => ?_) | exact trivial
  all_goals try (subst hF hU; simp only [real, us, Nat.le_eq, Int.cast_ofNat_Int, decide_eq_false_iff_not, decide_eq_true_eq, List.length_take, List.length_drop, List.length_append, List.length_replicate, List.length_set, List.length_cons, List.length_nil, List.length_zipWith] at *; (try simp (disch := omega) only [wrap_sm] at *); omega)
  · rename_i hh
    subst hF
    exact hz (by simpa [real] using hh)
  · subst hF; rfl
theorem k_slices_Clone : SpecOK Try.prog 104 (s_slices_Clone real us) := by
  refine pure_sound (x := x_slices_Clone real us) ⟨tt_ok, ok_slices_Clone, Go.Vc.ks_nil⟩ mixed Try.func104 rfl rfl (by kernel_rfl) ?_
  intro l c rs hg hc
  unfold g_slices_Clone at hg
  split at hg
  · cases hg; exact ⟨Nat.le_of_ble_eq_true rfl, [], [], c_slices_Clone _ hc⟩
  · cases hg

theorem r_sha_New : Ready Try.prog 43 := by unfold Ready; kernel_rfl
noncomputable def sp_sha_New (F : Fs) (U : Us) : Specs := [(99, s_sha_first F U)]
theorem ok_sha_New : SpecsOK Try.prog (sp_sha_New real us) := sp_cons r_sha_first k_sha_first sp_nil
noncomputable def g_sha_New (F : Fs) (U : Us) : GLaw := fun l mm => match l, mm with
  | [], [] => some ⟨True, [.p 0 0 0], [], [.bk 141 [(8, .wd (U.first)), (1, .vs [.rw 1]), (1, .vs [.i 0])], .row 5 1 (.bt [])]⟩
  | _, _ => none
noncomputable def s_sha_New (F : Fs) (U : Us) : Vc.Spec := gSpec 0 2 (g_sha_New F U)
noncomputable def x_sha_New (F : Fs) (U : Us) : Cx := ⟨Try.f43.ntmps, tt F, sp_sha_New F U, [], [], [], []⟩
theorem c_sha_New  : vc real (x_sha_New real us) [] [] (Try.f43.body.getD .skip) ⟨zipSl 0 [], zipMe 0 [], 64⟩ (retGOk real (tt real) Try.f43.results.toList [.p 0 0 0] [] [.bk 141 [(8, .wd (us.first)), (1, .vs [.rw 1]), (1, .vs [.i 0])], .row 5 1 (.bt [])]) := by
  generalize hU : us = U
  generalize hF : real = F
  cbv
  repeat' first | apply And.intro | refine Classical.or_iff_not_imp_left.2 (fun _ => ?_) | exact trivial
  all_goals try (subst hF hU; simp only [real, us, Nat.le_eq, Int.cast_ofNat_Int, decide_eq_false_iff_not, decide_eq_true_eq, List.length_take, List.length_drop, List.length_append, List.length_replicate, List.length_set, List.length_cons, List.length_nil, List.length_zipWith] at *; (try simp (disch := omega) only [wrap_sm] at *); omega)
theorem k_sha_New : SpecOK Try.prog 43 (s_sha_New real us) := by
  refine g_sound (n := 0) (q := 2) (x := x_sha_New real us) ⟨tt_ok, ok_sha_New, Go.Vc.ks_nil⟩ mixed Try.func43 rfl rfl (by kernel_rfl) (by decide) (fun j hj => by omega) ?_
  intro l mm c rs ch news hg hl hc
  unfold g_sha_New at hg
  split at hg
  · cases hg
    exact ⟨Nat.le_of_ble_eq_true rfl, [], [], c_sha_New ⟩
  · cases hg

end Go.Proofs.Ytmldccfchnlpgaa
set_option linter.unusedVariables false
set_option linter.unusedSimpArgs false
set_option maxRecDepth 100000
set_option maxHeartbeats 1000000
namespace Go.Proofs.Ytmldccfchnlpgaa
open Go Go.Vc
attribute [local irreducible] u_sched u_rnds u_kc u_add u_blks u_first u_next
noncomputable def sp_sha_Hash_Write_b (F : Fs) (U : Us) : Specs := [(100, s_slices_Clip F U), (101, s_sha_state_next F U)]
theorem ok_sha_Hash_Write_b : SpecsOK Try.prog (sp_sha_Hash_Write_b real us) := sp_cons r_slices_Clip k_slices_Clip (sp_cons r_sha_state_next k_sha_state_next sp_nil)
noncomputable def an_sha_Hash_Write_b (F : Fs) (U : Us) (b r : List UInt8) (s : List UInt32) (n : Int) : Anns := [(2, ⟨Nat, fun j => j ≤ U.nblk (F.appB r b), fun j => F.subn (U.nblk (F.appB r b)) j, fun j => ⟨[(0, .p 0 0 0)], [(0, 0, .bk 141 [(8, .wd (U.blks s (F.appB r b) j)), (1, .vs [.rw 5]), (1, .vs [.i (F.addi n (F.int (F.lenB b)))])]), (999, 5, .row 5 1 (.bt (F.cutB (F.appB r b) (F.muln 64 j) (F.subn (F.lenB (F.appB r b)) (F.muln 64 j)))))]⟩⟩)]
noncomputable def g_sha_Hash_Write_b (F : Fs) (U : Us) : GLaw := fun l mm => match l, mm with
  | [.p 0 0 0, .rb 1 (.bt b)], [.bk T1 [(n2, .wd s), (n3, .vs [.rw 1]), (n4, .vs [.i n])], .row T0 e0 (.bt r)] => match Nat.beq T0 5, Nat.beq e0 1, Nat.beq T1 141, Nat.beq n2 8, Nat.beq n3 1, Nat.beq n4 1 with
    | true, true, true, true, true, true => some ⟨U.isW s 8 ∧ F.pLe (F.lenB b) 100000000 ∧ F.pLe (F.lenB r) 100000000 ∧ F.p0 n ∧ F.pLeI n (F.int 1000000000), [], [.bk 141 [(8, .wd (U.ws s r b)), (1, .vs [.rw 2]), (1, .vs [.i (F.addi n (F.int (F.lenB b)))])], .dead], [.row 5 1 (.bt (U.wr r b))]⟩
    | _, _, _, _, _, _ => none
  | _, _ => none
noncomputable def s_sha_Hash_Write_b (F : Fs) (U : Us) : Vc.Spec := gSpec 2 1 (g_sha_Hash_Write_b F U)
noncomputable def x_sha_Hash_Write_b (F : Fs) (U : Us) : Cx := ⟨Try.f44.ntmps, tt F, sp_sha_Hash_Write_b F U, [], [(3, ([(8, [4]), (9, [4])], []))], [0, 1], []⟩
theorem c_sha_Hash_Write_b (b r : List UInt8) (s : List UInt32) (n : Int) (hc : us.isW s 8 ∧ real.pLe (real.lenB b) 100000000 ∧ real.pLe (real.lenB r) 100000000 ∧ real.p0 n ∧ real.pLeI n (real.int 1000000000)) : vc real (x_sha_Hash_Write_b real us) (an_sha_Hash_Write_b real us b r s n) [] (Try.f44.body.getD .skip) ⟨zipSl 0 [.p 0 0 0, .rb 1 (.bt b)], zipMe 0 [.bk 141 [(8, .wd s), (1, .vs [.rw 1]), (1, .vs [.i n])], .row 5 1 (.bt r)], 64⟩ (retGOk real (tt real) Try.f44.results.toList [] [.bk 141 [(8, .wd (us.ws s r b)), (1, .vs [.rw 2]), (1, .vs [.i (real.addi n (real.int (real.lenB b)))])], .dead] [.row 5 1 (.bt (us.wr r b))]) := by
  generalize hU : us = U
  generalize hF : real = F
  have hs : s.length = 8 := hc.1
  have hb : b.length ≤ 100000000 := hc.2.1
  have hr : r.length ≤ 100000000 := hc.2.2.1
  have hn : 0 ≤ n := hc.2.2.2.1
  have hn2 : n ≤ 1000000000 := hc.2.2.2.2
  cbv
  repeat' first | apply And.intro | refine Classical.or_iff_not_imp_left.2 (fun _ => ?_) | exact trivial
  all_goals try (subst hF hU; simp only [real, us, Nat.le_eq, Int.cast_ofNat_Int, decide_eq_false_iff_not, decide_eq_true_eq, List.length_take, List.length_drop, List.length_append, List.length_replicate, List.length_set, List.length_cons, List.length_nil, List.length_zipWith] at *; (try simp (disch := omega) only [wrap_sm] at *); omega)
  · refine ⟨(0 : Nat), ?_⟩
    cbv; subst hF hU
    exact ⟨Nat.zero_le _, ⟨blks_zero s _, trivial⟩, rest_zero _, trivial⟩
  · intro (j : Nat) hj
    have hj2 : j ≤ u_nblk (r ++ b) := by subst hF hU; exact hj
    clear hj
    have hbl := blks_len s (r ++ b) hs j
    have hlen : (r ++ b).length ≤ 200000000 := by rw [List.length_append]; omega
    cbv
    repeat' first | apply And.intro | refine Classical.or_iff_not_imp_left.2 (fun _ => ?_) | exact trivial
    all_goals try (subst hF hU; simp only [real, us, Nat.le_eq, Int.cast_ofNat_Int, decide_eq_false_iff_not, decide_eq_true_eq, List.length_take, List.length_drop, List.length_append, List.length_replicate, List.length_set, List.length_cons, List.length_nil, List.length_zipWith] at *; (try simp (disch := omega) only [wrap_sm] at *); omega)
    · subst hU hF; exact hbl
    · refine ⟨(j + 1 : Nat), ?_⟩
      cbv; subst hF hU
      rename_i hg
      have hlt : j < u_nblk (r ++ b) := nblk_lt hj2 (le_g hg)
      exact ⟨hlt, by show u_nblk (r ++ b) - (j + 1) < u_nblk (r ++ b) - j; omega, ⟨blks_step s _ j hlt, trivial⟩, rest_step _ j hlt, trivial⟩
    · subst hF hU
      rename_i hg
      have e : j = u_nblk (r ++ b) := nblk_eq hj2 (gt_g hg)
      rw [e]
      exact ws_end s r b
    · subst hF hU
      rename_i hg
      have e : j = u_nblk (r ++ b) := nblk_eq hj2 (gt_g hg)
      rw [e]
      exact wr_end r b
theorem k_sha_Hash_Write_b : SpecOK Try.prog 44 (s_sha_Hash_Write_b real us) := by
  refine g_sound (n := 2) (q := 1) (x := x_sha_Hash_Write_b real us) ⟨tt_ok, ok_sha_Hash_Write_b, Go.Vc.ks_nil⟩ mixed Try.func44 rfl rfl (by kernel_rfl) (by decide) (fun j hj => by simp [x_sha_Hash_Write_b]; omega) ?_
  intro l mm c rs ch news hg hl hc
  unfold g_sha_Hash_Write_b at hg
  split at hg
  · split at hg
    · rename_i h0 h1 h2 h3 h4 h5
      have z0 := beq_nat h0
      have z1 := beq_nat h1
      have z2 := beq_nat h2
      have z3 := beq_nat h3
      have z4 := beq_nat h4
      have z5 := beq_nat h5
      subst z0
      subst z1
      subst z2
      subst z3
      subst z4
      subst z5
      cases hg
      exact ⟨Nat.le_of_ble_eq_true rfl, an_sha_Hash_Write_b real us _ _ _ _, [], c_sha_Hash_Write_b _ _ _ _ hc⟩
    · cases hg
  · cases hg

end Go.Proofs.Ytmldccfchnlpgaa
set_option linter.unusedVariables false
set_option linter.unusedSimpArgs false
set_option maxRecDepth 100000
set_option maxHeartbeats 1000000
namespace Go.Proofs.Ytmldccfchnlpgaa
open Go Go.Vc
attribute [local irreducible] u_sched u_rnds u_kc u_add u_blks u_first u_next
noncomputable def s_sha_Hash_Write (F : Fs) (U : Us) : Vc.Spec := rbSpec F [.keep, .row (.kB)] (s_sha_Hash_Write_b F U)
theorem r_sha_Hash_Write : Ready Try.prog 44 := by unfold Ready; kernel_rfl
theorem k_sha_Hash_Write : SpecOK Try.prog 44 (s_sha_Hash_Write real us) := rb_ok k_sha_Hash_Write_b
noncomputable def sp_sha_Hash_Len (F : Fs) (U : Us) : Specs := []
noncomputable def g_sha_Hash_Len (F : Fs) (U : Us) : HLaw := fun l mm => match l, mm with
  | [.p 0 0 0], [.bk T1 [(n2, .wd s), (n3, .vs [.rw 1]), (n4, .vs [.i n])], .row T0 e0 (.bt r)] => match Nat.beq T0 5, Nat.beq e0 1, Nat.beq T1 141, Nat.beq n2 8, Nat.beq n3 1, Nat.beq n4 1 with
    | true, true, true, true, true, true => some (True, [.val (.i n)], [none, none])
    | _, _, _, _, _, _ => none
  | _, _ => none
noncomputable def s_sha_Hash_Len (F : Fs) (U : Us) : Vc.Spec := hSpec 2 (g_sha_Hash_Len F U)
noncomputable def x_sha_Hash_Len (F : Fs) (U : Us) : Cx := ⟨Try.f46.ntmps, tt F, sp_sha_Hash_Len F U, [], [], [0, 1], []⟩
noncomputable def sp_sha_Hash_Copy (F : Fs) (U : Us) : Specs := [(104, s_slices_Clone F U)]
noncomputable def g_sha_Hash_Copy (F : Fs) (U : Us) : GLaw := fun l mm => match l, mm with
  | [.p 0 0 0], [.bk T1 [(n2, .wd s), (n3, .vs [.rw 1]), (n4, .vs [.i n])], .row T0 e0 (.bt r)] => match Nat.beq T0 5, Nat.beq e0 1, Nat.beq T1 141, Nat.beq n2 8, Nat.beq n3 1, Nat.beq n4 1 with
    | true, true, true, true, true, true => some ⟨F.pLe (F.lenB r) 100000000, [.p 2 0 0], [.bk 141 [(8, .wd s), (1, .vs [.rw 1]), (1, .vs [.i n])], .row 5 1 (.bt r)], [.bk 141 [(8, .wd s), (1, .vs [.rw 3]), (1, .vs [.i n])], .row 5 1 (.bt r)]⟩
    | _, _, _, _, _, _ => none
  | _, _ => none
noncomputable def s_sha_Hash_Copy (F : Fs) (U : Us) : Vc.Spec := gSpec 2 2 (g_sha_Hash_Copy F U)
noncomputable def x_sha_Hash_Copy (F : Fs) (U : Us) : Cx := ⟨Try.f47.ntmps, tt F, sp_sha_Hash_Copy F U, [], [(1, ([(7, [3]), (8, [3]), (12, [3, 7, 8])], []))], [0, 1], []⟩
end Go.Proofs.Ytmldccfchnlpgaa
set_option linter.unusedVariables false
set_option linter.unusedSimpArgs false
set_option maxRecDepth 100000
set_option maxHeartbeats 1000000
namespace Go.Proofs.Ytmldccfchnlpgaa
open Go Go.Vc
theorem padP_len (r : List UInt8) (j : Nat) : (u_padP r j).length = r.length + 1 + j := by simp [u_padP]; omega
theorem padP_zero (r : List UInt8) : r ++ [real.ofI8 (real.int 128)] = u_padP r 0 := by
  have e : real.ofI8 (real.int 128) = 128 := by decide
  rw [e]; simp [u_padP]
theorem padP_step (r : List UInt8) (j : Nat) : u_padP r j ++ [real.ofI8 (real.int 0)] = u_padP r (j + 1) := by
  have e : real.ofI8 (real.int 0) = 0 := by decide
  rw [e]
  simp only [u_padP, List.append_assoc]
  rw [← List.replicate_succ']
theorem putK_len8 (x : UInt64) : ∀ k, (putK x k).length = k
  | 0 => rfl
  | k + 1 => by simp [putK, putK_len8 x k]
theorem pad_len (r : List UInt8) (n : Int) : (u_pad r n).length = r.length + 1 + u_padZ r + 8 := by
  simp only [u_pad, List.length_append, padP_len, putK_len8]
theorem pad_mod (r : List UInt8) (n : Int) : (u_pad r n).length % 64 = 0 := by
  rw [pad_len]; unfold u_padZ; omega
theorem pad_end (r : List UInt8) (n : Int) : u_padP r (u_padZ r) ++ us.put (real.mul64 (real.ofI64 n) (real.ofI64 (real.int 8))) (real.int 8) = u_pad r n := rfl
theorem rem64 (a : Nat) : real.remi (real.int a) (real.int 64) = ((a % 64 : Nat) : Int) := rfl
theorem pad_go {r : List UInt8} {j : Nat} (hj : j ≤ u_padZ r) (h : ¬ real.pB (real.notb (real.eqi (real.remi (real.int (real.lenB (u_padP r j))) (real.int 64)) (real.int 56))) false) : j < u_padZ r := by
  have h1 : ¬ ((u_padP r j).length % 64 = 56) := by
    intro e
    apply h
    show (!(real.eqi (real.remi (real.int (u_padP r j).length) (real.int 64)) (real.int 56))) = false
    rw [rem64, e]
    rfl
  rw [padP_len] at h1
  unfold u_padZ at *
  omega
theorem pad_stop {r : List UInt8} {j : Nat} (hj : j ≤ u_padZ r) (h : ¬ real.pB (real.notb (real.eqi (real.remi (real.int (real.lenB (u_padP r j))) (real.int 64)) (real.int 56))) true) : j = u_padZ r := by
  have h1 : (u_padP r j).length % 64 = 56 := by
    by_cases e : (u_padP r j).length % 64 = 56
    · exact e
    · exfalso
      apply h
      show (!((((u_padP r j).length % 64 : Nat) : Int) == 56)) = true
      simp only [Bool.not_eq_true', beq_eq_false_iff_ne, ne_eq]
      omega
  rw [padP_len] at h1
  unfold u_padZ at *
  omega
end Go.Proofs.Ytmldccfchnlpgaa
namespace Go.Proofs.Ytmldccfchnlpgaa
open Go Go.Vc
attribute [local irreducible] u_sched u_rnds u_kc u_add u_blks u_first u_next u_padZ u_padP u_pad
theorem r_sha_Hash_padded : Ready Try.prog 102 := by unfold Ready; kernel_rfl
noncomputable def sp_sha_Hash_padded (F : Fs) (U : Us) : Specs := [(104, s_slices_Clone F U), (106, s_bits_Put F U)]
theorem ok_sha_Hash_padded : SpecsOK Try.prog (sp_sha_Hash_padded real us) := sp_cons r_slices_Clone k_slices_Clone (sp_cons r_bits_Put k_bits_Put sp_nil)
noncomputable def an_sha_Hash_padded (F : Fs) (U : Us) (r : List UInt8) (s : List UInt32) (n : Int) : Anns := [(2, ⟨Nat, fun j => j ≤ U.padZ r, fun j => F.subn (U.padZ r) j, fun j => ⟨[(0, .p 0 0 0), (3, .rw 5)], [(999, 0, .bk 141 [(8, .wd s), (1, .vs [.rw 1]), (1, .vs [.i n])]), (999, 1, .row 5 1 (.bt r)), (3, 5, .row 5 1 (.bt (U.padP r j)))]⟩⟩)]
noncomputable def g_sha_Hash_padded (F : Fs) (U : Us) : HLaw := fun l mm => match l, mm with
  | [.p 0 0 0], [.bk T1 [(n2, .wd s), (n3, .vs [.rw 1]), (n4, .vs [.i n])], .row T0 e0 (.bt r)] => match Nat.beq T0 5, Nat.beq e0 1, Nat.beq T1 141, Nat.beq n2 8, Nat.beq n3 1, Nat.beq n4 1 with
    | true, true, true, true, true, true => some (F.pLe (F.lenB r) 900000, [.row 5 1 (.bt (U.pad r n))], [none, none])
    | _, _, _, _, _, _ => none
  | _, _ => none
noncomputable def s_sha_Hash_padded (F : Fs) (U : Us) : Vc.Spec := hSpec 2 (g_sha_Hash_padded F U)
noncomputable def x_sha_Hash_padded (F : Fs) (U : Us) : Cx := ⟨Try.f102.ntmps, tt F, sp_sha_Hash_padded F U, [], [], [0, 1], []⟩
theorem c_sha_Hash_padded (r : List UInt8) (s : List UInt32) (n : Int) (hc : real.pLe (real.lenB r) 900000) : vc real (x_sha_Hash_padded real us) (an_sha_Hash_padded real us r s n) [] (Try.f102.body.getD .skip) ⟨zipSl 0 [.p 0 0 0], zipMe 0 [.bk 141 [(8, .wd s), (1, .vs [.rw 1]), (1, .vs [.i n])], .row 5 1 (.bt r)], 64⟩ (retHOk real (tt real) Try.f102.results.toList [.bk 141 [(8, .wd s), (1, .vs [.rw 1]), (1, .vs [.i n])], .row 5 1 (.bt r)] [.row 5 1 (.bt (us.pad r n))] [none, none]) := by
  generalize hU : us = U
  generalize hF : real = F
  have hr : r.length ≤ 900000 := hc
  cbv
  repeat' first | apply And.intro | refine Classical.or_iff_not_imp_left.2 (fun _ => ?_) | exact trivial
  all_goals try (subst hF hU; simp only [real, us, Nat.le_eq, Int.cast_ofNat_Int, decide_eq_false_iff_not, decide_eq_true_eq, List.length_take, List.length_drop, List.length_append, List.length_replicate, List.length_set, List.length_cons, List.length_nil, List.length_zipWith] at *; (try simp (disch := omega) only [wrap_sm] at *); omega)
  · refine ⟨(0 : Nat), ?_⟩
    cbv; subst hF hU
    exact ⟨Nat.zero_le _, padP_zero r, trivial⟩
  · intro (j : Nat) hj
    have hj2 : j ≤ u_padZ r := by subst hF hU; exact hj
    clear hj
    have hlen := padP_len r j
    have hz : u_padZ r < 64 := by unfold u_padZ; omega
    cbv
    repeat' first | apply And.intro | refine Classical.or_iff_not_imp_left.2 (fun _ => ?_) | exact trivial
    all_goals try (subst hF hU; simp only [real, us, Nat.le_eq, Int.cast_ofNat_Int, decide_eq_false_iff_not, decide_eq_true_eq, List.length_take, List.length_drop, List.length_append, List.length_replicate, List.length_set, List.length_cons, List.length_nil, List.length_zipWith] at *; (try simp (disch := omega) only [wrap_sm] at *); omega)
    · refine ⟨(j + 1 : Nat), ?_⟩
      cbv; subst hF hU
      rename_i hg
      have hlt := pad_go hj2 hg
      exact ⟨hlt, by show u_padZ r - (j + 1) < u_padZ r - j; omega, padP_step r j, trivial⟩
    · subst hF hU
      rename_i hg
      have e := pad_stop hj2 hg
      rw [e]
      exact pad_end r n
theorem k_sha_Hash_padded : SpecOK Try.prog 102 (s_sha_Hash_padded real us) := by
  refine h_sound (x := x_sha_Hash_padded real us) ⟨tt_ok, ok_sha_Hash_padded, Go.Vc.ks_nil⟩ mixed Try.func102 rfl rfl (by kernel_rfl) (by decide) (fun j hj => by simp [x_sha_Hash_padded]; omega) ?_
  intro l mm c rs ch hg hl hc
  unfold g_sha_Hash_padded at hg
  split at hg
  · split at hg
    · rename_i h0 h1 h2 h3 h4 h5
      have z0 := beq_nat h0
      have z1 := beq_nat h1
      have z2 := beq_nat h2
      have z3 := beq_nat h3
      have z4 := beq_nat h4
      have z5 := beq_nat h5
      subst z0
      subst z1
      subst z2
      subst z3
      subst z4
      subst z5
      cases hg
      exact ⟨Nat.le_of_ble_eq_true rfl, an_sha_Hash_padded real us _ _ _, [], c_sha_Hash_padded _ _ _ hc⟩
    · cases hg
  · cases hg

end Go.Proofs.Ytmldccfchnlpgaa
set_option linter.unusedVariables false
set_option linter.unusedSimpArgs false
set_option maxRecDepth 100000
set_option maxHeartbeats 1000000
namespace Go.Proofs.Ytmldccfchnlpgaa
open Go Go.Vc
theorem out_step32 (o f : List UInt8) (hf : f.length = 4) (j : Nat) (h : j < 8) : List.take (IntKind.i64.wrap (4 * (j : Int))).toNat o ++ List.take (min (List.take 4 (List.drop 0 f)).length (32 - (IntKind.i64.wrap (4 * (j : Int))).toNat)) (List.drop 0 (List.take 4 (List.drop 0 f))) ++
    List.drop ((IntKind.i64.wrap (4 * (j : Int))).toNat + (List.take (min (List.take 4 (List.drop 0 f)).length (32 - (IntKind.i64.wrap (4 * (j : Int))).toNat)) (List.drop 0 (List.take 4 (List.drop 0 f)))).length) o = o.take (4 * j) ++ f ++ o.drop (4 * j + 4) := by
  rw [wrap_sm (by omega) (by omega), show (4 * (j : Int)).toNat = 4 * j by omega, List.drop_zero, List.drop_zero, List.take_of_length_le (show f.length ≤ 4 by omega), hf, Nat.min_eq_left (by omega), List.take_of_length_le (show f.length ≤ 4 by omega), hf]
theorem outB_len (st : List UInt32) : ∀ i, i ≤ 8 → (u_outB st i).length = 32
  | 0, _ => by simp [u_outB]
  | i + 1, h => by
    have := outB_len st i (by omega)
    have e : (u_putBig (st.getD i 0)).length = 4 := rfl
    simp only [u_outB, List.length_append, List.length_take, List.length_drop, e]
    omega
theorem outB_zero (st : List UInt32) : List.replicate 32 0 = u_outB st 0 := rfl
theorem outB_step (st : List UInt32) (i : Nat) : (u_outB st i).take (4 * i) ++ u_putBig (st.getD i 0) ++ (u_outB st i).drop (4 * i + 4) = u_outB st (i + 1) := rfl
theorem blks_cut (s : List UInt32) (x : List UInt8) (j : Nat) (h : j < u_nblk x) : u_next (u_blks s x j) (List.take 64 (List.drop (64 * j) x)) = u_blks s x (j + 1) := by
  unfold u_nblk at h
  rw [next_take _ _ (by rw [List.length_drop]; omega)]
  rfl
theorem fin_end (s : List UInt32) (r : List UInt8) (n : Int) : u_outB (u_blks s (u_pad r n) (u_nblk (u_pad r n))) 8 = u_fin s r n := rfl
theorem nblk_mul {x : List UInt8} (h : x.length % 64 = 0) : 64 * u_nblk x = x.length := by unfold u_nblk; omega
end Go.Proofs.Ytmldccfchnlpgaa
namespace Go.Proofs.Ytmldccfchnlpgaa
open Go Go.Vc
attribute [local irreducible] u_sched u_rnds u_kc u_add u_blks u_first u_next u_padZ u_padP u_pad u_outB u_nblk u_fin
theorem r_sha_Hash_Sum : Ready Try.prog 45 := by unfold Ready; kernel_rfl
noncomputable def sp_sha_Hash_Sum (F : Fs) (U : Us) : Specs := [(102, s_sha_Hash_padded F U), (101, s_sha_state_next F U), (103, s_bits_PutBig F U)]
theorem ok_sha_Hash_Sum : SpecsOK Try.prog (sp_sha_Hash_Sum real us) := sp_cons r_sha_Hash_padded k_sha_Hash_padded (sp_cons r_sha_state_next k_sha_state_next (sp_cons r_bits_PutBig k_bits_PutBig sp_nil))
noncomputable def an_sha_Hash_Sum (F : Fs) (U : Us) (r : List UInt8) (s : List UInt32) (n : Int) : Anns := [(2, ⟨Nat, fun j => j ≤ U.nblk (U.pad r n), fun j => F.subn (U.nblk (U.pad r n)) j, fun j => ⟨[(2, .p 2 0 0), (3, .p 3 0 0), (4, .sl 5 0 0 1 (F.muln 64 j) (F.subn (F.lenB (U.pad r n)) (F.muln 64 j)))], [(999, 0, .bk 141 [(8, .wd s), (1, .vs [.rw 1]), (1, .vs [.i n])]), (999, 1, .row 5 1 (.bt r)), (2, 2, .bk 23 [(32, .bt (F.repB 32))]), (3, 3, .bk 138 [(8, .wd (U.blks s (U.pad r n) j))]), (4, 5, .row 5 1 (.bt (U.pad r n)))]⟩⟩),
  (7, ⟨Nat, fun i => i ≤ 8, fun i => F.subn 8 i, fun i => ⟨[(2, .p 2 0 0), (5, .p 6 0 0), (24, .ag 8 (.wd (U.blks s (U.pad r n) (U.nblk (U.pad r n))))), (25, .i (F.int i))], [(999, 0, .bk 141 [(8, .wd s), (1, .vs [.rw 1]), (1, .vs [.i n])]), (999, 1, .row 5 1 (.bt r)), (2, 2, .bk 23 [(32, .bt (F.repB 32))]), (5, 6, .bk 23 [(32, .bt (U.outB (U.blks s (U.pad r n) (U.nblk (U.pad r n))) i))])]⟩⟩)]
noncomputable def g_sha_Hash_Sum (F : Fs) (U : Us) : HLaw := fun l mm => match l, mm with
  | [.p 0 0 0], [.bk T1 [(n2, .wd s), (n3, .vs [.rw 1]), (n4, .vs [.i n])], .row T0 e0 (.bt r)] => match Nat.beq T0 5, Nat.beq e0 1, Nat.beq T1 141, Nat.beq n2 8, Nat.beq n3 1, Nat.beq n4 1 with
    | true, true, true, true, true, true => some (U.isW s 8 ∧ F.pLe (F.lenB r) 900000, [.val (.ag 32 (.bt (U.fin s r n)))], [none, none])
    | _, _, _, _, _, _ => none
  | _, _ => none
noncomputable def s_sha_Hash_Sum (F : Fs) (U : Us) : Vc.Spec := hSpec 2 (g_sha_Hash_Sum F U)
noncomputable def x_sha_Hash_Sum (F : Fs) (U : Us) : Cx := ⟨Try.f45.ntmps, tt F, sp_sha_Hash_Sum F U, [], [(1, ([(5, [3]), (6, [3, 5])], [])), (4, ([(2, [0])], [])), (10, ([(3, [2])], []))], [0, 1], []⟩
theorem c_sha_Hash_Sum (r : List UInt8) (s : List UInt32) (n : Int) (hc : us.isW s 8 ∧ real.pLe (real.lenB r) 900000) : vc real (x_sha_Hash_Sum real us) (an_sha_Hash_Sum real us r s n) [] (Try.f45.body.getD .skip) ⟨zipSl 0 [.p 0 0 0], zipMe 0 [.bk 141 [(8, .wd s), (1, .vs [.rw 1]), (1, .vs [.i n])], .row 5 1 (.bt r)], 64⟩ (retHOk real (tt real) Try.f45.results.toList [.bk 141 [(8, .wd s), (1, .vs [.rw 1]), (1, .vs [.i n])], .row 5 1 (.bt r)] [.val (.ag 32 (.bt (us.fin s r n)))] [none, none]) := by
  generalize hU : us = U
  generalize hF : real = F
  have hs : s.length = 8 := hc.1
  have hr : r.length ≤ 900000 := hc.2
  have hpm := pad_mod r n
  have hpl := pad_len r n
  have hz : u_padZ r < 64 := by unfold u_padZ; omega
  have hnb := nblk_mul hpm
  cbv
  repeat' first | apply And.intro | refine Classical.or_iff_not_imp_left.2 (fun _ => ?_) | exact trivial
  all_goals try (subst hF hU; simp only [real, us, Nat.le_eq, Int.cast_ofNat_Int, decide_eq_false_iff_not, decide_eq_true_eq, List.length_take, List.length_drop, List.length_append, List.length_replicate, List.length_set, List.length_cons, List.length_nil, List.length_zipWith] at *; (try simp (disch := omega) only [wrap_sm] at *); omega)
  · refine ⟨(0 : Nat), ?_⟩
    cbv; subst hF hU
    refine ⟨Nat.zero_le _, ⟨⟨rfl, ?_⟩, trivial⟩, ⟨blks_zero s _, trivial⟩, trivial⟩
    simp only [us, real]
    generalize u_pad r n = x
    cases x <;> rfl
  · intro (j : Nat) hj
    have hj2 : j ≤ u_nblk (u_pad r n) := by subst hF hU; exact hj
    clear hj
    have hbl := blks_len s (u_pad r n) hs j
    cbv
    repeat' first | apply And.intro | refine Classical.or_iff_not_imp_left.2 (fun _ => ?_) | exact trivial
    all_goals try (subst hF hU; simp only [real, us, Nat.le_eq, Int.cast_ofNat_Int, decide_eq_false_iff_not, decide_eq_true_eq, List.length_take, List.length_drop, List.length_append, List.length_replicate, List.length_set, List.length_cons, List.length_nil, List.length_zipWith] at *; (try simp (disch := omega) only [wrap_sm] at *); omega)
    · subst hF hU; exact hbl
    · refine ⟨(j + 1 : Nat), ?_⟩
      cbv; subst hF hU
      rename_i hg
      have hlt : j < u_nblk (u_pad r n) := by
        have := lt_g hg
        have : 0 < (u_pad r n).length - 64 * j := this
        omega
      refine ⟨hlt, by show u_nblk (u_pad r n) - (j + 1) < u_nblk (u_pad r n) - j; omega, ⟨⟨?_, ?_⟩, trivial⟩, ⟨blks_cut s _ j hlt, trivial⟩, trivial⟩
      · show 64 * j + 64 = 64 * (j + 1); omega
      · show (u_pad r n).length - 64 * j - 64 = (u_pad r n).length - 64 * (j + 1); omega
    · have e : j = u_nblk (u_pad r n) := by
        rename_i hg
        subst hF hU
        have := ge_g hg
        have : (u_pad r n).length - 64 * j ≤ 0 := this
        omega
      refine ⟨(0 : Nat), ?_⟩
      cbv; subst hF hU
      rw [e]
      exact ⟨⟨rfl, trivial⟩, ⟨outB_zero _, trivial⟩, trivial⟩
    · intro (i : Nat) hi
      replace hi : i ≤ 8 := hi
      have hb8 := blks_len s (u_pad r n) hs (u_nblk (u_pad r n))
      have hol := outB_len (u_blks s (u_pad r n) (u_nblk (u_pad r n))) i hi
      have hi1 : IntKind.i64.wrap ((i : Int) + 1) = (i : Int) + 1 := wrap_sm (by omega) (by omega)
      cbv
      repeat' first | apply And.intro | refine Classical.or_iff_not_imp_left.2 (fun _ => ?_) | exact trivial
      all_goals try (subst hF hU; simp only [real, us, Nat.le_eq, Int.cast_ofNat_Int, decide_eq_false_iff_not, decide_eq_true_eq, List.length_take, List.length_drop, List.length_append, List.length_replicate, List.length_set, List.length_cons, List.length_nil, List.length_zipWith] at *; (try simp (disch := omega) only [wrap_sm] at *); omega)
      · subst hF hU; exact Nat.le_refl 4
      · have h8 := lt_g (j := i) (n := 8) (by subst hF; assumption)
        refine ⟨(i + 1 : Nat), ?_⟩
        cbv; subst hF hU
        exact ⟨by show i + 1 ≤ 8; omega, by show 8 - (i + 1) < 8 - i; omega, ⟨hi1, trivial⟩, ⟨(out_step32 _ _ rfl i h8).trans (outB_step _ i), trivial⟩, trivial⟩
      · have h8 := ge_g (j := i) (n := 8) (by subst hF; assumption)
        have e8 : i = 8 := by omega
        subst hF hU e8
        exact fin_end s r n
theorem k_sha_Hash_Sum : SpecOK Try.prog 45 (s_sha_Hash_Sum real us) := by
  refine h_sound (x := x_sha_Hash_Sum real us) ⟨tt_ok, ok_sha_Hash_Sum, Go.Vc.ks_nil⟩ mixed Try.func45 rfl rfl (by kernel_rfl) (by decide) (fun j hj => by simp [x_sha_Hash_Sum]; omega) ?_
  intro l mm c rs ch hg hl hc
  unfold g_sha_Hash_Sum at hg
  split at hg
  · split at hg
    · rename_i h0 h1 h2 h3 h4 h5
      have z0 := beq_nat h0
      have z1 := beq_nat h1
      have z2 := beq_nat h2
      have z3 := beq_nat h3
      have z4 := beq_nat h4
      have z5 := beq_nat h5
      subst z0
      subst z1
      subst z2
      subst z3
      subst z4
      subst z5
      cases hg
      exact ⟨Nat.le_of_ble_eq_true rfl, an_sha_Hash_Sum real us _ _ _, [], c_sha_Hash_Sum _ _ _ hc⟩
    · cases hg
  · cases hg

end Go.Proofs.Ytmldccfchnlpgaa
set_option linter.unusedVariables false
set_option linter.unusedSimpArgs false
set_option maxRecDepth 100000
set_option maxHeartbeats 1000000
namespace Go.Proofs.Ytmldccfchnlpgaa
open Go Go.Vc
/-! ## Sums -/
theorem next_congr (s : List UInt32) (x y : List UInt8) (hx : 64 ≤ x.length) (hy : 64 ≤ y.length) (h : x.take 64 = y.take 64) : u_next s x = u_next s y := by
  rw [← next_take s x hx, ← next_take s y hy, h]
theorem blks_congr (s : List UInt32) (x y : List UInt8) : ∀ n, 64 * n ≤ x.length → 64 * n ≤ y.length → x.take (64 * n) = y.take (64 * n) → u_blks s x n = u_blks s y n
  | 0, _, _, _ => rfl
  | n + 1, hx, hy, h => by
    have h1 : x.take (64 * n) = y.take (64 * n) := by
      have := congrArg (List.take (64 * n)) h
      rw [List.take_take, List.take_take, Nat.min_eq_left (by omega)] at this
      exact this
    rw [u_blks, u_blks, blks_congr s x y n (by omega) (by omega) h1]
    refine next_congr _ _ _ (by rw [List.length_drop]; omega) (by rw [List.length_drop]; omega) ?_
    have h2 := congrArg (List.drop (64 * n)) h
    rw [List.drop_take, List.drop_take, show 64 * (n + 1) - 64 * n = 64 by omega] at h2
    exact h2
theorem blks_add (s : List UInt32) (x : List UInt8) (n : Nat) : ∀ k, u_blks s x (n + k) = u_blks (u_blks s x n) (x.drop (64 * n)) k
  | 0 => rfl
  | k + 1 => by
    rw [← Nat.add_assoc, u_blks, u_blks, blks_add s x n k, List.drop_drop, show 64 * n + 64 * k = 64 * (n + k) by omega]
/-- so far, and more: as all at once -/
theorem blks_more (s : List UInt32) (x y : List UInt8) (k : Nat) (hk : 64 * k ≤ ((u_wr [] x) ++ y).length) : u_blks (u_blks s x (u_nblk x)) ((u_wr [] x) ++ y) k = u_blks s (x ++ y) (u_nblk x + k) := by
  have hn : 64 * u_nblk x ≤ x.length := by unfold u_nblk; omega
  have e : (u_wr [] x) ++ y = (x ++ y).drop (64 * u_nblk x) := by
    unfold u_wr
    rw [List.nil_append, List.drop_append_of_le_length hn]
  rw [blks_add, ← e]
  congr 1
  exact blks_congr s x (x ++ y) (u_nblk x) hn (by rw [List.length_append]; omega) (by rw [List.take_append_of_le_length hn])
theorem wr_len (r b : List UInt8) : (u_wr r b).length = (r ++ b).length % 64 := by
  unfold u_wr u_nblk
  rw [List.length_drop]
  omega
theorem ws_nil (s : List UInt32) (m : List UInt8) : u_ws s [] m = u_blks s m (u_nblk m) := by
  unfold u_ws
  rw [List.nil_append]
theorem pad_tail (r : List UInt8) (n : Int) : u_pad r n = r ++ (([128] ++ List.replicate (u_padZ r) 0) ++ putK (real.mul64 (real.ofI64 n) (real.ofI64 (real.int 8))) 8) := by
  unfold u_pad u_padP
  simp only [List.append_assoc]
theorem padZ_wr (m : List UInt8) : u_padZ (u_wr [] m) = u_padZ m := by
  unfold u_padZ
  rw [wr_len, List.nil_append]
  omega
theorem nblk_app (m y : List UInt8) : u_nblk (m ++ y) = u_nblk m + u_nblk (u_wr [] m ++ y) := by
  have h := wr_len [] m
  rw [List.nil_append] at h
  unfold u_nblk
  rw [List.length_append, List.length_append, h]
  omega
theorem nblk_le (x : List UInt8) : 64 * u_nblk x ≤ x.length := by unfold u_nblk; omega
theorem ws_ws (s : List UInt32) (m y : List UInt8) : u_ws (u_ws s [] m) (u_wr [] m) y = u_ws s [] (m ++ y) := by
  rw [ws_nil, ws_nil]
  show u_blks (u_blks s m (u_nblk m)) (u_wr [] m ++ y) (u_nblk (u_wr [] m ++ y)) = _
  rw [blks_more s m y _ (nblk_le _), nblk_app m y]
theorem wr_wr (m y : List UInt8) : u_wr (u_wr [] m) y = u_wr [] (m ++ y) := by
  have hn := nblk_le m
  have e : (u_wr [] m) ++ y = (m ++ y).drop (64 * u_nblk m) := by
    unfold u_wr
    rw [List.nil_append, List.drop_append_of_le_length hn]
  show List.drop (64 * u_nblk (u_wr [] m ++ y)) (u_wr [] m ++ y) = List.drop (64 * u_nblk ([] ++ (m ++ y))) ([] ++ (m ++ y))
  rw [List.nil_append, nblk_app m y]
  conv => lhs; rw [e]
  rw [List.drop_drop, Nat.mul_add]
  congr 2
  rw [← e]
theorem fin_ws (s : List UInt32) (m : List UInt8) (n : Int) : u_fin (u_ws s [] m) (u_wr [] m) n = u_fin s m n := by
  show u_outB (u_blks (u_ws s [] m) (u_pad (u_wr [] m) n) (u_nblk (u_pad (u_wr [] m) n))) 8 = u_outB (u_blks s (u_pad m n) (u_nblk (u_pad m n))) 8
  rw [pad_tail (u_wr [] m) n, pad_tail m n, padZ_wr, ws_nil, blks_more s m _ _ (nblk_le _), ← nblk_app]
theorem sum_ws (m : List UInt8) (n : Int) (h : n = m.length) : u_fin (u_ws u_first [] m) (u_wr [] m) n = u_sum m := by
  subst h
  exact fin_ws u_first m _
theorem ws_len (s : List UInt32) (r b : List UInt8) (hs : s.length = 8) : (u_ws s r b).length = 8 := blks_len s _ hs _
theorem first_len : u_first.length = 8 := rfl
end Go.Proofs.Ytmldccfchnlpgaa
set_option linter.unusedVariables false
set_option linter.unusedSimpArgs false
set_option maxRecDepth 100000
set_option maxHeartbeats 1000000
namespace Go.Proofs.Ytmldccfchnlpgaa
open Go Go.Vc
attribute [local irreducible] u_sched u_rnds u_kc u_add u_blks u_first u_next u_padZ u_padP u_pad u_outB u_nblk u_fin u_ws u_wr u_sum
theorem r_sha_Sum : Ready Try.prog 40 := by unfold Ready; kernel_rfl
noncomputable def sp_sha_Sum (F : Fs) (U : Us) : Specs := [(43, s_sha_New F U), (44, s_sha_Hash_Write F U), (45, s_sha_Hash_Sum F U)]
theorem ok_sha_Sum : SpecsOK Try.prog (sp_sha_Sum real us) := sp_cons r_sha_New k_sha_New (sp_cons r_sha_Hash_Write k_sha_Hash_Write (sp_cons r_sha_Hash_Sum k_sha_Hash_Sum sp_nil))
noncomputable def g_sha_Sum (F : Fs) (U : Us) : Law
  | [.rb 1 (.bt b)] => some (F.pLe (F.lenB b) 800000, [.val (.ag 32 (.bt (U.sum b)))])
  | _ => none
noncomputable def s_sha_Sum (F : Fs) (U : Us) : Vc.Spec := pureSpec F false [.row .kB] (g_sha_Sum F U)
noncomputable def x_sha_Sum (F : Fs) (U : Us) : Cx := ⟨Try.f40.ntmps, tt F, sp_sha_Sum F U, [], [], [], []⟩
theorem c_sha_Sum (b : List UInt8) (hc : real.pLe (real.lenB b) 800000) : vc real (x_sha_Sum real us) [] [] (Try.f40.body.getD .skip) ⟨zipSl 0 [.rb 1 (.bt b)], [], 64⟩ (retOk real (tt real) false Try.f40.results.toList [.val (.ag 32 (.bt (us.sum b)))]) := by
  generalize hU : us = U
  generalize hF : real = F
  have hb : b.length ≤ 800000 := hc
  have hfl := first_len
  have hwl := ws_len u_first [] b hfl
  have hrl := wr_len [] b
  have hn : IntKind.i64.wrap (0 + (b.length : Int)) = (b.length : Int) := by rw [Int.zero_add]; exact wrap_sm (by omega) (by omega)
  cbv
  repeat' first | apply And.intro | refine Classical.or_iff_not_imp_left.2 (fun _ => ?_) | exact trivial
  all_goals try (subst hF hU; simp only [real, us, Nat.le_eq, Int.cast_ofNat_Int, decide_eq_false_iff_not, decide_eq_true_eq, List.length_take, List.length_drop, List.length_append, List.length_replicate, List.length_set, List.length_cons, List.length_nil, List.length_zipWith] at *; (try simp (disch := omega) only [wrap_sm] at *); omega)
  · subst hU; exact hfl
  · subst hU; exact hwl
  · subst hF hU; exact sum_ws b _ hn
theorem k_sha_Sum : SpecOK Try.prog 40 (s_sha_Sum real us) := by
  refine pure_sound (x := x_sha_Sum real us) ⟨tt_ok, ok_sha_Sum, Go.Vc.ks_nil⟩ mixed Try.func40 rfl rfl (by kernel_rfl) ?_
  intro l c rs hg hc
  unfold g_sha_Sum at hg
  split at hg
  · cases hg; exact ⟨Nat.le_of_ble_eq_true rfl, [], [], c_sha_Sum _ hc⟩
  · cases hg

end Go.Proofs.Ytmldccfchnlpgaa
set_option linter.unusedVariables false
set_option linter.unusedSimpArgs false
set_option maxRecDepth 100000
set_option maxHeartbeats 1000000
namespace Go.Proofs.Ytmldccfchnlpgaa
open Go Go.Vc
noncomputable def sp_sha_Hex (F : Fs) (U : Us) : Specs := []
noncomputable def an_sha_Hex (F : Fs) (U : Us) (s : List UInt8) : Anns := [(5, ⟨Nat, fun i => i ≤ 32, fun i => F.subn 32 i, fun i => ⟨[(3, .rw 5), (9, .ag 32 (.bt s)), (10, .i (F.int i))], [(3, 5, .row 5 1 (.bt (U.hexP s i)))]⟩⟩)]
noncomputable def g_sha_Hex (F : Fs) (U : Us) : Law
  | [.ag 32 (.bt s)] => some (U.isL s 32, [.val (.s (U.hex s))])
  | _ => none
noncomputable def s_sha_Hex (F : Fs) (U : Us) : Vc.Spec := pureSpec F false [.keep] (g_sha_Hex F U)
noncomputable def x_sha_Hex (F : Fs) (U : Us) : Cx := ⟨Try.f42.ntmps, tt F, sp_sha_Hex F U, [], [(7, ([(6, [3])], []))], [], []⟩
end Go.Proofs.Ytmldccfchnlpgaa
set_option linter.unusedVariables false
set_option linter.unusedSimpArgs false
set_option maxRecDepth 100000
set_option maxHeartbeats 1000000
namespace Go.Proofs.Ytmldccfchnlpgaa
open Go Go.Vc
theorem sum_len (m : List UInt8) : (u_sum m).length = 32 := outB_len _ 8 (Nat.le_refl _)
end Go.Proofs.Ytmldccfchnlpgaa
namespace Go.Proofs.Ytmldccfchnlpgaa
open Go Go.Vc
attribute [local irreducible] u_sched u_rnds u_kc u_add u_blks u_first u_next u_padZ u_padP u_pad u_outB u_nblk u_fin u_ws u_wr u_sum u_hex u_hexP
noncomputable def sp_law2_known (F : Fs) (U : Us) : Specs := [(43, s_sha_New F U), (44, s_sha_Hash_Write F U), (40, s_sha_Sum F U), (42, s_sha_Hex F U), (45, s_sha_Hash_Sum F U), (46, s_sha_Hash_Len F U)]
noncomputable def g_law2_known (F : Fs) (U : Us) : Law
  | [] => some (True, [.val (.kb true)])
  | _ => none
noncomputable def s_law2_known (F : Fs) (U : Us) : Vc.Spec := pureSpec F false [] (g_law2_known F U)
noncomputable def x_law2_known (F : Fs) (U : Us) : Cx := ⟨Try.f39.ntmps, tt F, sp_law2_known F U, [], [], [], [6]⟩
end Go.Proofs.Ytmldccfchnlpgaa
set_option linter.unusedVariables false
set_option linter.unusedSimpArgs false
set_option maxRecDepth 100000
set_option maxHeartbeats 1000000
namespace Go.Proofs.Ytmldccfchnlpgaa
open Go Go.Vc
end Go.Proofs.Ytmldccfchnlpgaa
set_option linter.unusedVariables false
set_option linter.unusedSimpArgs false
set_option maxRecDepth 100000
set_option maxHeartbeats 1000000
namespace Go.Proofs.Ytmldccfchnlpgaa
open Go Go.Vc
theorem big_cut (b : List UInt8) (i : Nat) (h : i < 16) (hb : 64 ≤ b.length) : real.cutB b (real.nat (real.muli (real.int 4) (real.int i))) (real.subn (real.nat (real.addi (real.muli (real.int 4) (real.int i)) (real.int 4))) (real.nat (real.muli (real.int 4) (real.int i)))) = (b.drop (4 * i)).take 4 := by
  show List.take ((IntKind.i64.wrap (IntKind.i64.wrap (4 * (i : Int)) + 4)).toNat - (IntKind.i64.wrap (4 * (i : Int))).toNat) (List.drop (IntKind.i64.wrap (4 * (i : Int))).toNat b) = _
  rw [wrap_sm (a := 4 * (i : Int)) (by omega) (by omega), wrap_sm (by omega) (by omega), show (4 * (i : Int) + 4).toNat - (4 * (i : Int)).toNat = 4 by omega, show (4 * (i : Int)).toNat = 4 * i by omega]
theorem schedR_lo (b : List UInt8) (i : Nat) (h : i < 16) (hb : 64 ≤ b.length) : real.setW (us.sched b i) (real.nat (real.int i)) (us.big (real.cutB b (real.nat (real.muli (real.int 4) (real.int i))) (real.subn (real.nat (real.addi (real.muli (real.int 4) (real.int i)) (real.int 4))) (real.nat (real.muli (real.int 4) (real.int i)))))) = us.sched b (i + 1) := by
  rw [big_cut b i h hb]
  show (u_sched b i).set i (u_big (List.take 4 (List.drop (4 * i) b))) = u_sched b (i + 1)
  rw [big_take]
  conv => rhs; rw [u_sched, if_pos h]
theorem sum4 (a b c d : UInt32) : ((a + b) + c) + d = ((d + c) + b) + a := by
  rw [UInt32.add_comm (a + b + c) d, UInt32.add_comm (a + b) c, UInt32.add_comm a b, ← UInt32.add_assoc, ← UInt32.add_assoc]
theorem schedR_hi (b : List UInt8) (i : Nat) (h : ¬ i < 16) (h64 : i < 64) : real.setW (us.sched b i) (real.nat (real.int i)) (real.add32 (real.add32 (real.add32
    (real.getW (us.sched b i) (real.nat (real.subi (real.int i) (real.int 16))))
    (real.xor32 (real.xor32 (us.rl (real.getW (us.sched b i) (real.nat (real.subi (real.int i) (real.int 15)))) (real.nint 6)) (us.rl (real.getW (us.sched b i) (real.nat (real.subi (real.int i) (real.int 15)))) (real.nint 17))) (real.shr32 (real.getW (us.sched b i) (real.nat (real.subi (real.int i) (real.int 15)))) (real.toI64 (real.ofI64 (real.int 3))))))
    (real.getW (us.sched b i) (real.nat (real.subi (real.int i) (real.int 7)))))
    (real.xor32 (real.xor32 (us.rl (real.getW (us.sched b i) (real.nat (real.subi (real.int i) (real.int 2)))) (real.nint 16)) (us.rl (real.getW (us.sched b i) (real.nat (real.subi (real.int i) (real.int 2)))) (real.nint 18))) (real.shr32 (real.getW (us.sched b i) (real.nat (real.subi (real.int i) (real.int 2)))) (real.toI64 (real.ofI64 (real.int 10)))))) = us.sched b (i + 1) := by
  rw [subI i 2 (by omega) (by omega), subI i 7 (by omega) (by omega), subI i 15 (by omega) (by omega), subI i 16 (by omega) (by omega), ofI64_3, ofI64_10]
  show (u_sched b i).set i ((((u_sched b i).getD (i - 16) 0 + u_sg0 ((u_sched b i).getD (i - 15) 0)) + (u_sched b i).getD (i - 7) 0) + u_sg1 ((u_sched b i).getD (i - 2) 0)) = _
  rw [sum4]
  have e : (u_sg1 ((u_sched b i).getD (i - 2) 0) + (u_sched b i).getD (i - 7) 0 + u_sg0 ((u_sched b i).getD (i - 15) 0)) + (u_sched b i).getD (i - 16) 0 = ((u_sg1 ((u_sched b i).getD (i - 2) 0) + (u_sched b i).getD (i - 7) 0) + u_sg0 ((u_sched b i).getD (i - 15) 0)) + (u_sched b i).getD (i - 16) 0 := rfl
  exact sched_hi b i h h64 _ _ _ _ rfl rfl rfl rfl
theorem neg_rl (x : UInt32) (n : Nat) (h : n < 100) : us.rl x (real.negi (real.int n)) = u_rr x n := by
  show (⟨x.toBitVec.rotateLeft ((IntKind.i64.wrap (0 - (n : Int))) % 32).toNat⟩ : UInt32) = ⟨x.toBitVec.rotateLeft ((-(n : Int)) % 32).toNat⟩
  rw [Int.zero_sub, wrap_sm (by omega) (by omega)]
noncomputable def r2_g (x : List UInt32) (j : Nat) : UInt32 := real.getW x (real.nat (real.int j))
noncomputable def r2_tn (x : UInt32) (a b c : Nat) : UInt32 := real.xor32 (real.xor32 (us.rl x (real.negi (real.int a))) (us.rl x (real.negi (real.int b)))) (us.rl x (real.negi (real.int c)))
noncomputable def r2_t1 (x : List UInt32) (k w : UInt32) : UInt32 := real.add32 (real.add32 (real.add32 (real.add32 (r2_g x 7) (r2_tn (r2_g x 4) 6 11 25)) (real.xor32 (real.and32 (r2_g x 4) (r2_g x 5)) (real.and32 (real.not32 (r2_g x 4)) (r2_g x 6)))) k) w
noncomputable def r2_t2 (x : List UInt32) : UInt32 := real.add32 (r2_tn (r2_g x 0) 2 13 22) (real.xor32 (real.xor32 (real.and32 (r2_g x 0) (r2_g x 1)) (real.and32 (r2_g x 0) (r2_g x 2))) (real.and32 (r2_g x 1) (r2_g x 2)))
theorem rndR (x : List UInt32) (k w : UInt32) : [real.add32 (r2_t1 x k w) (r2_t2 x), r2_g x 0, r2_g x 1, r2_g x 2, real.add32 (r2_g x 3) (r2_t1 x k w), r2_g x 4, r2_g x 5, r2_g x 6] = u_rnd x k w := by
  have e1 : r2_t1 x k w = real.add32 (real.add32 (real.add32 (real.add32 (r2_g x 7) (real.xor32 (real.xor32 (u_rr (r2_g x 4) 6) (u_rr (r2_g x 4) 11)) (u_rr (r2_g x 4) 25))) (real.xor32 (real.and32 (r2_g x 4) (r2_g x 5)) (real.and32 (real.not32 (r2_g x 4)) (r2_g x 6)))) k) w := by
    unfold r2_t1 r2_tn
    rw [neg_rl _ 6 (by omega), neg_rl _ 11 (by omega), neg_rl _ 25 (by omega)]
    rfl
  have e2 : r2_t2 x = real.add32 (real.xor32 (real.xor32 (u_rr (r2_g x 0) 2) (u_rr (r2_g x 0) 13)) (u_rr (r2_g x 0) 22)) (real.xor32 (real.xor32 (real.and32 (r2_g x 0) (r2_g x 1)) (real.and32 (r2_g x 0) (r2_g x 2))) (real.and32 (r2_g x 1) (r2_g x 2))) := by
    unfold r2_t2 r2_tn
    rw [neg_rl _ 2 (by omega), neg_rl _ 13 (by omega), neg_rl _ 22 (by omega)]
    rfl
  rw [e1, e2]
  rfl
theorem rndsR_step (ws v : List UInt32) (i : Nat) : [real.add32 (r2_t1 (us.rnds ws v i) (real.getW us.kc (real.nat (real.int i))) (real.getW ws (real.nat (real.int i)))) (r2_t2 (us.rnds ws v i)), r2_g (us.rnds ws v i) 0, r2_g (us.rnds ws v i) 1, r2_g (us.rnds ws v i) 2, real.add32 (r2_g (us.rnds ws v i) 3) (r2_t1 (us.rnds ws v i) (real.getW us.kc (real.nat (real.int i))) (real.getW ws (real.nat (real.int i)))), r2_g (us.rnds ws v i) 4, r2_g (us.rnds ws v i) 5, r2_g (us.rnds ws v i) 6] = us.rnds ws v (i + 1) := rndR _ _ _
theorem r_ref2_turned : Ready Try.prog 125 := by unfold Ready; kernel_rfl
noncomputable def sp_ref2_turned (F : Fs) (U : Us) : Specs := [(90, s_ref1_Rotl F U)]
theorem ok_ref2_turned : SpecsOK Try.prog (sp_ref2_turned real us) := sp_cons r_ref1_Rotl k_ref1_Rotl sp_nil
noncomputable def g_ref2_turned (F : Fs) (U : Us) : Law
  | [.w32 x, .i a, .i b, .i c] => some (True, [.val (.w32 (F.xor32 (F.xor32 (U.rl x (F.negi a)) (U.rl x (F.negi b))) (U.rl x (F.negi c))))])
  | _ => none
noncomputable def s_ref2_turned (F : Fs) (U : Us) : Vc.Spec := pureSpec F false [.keep, .keep, .keep, .keep] (g_ref2_turned F U)
noncomputable def x_ref2_turned (F : Fs) (U : Us) : Cx := ⟨Try.f125.ntmps, tt F, sp_ref2_turned F U, [], [], [], []⟩
theorem c_ref2_turned (x : UInt32) (a b c : Int) : vc real (x_ref2_turned real us) [] [] (Try.f125.body.getD .skip) ⟨zipSl 0 [.w32 x, .i a, .i b, .i c], [], 64⟩ (retOk real (tt real) false Try.f125.results.toList [.val (.w32 (real.xor32 (real.xor32 (us.rl x (real.negi a)) (us.rl x (real.negi b))) (us.rl x (real.negi c))))]) := by
  generalize hU : us = U
  generalize hF : real = F
  cbv
  repeat' first | apply And.intro | refine Classical.or_iff_not_imp_left.2 (fun _ => ?_) | exact trivial
  all_goals trace_state
theorem k_ref2_turned : SpecOK Try.prog 125 (s_ref2_turned real us) := by
  refine pure_sound (x := x_ref2_turned real us) ⟨tt_ok, ok_ref2_turned, Go.Vc.ks_nil⟩ mixed Try.func125 rfl rfl (by kernel_rfl) ?_
  intro l c rs hg hc
  unfold g_ref2_turned at hg
  split at hg
  · cases hg; exact ⟨Nat.le_of_ble_eq_true rfl, [], [], c_ref2_turned _ _ _ _⟩
  · cases hg

theorem r_ref2_constants : Ready Try.prog 123 := by unfold Ready; kernel_rfl
noncomputable def sp_ref2_constants (F : Fs) (U : Us) : Specs := []
theorem ok_ref2_constants : SpecsOK Try.prog (sp_ref2_constants real us) := sp_nil
noncomputable def g_ref2_constants (F : Fs) (U : Us) : Law
  | [] => some (True, [.val (.ag 64 (.wd (U.kc)))])
  | _ => none
noncomputable def s_ref2_constants (F : Fs) (U : Us) : Vc.Spec := pureSpec F false [] (g_ref2_constants F U)
noncomputable def x_ref2_constants (F : Fs) (U : Us) : Cx := ⟨Try.f123.ntmps, tt F, sp_ref2_constants F U, [], [], [], []⟩
theorem c_ref2_constants  : vc real (x_ref2_constants real us) [] [] (Try.f123.body.getD .skip) ⟨zipSl 0 [], [], 64⟩ (retOk real (tt real) false Try.f123.results.toList [.val (.ag 64 (.wd (us.kc)))]) := by
  generalize hU : us = U
  generalize hF : real = F
  cbv
  subst hF hU
  exact ⟨by decide, trivial⟩
theorem k_ref2_constants : SpecOK Try.prog 123 (s_ref2_constants real us) := by
  refine pure_sound (x := x_ref2_constants real us) ⟨tt_ok, ok_ref2_constants, Go.Vc.ks_nil⟩ mixed Try.func123 rfl rfl (by kernel_rfl) ?_
  intro l c rs hg hc
  unfold g_ref2_constants at hg
  split at hg
  · cases hg; exact ⟨Nat.le_of_ble_eq_true rfl, [], [], c_ref2_constants ⟩
  · cases hg

attribute [local irreducible] u_sched u_rnds u_kc u_add u_blks u_first u_next
theorem r_ref2_block : Ready Try.prog 98 := by unfold Ready; kernel_rfl
noncomputable def sp_ref2_block (F : Fs) (U : Us) : Specs := [(123, s_ref2_constants F U), (124, s_ref1_Big F U), (90, s_ref1_Rotl F U), (125, s_ref2_turned F U)]
theorem ok_ref2_block : SpecsOK Try.prog (sp_ref2_block real us) := sp_cons r_ref2_constants k_ref2_constants (sp_cons r_ref1_Big k_ref1_Big (sp_cons r_ref1_Rotl k_ref1_Rotl (sp_cons r_ref2_turned k_ref2_turned sp_nil)))
noncomputable def an_ref2_block (F : Fs) (U : Us) (s : List UInt32) (b : List UInt8) : Anns := [(4, ⟨Nat, fun i => i ≤ 64, fun i => F.subn 64 i, fun i => ⟨[(1, .rb 1 (.bt b)), (2, .p 0 0 0), (4, .p 1 0 0), (5, .p 2 0 0), (6, .p 3 0 0), (7, .i (F.int i))], [(2, 0, .bk 135 [(8, .wd s)]), (4, 1, .bk 135 [(8, .wd (F.repW 8))]), (5, 2, .bk 172 [(64, .wd (U.sched b i))]), (6, 3, .bk 172 [(64, .wd (U.kc))])]⟩⟩),
  (14, ⟨Nat, fun i => i ≤ 64, fun i => F.subn 64 i, fun i => ⟨[(2, .p 0 0 0), (4, .p 1 0 0), (5, .p 2 0 0), (6, .p 3 0 0), (12, .p 4 0 0), (13, .i (F.int i))], [(2, 0, .bk 135 [(8, .wd s)]), (4, 1, .bk 135 [(8, .wd (F.repW 8))]), (5, 2, .bk 172 [(64, .wd (U.sched b 64))]), (6, 3, .bk 172 [(64, .wd (U.kc))]), (12, 4, .bk 135 [(8, .wd (U.rnds (U.sched b 64) s i))])]⟩⟩),
  (21, ⟨Nat, fun i => i ≤ 8, fun i => F.subn 8 i, fun i => ⟨[(2, .p 0 0 0), (4, .p 1 0 0), (12, .p 4 0 0), (18, .i (F.int i))], [(2, 0, .bk 135 [(8, .wd (U.add s (U.rnds (U.sched b 64) s 64) i))]), (4, 1, .bk 135 [(8, .wd (F.repW 8))]), (12, 4, .bk 135 [(8, .wd (U.rnds (U.sched b 64) s 64))])]⟩⟩)]
noncomputable def g_ref2_block (F : Fs) (U : Us) : Law
  | [.ag 8 (.wd s), .rb 1 (.bt b)] => some (U.isW s 8 ∧ F.pLe 64 (F.lenB b) ∧ F.pLe (F.lenB b) 1000000000, [.val (.ag 8 (.wd (U.next s b)))])
  | _ => none
noncomputable def s_ref2_block (F : Fs) (U : Us) : Vc.Spec := pureSpec F false [.keep, .row .kB] (g_ref2_block F U)
noncomputable def x_ref2_block (F : Fs) (U : Us) : Cx := ⟨Try.f98.ntmps, tt F, sp_ref2_block F U, [], [(8, ([(7, [3])], [])), (11, ([(10, [4])], [])), (16, ([(3, [1])], [])), (17, ([(3, [1]), (7, [1, 3]), (12, [1, 3, 7]), (18, [1, 3, 7, 12]), (22, [1, 3, 7, 12, 18])], [])), (18, ([(4, [1]), (8, [1, 4]), (12, [1, 4, 8]), (14, [1, 4, 8, 12])], [])), (23, ([(6, [3])], []))], [], []⟩
theorem c_ref2_block (s : List UInt32) (b : List UInt8) (hc : us.isW s 8 ∧ real.pLe 64 (real.lenB b) ∧ real.pLe (real.lenB b) 1000000000) : vc real (x_ref2_block real us) (an_ref2_block real us s b) [] (Try.f98.body.getD .skip) ⟨zipSl 0 [.ag 8 (.wd s), .rb 1 (.bt b)], [], 64⟩ (retOk real (tt real) false Try.f98.results.toList [.val (.ag 8 (.wd (us.next s b)))]) := by
  generalize hU : us = U
  generalize hF : real = F
  have hs : s.length = 8 := hc.1
  have hb : 64 ≤ b.length := hc.2.1
  have hb2 : b.length ≤ 1000000000 := hc.2.2
  cbv
  repeat' first | apply And.intro | refine Classical.or_iff_not_imp_left.2 (fun _ => ?_) | exact trivial
  all_goals try (subst hF hU; simp only [real, us, Nat.le_eq, Int.cast_ofNat_Int, decide_eq_false_iff_not, decide_eq_true_eq, List.length_take, List.length_drop, List.length_append, List.length_replicate, List.length_set, List.length_cons, List.length_nil, List.length_zipWith] at *; (try simp (disch := omega) only [wrap_sm] at *); omega)
  · refine ⟨(0 : Nat), ?_⟩
    cbv; subst hF hU; simp only [real, us, Nat.le_eq, Int.cast_ofNat_Int, decide_eq_false_iff_not, decide_eq_true_eq] at *
    exact ⟨⟨sched_zero b, trivial⟩, trivial⟩
  · intro (i : Nat) hi
    replace hi : i ≤ 64 := hi
    have hl := sched_len b i
    have hi1 : IntKind.i64.wrap ((i : Int) + 1) = (i : Int) + 1 := wrap_sm (by omega) (by omega)
    cbv
    repeat' first | apply And.intro | refine Classical.or_iff_not_imp_left.2 (fun _ => ?_) | exact trivial
    all_goals try (subst hF hU; simp only [real, us, Nat.le_eq, Int.cast_ofNat_Int, decide_eq_false_iff_not, decide_eq_true_eq, List.length_take, List.length_drop, List.length_append, List.length_replicate, List.length_set, List.length_cons, List.length_nil, List.length_zipWith] at *; (try simp (disch := omega) only [wrap_sm] at *); omega)
    · have h16 := lt_g (j := i) (n := 16) (by subst hF; assumption)
      refine ⟨(i + 1 : Nat), ?_⟩
      cbv; subst hF hU
      exact ⟨by show i + 1 ≤ 64; omega, by show 64 - (i + 1) < 64 - i; omega, ⟨hi1, trivial⟩, ⟨schedR_lo b i h16 hb, trivial⟩, trivial⟩
    · have h16 := ge_g (j := i) (n := 16) (by subst hF; assumption)
      have h64 := lt_g (j := i) (n := 64) (by subst hF; assumption)
      refine ⟨(i + 1 : Nat), ?_⟩
      cbv; subst hF hU
      exact ⟨by show i + 1 ≤ 64; omega, by show 64 - (i + 1) < 64 - i; omega, ⟨hi1, trivial⟩, ⟨schedR_hi b i (by omega) h64, trivial⟩, trivial⟩
    · have h64 := ge_g (j := i) (n := 64) (by subst hF; assumption)
      have e : i = 64 := by omega
      refine ⟨(0 : Nat), ?_⟩
      cbv; subst hF hU e
      exact ⟨⟨rfl, trivial⟩, ⟨rnds_zero _ _, trivial⟩, trivial⟩
    · intro (i : Nat) hi
      replace hi : i ≤ 64 := hi
      have hl := rnds_len (u_sched b 64) s hs i
      have hl2 := sched_len b 64
      have hl3 := kc_len
      have hi1 : IntKind.i64.wrap ((i : Int) + 1) = (i : Int) + 1 := wrap_sm (by omega) (by omega)
      cbv
      repeat' first | apply And.intro | refine Classical.or_iff_not_imp_left.2 (fun _ => ?_) | exact trivial
      all_goals try (subst hF hU; simp only [real, us, Nat.le_eq, Int.cast_ofNat_Int, decide_eq_false_iff_not, decide_eq_true_eq, List.length_take, List.length_drop, List.length_append, List.length_replicate, List.length_set, List.length_cons, List.length_nil, List.length_zipWith] at *; (try simp (disch := omega) only [wrap_sm] at *); omega)
      · have h64 := lt_g (j := i) (n := 64) (by subst hF; assumption)
        refine ⟨(i + 1 : Nat), ?_⟩
        cbv; subst hF hU
        exact ⟨by show i + 1 ≤ 64; omega, by show 64 - (i + 1) < 64 - i; omega, ⟨hi1, trivial⟩, ⟨rndsR_step _ _ i, trivial⟩, trivial⟩
      · have h64 := ge_g (j := i) (n := 64) (by subst hF; assumption)
        have e : i = 64 := by omega
        refine ⟨(0 : Nat), ?_⟩
        cbv; subst hF hU e
        exact ⟨⟨add_zero _ _, trivial⟩, ⟨rfl, trivial⟩, trivial⟩
      · intro (j : Nat) hj
        replace hj : j ≤ 8 := hj
        have hr := rnds_len (u_sched b 64) s hs 64
        have ha := add_len s (u_rnds (u_sched b 64) s 64) hs hr j hj
        have hj1 : IntKind.i64.wrap ((j : Int) + 1) = (j : Int) + 1 := wrap_sm (by omega) (by omega)
        cbv
        repeat' first | apply And.intro | refine Classical.or_iff_not_imp_left.2 (fun _ => ?_) | exact trivial
        all_goals try (subst hF hU; simp only [real, us, Nat.le_eq, Int.cast_ofNat_Int, decide_eq_false_iff_not, decide_eq_true_eq, List.length_take, List.length_drop, List.length_append, List.length_replicate, List.length_set, List.length_cons, List.length_nil, List.length_zipWith] at *; (try simp (disch := omega) only [wrap_sm] at *); omega)
        · have h8 := lt_g (j := j) (n := 8) (by subst hF; assumption)
          refine ⟨(j + 1 : Nat), ?_⟩
          cbv; subst hF hU
          exact ⟨by show j + 1 ≤ 8; omega, by show 8 - (j + 1) < 8 - j; omega, ⟨hj1, trivial⟩, ⟨add_step s _ hs hr j h8, trivial⟩, trivial⟩
        · have h8 := ge_g (j := j) (n := 8) (by subst hF; assumption)
          have e : j = 8 := by omega
          subst hF hU e
          exact (add_comm8 s _ hs hr).trans (next_eq s b)
theorem k_ref2_block : SpecOK Try.prog 98 (s_ref2_block real us) := by
  refine pure_sound (x := x_ref2_block real us) ⟨tt_ok, ok_ref2_block, Go.Vc.ks_nil⟩ mixed Try.func98 rfl rfl (by kernel_rfl) ?_
  intro l c rs hg hc
  unfold g_ref2_block at hg
  split at hg
  · cases hg; exact ⟨Nat.le_of_ble_eq_true rfl, an_ref2_block real us _ _, [], c_ref2_block _ _ hc⟩
  · cases hg

end Go.Proofs.Ytmldccfchnlpgaa
