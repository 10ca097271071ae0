/- A part of the proof of given statements: a verified condition generator for the model, and contracts of the program's functions. No condition. -/
import Derived.Test.YtegnmmfjbncgnaaVcCode
set_option linter.unusedVariables false
set_option linter.unusedSimpArgs false
namespace Go.Vc
open Go Go.RowKit

section
variable {m : Hd} {w : World} {r : Ren}
theorem one_le (a b : AV) (v : Value) (h : avLe r a b) (hu : b ≠ .u) (ha : a.one = true) (hv : RV m w a v) : RV (hren m r) w b v := by
  have hb : b.one = true := by
    cases a <;> simp only [AV.one, Bool.false_eq_true, reduceCtorEq] at ha <;> cases b <;> first | rfl | exact (show False from h).elim
  exact RV_of_CR hb (CR_le a b [v] h (CR_of_RV ha hv).1)
mutual
theorem RV_le : ∀ (a b : AV) (v : Value), avLe r a b → b ≠ .u → RV m w a v → RV (hren m r) w b v
  | .u, b, v, h, hu, hv => by
    cases b <;> first | exact (show False from h).elim | exact absurd rfl hu
  | .ag n c, b, v, h, hu, hv => by
    cases b <;> first | exact (show False from h).elim | skip
    rename_i k d
    simp only [avLe] at h; simp only [RV] at hv ⊢
    obtain ⟨cs, h1, h2, h3⟩ := hv
    have := beq_nat h.1; subst this
    exact ⟨cs, h1, h2, RC_le c d cs h.2 h3⟩
  | .tup l, b, v, h, hu, hv => by
    cases b <;> first | exact (show False from h).elim | skip
    rename_i l'
    simp only [avLe] at h; simp only [RV] at hv ⊢
    obtain ⟨vs, h1, h2⟩ := hv
    exact ⟨vs, h1, RVs_le l l' vs h h2⟩
  | .i x, b, v, h, hu, hv => one_le (.i x) b v h hu rfl hv
  | .w8 x, b, v, h, hu, hv => one_le (.w8 x) b v h hu rfl hv
  | .w16 x, b, v, h, hu, hv => one_le (.w16 x) b v h hu rfl hv
  | .w32 x, b, v, h, hu, hv => one_le (.w32 x) b v h hu rfl hv
  | .w64 x, b, v, h, hu, hv => one_le (.w64 x) b v h hu rfl hv
  | .b x, b, v, h, hu, hv => one_le (.b x) b v h hu rfl hv
  | .kb x, b, v, h, hu, hv => one_le (.kb x) b v h hu rfl hv
  | .s x, b, v, h, hu, hv => one_le (.s x) b v h hu rfl hv
  | .p k g o, b, v, h, hu, hv => one_le (.p k g o) b v h hu rfl hv
  | .pe k g o e i, b, v, h, hu, hv => one_le (.pe k g o e i) b v h hu rfl hv
  | .pr a, b, v, h, hu, hv => one_le (.pr a) b v h hu rfl hv
  | .sl k g o e a n, b, v, h, hu, hv => one_le (.sl k g o e a n) b v h hu rfl hv
  | .rb e c, b, v, h, hu, hv => one_le (.rb e c) b v h hu rfl hv
  | .rw k, b, v, h, hu, hv => one_le (.rw k) b v h hu rfl hv
  | .nl, b, v, h, hu, hv => one_le .nl b v h hu rfl hv
  | .pn, b, v, h, hu, hv => one_le .pn b v h hu rfl hv
theorem RVs_le : ∀ (l l' : List AV) (vs : List Value), alLe r l l' → RVs m w l vs → RVs (hren m r) w l' vs
  | [], l', vs, h, hv => by
    cases l' with
    | nil => simpa only [RVs] using hv
    | cons _ _ => exact (show False from h).elim
  | a :: l, l', vs, h, hv => by
    cases l' with
    | nil => exact (show False from h).elim
    | cons b l' =>
      simp only [alLe] at h; simp only [RVs] at hv ⊢
      obtain ⟨v, q, h1, h2, h3⟩ := hv
      refine ⟨v, q, h1, ?_, RVs_le l l' q h.2 h3⟩
      by_cases hb : b = .u
      · subst hb; simp [RV]
      · exact RV_le a b v h.1 hb h2
end

theorem SegsR_le : ∀ (s s' : List Seg) (cs : List Value), segsLe r s s' → SegsR m w s cs → SegsR (hren m r) w s' cs
  | [], s', cs, h, hc => by
    cases s' with
    | nil => simpa only [SegsR] using hc
    | cons _ _ => exact (show False from h).elim
  | (n, c) :: l, s', cs, h, hc => by
    cases s' with
    | nil => exact (show False from h).elim
    | cons q l' =>
      obtain ⟨k, d⟩ := q
      simp only [segsLe] at h; simp only [SegsR] at hc ⊢
      obtain ⟨c1, c2, h1, h2, h3, h4⟩ := hc
      have := beq_nat h.1; subst this
      exact ⟨c1, c2, h1, h2, RC_le c d c1 h.2.1 h3, SegsR_le l l' c2 h.2.2 h4⟩
theorem acNil_RC {c : AC} (h : acNil c) : RC m w c [] := by
  cases c <;> simp only [acNil] at h <;> subst h <;> simp [RC, LR]
theorem ABR_le {k o : Nat} {ab0 ab : AB} (hr : rlook r k = some (some o)) (h : abLe r ab0 ab) (ha : ABR m w o ab0) : ABR (hren m r) w k ab := by
  have hm : (hren m r) k = m o := by rw [hren_apply, hr]
  cases ab with
  | dead => trivial
  | bk T s =>
    cases ab0 with
    | bk T0 s0 =>
      simp only [abLe] at h
      obtain ⟨g, cs, fz, h1, h2, h3, h4⟩ := ha
      have := beq_nat h.1; subst this
      exact ⟨g, cs, fz, hm.trans h1, h2, h3, SegsR_le _ _ _ h.2 h4⟩
    | dead => exact (show False from h).elim
    | row _ _ _ => exact (show False from h).elim
  | row T e c =>
    cases ab0 with
    | row T0 e0 c0 =>
      simp only [abLe] at h
      obtain ⟨v, n, cs, h1, h2, h3⟩ := ha
      have e1 := beq_nat h.1; have e2 := beq_nat h.2.1; subst e1; subst e2
      exact ⟨v, n, cs, hm.trans h1, h2, RC_le _ _ _ h.2.2 h3⟩
    | dead => exact (show False from h).elim
    | bk _ _ => exact (show False from h).elim
theorem abLe_live {ab0 ab : AB} (h : abLe r ab0 ab) (hl : ab.live = true) : ab0.live = true := by
  cases ab <;> cases ab0 <;> first | rfl | (simp [AB.live] at hl; done) | exact (show False from h).elim

theorem fresh2_spec : ∀ {r : Ren} {a k : Nat}, fresh2 (some a) r = true → rlook r k ≠ some (some a)
  | [], a, k, h => by simp [rlook]
  | (k', o') :: r, a, k, h => by
    simp only [fresh2] at h
    simp only [rlook]
    cases o' with
    | none =>
      have := fresh2_spec (k := k) (show fresh2 (some a) r = true from h)
      split
      · simp
      · exact this
    | some b =>
      simp only at h
      split at h
      · cases h
      · rename_i hb
        have := fresh2_spec (k := k) h
        split
        · intro e; cases e; simp at hb
        · exact this
theorem renOk_inj : ∀ {r : Ren} {k k' o : Nat}, renOk r = true → rlook r k = some (some o) → rlook r k' = some (some o) → k = k'
  | [], k, k', o, h, h1, h2 => by simp [rlook] at h1
  | (k0, o0) :: r, k, k', o, h, h1, h2 => by
    simp only [renOk] at h
    split at h
    · rename_i g1 g2 g3
      simp only [rlook] at h1 h2
      split at h1
      · rename_i e1
        have e1 := beq_nat e1; subst e1
        cases h1
        split at h2
        · rename_i e2; exact beq_nat e2
        · exact absurd h2 (fresh2_spec g3)
      · split at h2
        · cases h2
          exact absurd h1 (fresh2_spec g3)
        · exact renOk_inj h h1 h2
    · cases h
theorem renOk_lt : ∀ {r : Ren} {k : Nat} {o : Option Nat}, renOk r = true → rlook r k = some o → k < 64
  | [], k, o, h, h1 => by simp [rlook] at h1
  | (k0, o0) :: r, k, o, h, h1 => by
    simp only [renOk] at h
    split at h
    · rename_i g1 g2 g3
      simp only [rlook] at h1
      split at h1
      · rename_i e1
        have e1 := beq_nat e1; subst e1
        simp [Nat.blt] at g1; omega
      · exact renOk_lt h h1
    · cases h
theorem me_entry {me : Mem} : ∀ {l : List (Nat × Nat × AB)} {k : Nat} {ab : AB}, meLe r me l → mlook (tgMem l) k = some ab →
    (∃ o ab0, rlook r k = some (some o) ∧ mlook me o = some ab0 ∧ abLe r ab0 ab) ∨ (rlook r k = some none ∧ ∃ T e c, ab = .row T e c ∧ acNil c)
  | [], k, ab, h, h1 => by simp [tgMem, mlook] at h1
  | (t, k0, ab0) :: l, k, ab, h, h1 => by
    simp only [meLe] at h
    simp only [tgMem, mlook] at h1
    split at h1
    · rename_i e1
      have e1 := beq_nat e1; subst e1
      cases h1
      have h0 := h.1
      split at h0
      · rename_i o ho
        split at h0
        · rename_i ab1 hab
          exact .inl ⟨o, ab1, ho, hab, h0⟩
        · exact h0.elim
      · rename_i ho
        split at h0
        · rename_i T e c
          exact .inr ⟨ho, T, e, c, rfl, h0⟩
        · exact h0.elim
      · exact h0.elim
    · exact me_entry h.2 h1

theorem pinOk_spec : ∀ {l : List Nat} {j : Nat}, pinOk r l = true → j ∈ l → rlook r j = some (some j)
  | [], j, h, hj => by simp at hj
  | i :: q, j, h, hj => by
    simp only [pinOk] at h
    split at h
    · rename_i k hk
      split at h
      · rename_i e
        have := beq_nat e; subst this
        rcases List.mem_cons.1 hj with e | e
        · subst e; exact hk
        · exact pinOk_spec h e
      · cases h
    · cases h
theorem Le_sound {E : Env} {nt : Nat} {s : AS} {t : Tg} {a : Act} {pin : List Nat} (hpn : ∀ j v, (j, v) ∈ E.pin → j ∈ pin) (hkp : E.keep = none) (h : Le pin s t) (hr : StR E nt s m a w) : ∃ m', StR E nt t.as m' a w := by
  unfold Le at h
  split at h
  · rename_i r hren'
    split at h
    · rename_i hok hpk
      refine ⟨hren m r, ?_, ⟨fun k ab hab => ?_, fun k k' ab ab' v v' b hab hab' hl hl' hne hv hv' hb => ?_⟩, fun k v b hk hv => ?_, fun k hk => ?_, hr.tm, hr.df, ⟨hr.fr.os, hr.fr.tape, hr.fr.output, hr.fr.size, hr.fr.ok, hr.fr.block, fun k v b hk hv => ?_, fun m0 w1 he => (by rw [hkp] at he; cases he), fun j v hj => ?_⟩⟩
      · have hs : ∀ (l : List (Nat × AV)), slLe r s.sl l → SlR (hren m r) w l a := by
          intro l
          induction l with
          | nil => intro _ t; simp [sget, RV]
          | cons p q ih =>
            obtain ⟨d, av⟩ := p
            intro hl t
            simp only [slLe] at hl
            simp only [sget]
            split
            · rename_i e
              have := beq_nat e; subst this
              by_cases hu : av = .u
              · subst hu; simp [RV]
              · have h1 : avLe r (sget s.sl d) av := by
                  have := hl.1
                  split at this
                  · exact absurd rfl hu
                  · exact this
                exact RV_le _ _ _ h1 hu (hr.sl d)
            · exact ih hl.2 t
        exact hs t.sl h.1
      · rcases me_entry h.2 hab with ⟨o, ab0, h1, h2, h3⟩ | ⟨h1, T, e, c, rfl, h2⟩
        · exact ABR_le h1 h3 (hr.mem.at_ o ab0 h2)
        · exact ⟨.slice none 0 0, 0, [], by rw [hren_apply, h1], ⟨by simp, .inl ⟨rfl, rfl⟩⟩, acNil_RC h2⟩
      · rcases me_entry h.2 hab with ⟨o, ab0, h1, h2, h3⟩ | ⟨h1, T, e, c, rfl, h2⟩
        · rcases me_entry h.2 hab' with ⟨o', ab0', h1', h2', h3'⟩ | ⟨h1', _⟩
          · rw [hren_apply, h1] at hv
            rw [hren_apply, h1'] at hv'
            refine hr.mem.apart o o' ab0 ab0' v v' b h2 h2' (abLe_live h3 hl) (abLe_live h3' hl') (fun e => ?_) hv hv' hb
            subst e
            exact hne (renOk_inj hok h1 h1')
          · rw [hren_apply, h1'] at hv'
            cases hv'; simp [blk]
        · rw [hren_apply, h1] at hv
          cases hv; simp [blk] at hb
      · rcases hren_from hk with ⟨o, ho⟩ | rfl
        · exact hr.bd o v b ho hv
        · simp [blk] at hv
      · rw [hren_apply]
        cases hq : rlook r k with
        | none => rfl
        | some o =>
          have := renOk_lt hok hq
          simp only [Tg.as] at hk
          omega
      · rcases hren_from hk with ⟨o, ho⟩ | rfl
        · exact hr.fr.own o v b ho hv
        · simp [blk] at hv
      · rw [hren_apply, pinOk_spec hpk (hpn j v hj)]
        exact hr.fr.pin j v hj
    · exact h.elim
  · exact h.elim
end

/-! ## The conditions of a piece of code -/
def VX.ex : VX → Exit
  | .normal => .normal
  | .exit i => .exit i
  | .ret => .ret
theorem code_mono {P : Program} {c : Code} {Q Q' : Exit → Act → World → Prop} {a : Act} {w : World} (h : c.wp P Q a w) (hq : ∀ e a w, Q e a w → Q' e a w) : c.wp P Q' a w :=
  Code.wp_mono hq h
/-- a loop whose measure goes by what is known, not by the state itself -/
theorem wp_loop_ghost {P : Program} {c : Code} {Q : Exit → Act → World → Prop} {S : Type} (I : S → Act → World → Prop) (mu : S → Nat) (t0 : S) {a : Act} {w : World} (h0 : I t0 a w)
    (round : ∀ t a w, I t a w → c.wp P (Exit.then (fun a' w' => ∃ t', I t' a' w' ∧ mu t' < mu t) Q) a w) : (Code.loop c).wp P Q a w := by
  intro b k cs
  have key : ∀ n t a w, mu t = n → I t a w → ∃ e a' w', Q e a' w' ∧ Arrives P (lone (b.at a (.code c :: .inLoop c :: k)) cs w) b k cs e a' w' := by
    intro n
    induction n using Nat.strongRecOn with
    | _ n ih =>
      intro t a w hn hI
      obtain ⟨e, a1, w1, hq, harr⟩ := round t a w hI b (.inLoop c :: k) cs
      cases e with
      | normal =>
        obtain ⟨t', hI1, hlt⟩ := hq
        obtain ⟨e2, a2, w2, hq2, harr2⟩ := ih (mu t') (hn ▸ hlt) t' a1 w1 rfl hI1
        exact ⟨e2, a2, w2, hq2, .of_steps (Steps.trans harr (.one step_inLoop)) harr2⟩
      | exit id => exact ⟨_, a1, w1, hq, .pass (x := .inLoop c) rfl (fun _ _ => .inl (by simp)) harr⟩
      | goto l => exact ⟨_, a1, w1, hq, .pass (x := .inLoop c) rfl (fun _ _ => .inl (by simp)) harr⟩
      | ret => exact ⟨_, a1, w1, hq, .pass (x := .inLoop c) rfl (fun _ _ => .inl (by simp)) harr⟩
      | panic ch => exact ⟨_, a1, w1, hq, .pass (x := .inLoop c) rfl (fun _ _ => .inl (by simp)) harr⟩
      | outgrown => exact ⟨_, a1, w1, hq, .pass (x := .inLoop c) rfl (fun _ _ => .inl (by simp)) harr⟩
  obtain ⟨e, a', w', hq, harr⟩ := key _ t0 a w rfl h0
  exact ⟨e, a', w', hq, .of_steps (.one step_loop) harr⟩

/-- what is known behind: some state that the condition is true of -/
def Post (E : Env) (nt : Nat) (K : VX → AS → Prop) (e : Exit) (a : Act) (w : World) : Prop :=
  ∃ x s m, e = VX.ex x ∧ K x s ∧ StR E nt s m a w

section
variable {P : Program} {E : Env} {x : Cx} {an cu : Anns}
theorem region_seq {id : Nat} {ops : Array Oper} {Q : Exit → Act → World → Prop} {a : Act} {w : World} (h : wpList P ops Q ops.toList a w) : (Code.region id ops false).wp P Q a w := wp_region_list h

theorem vc_sound (hx : XOK P x) (hpn : ∀ j v, (j, v) ∈ E.pin → j ∈ x.pin) (hkp : E.keep = none ∨ (an = [] ∧ cu = [])) (hmx : P.follows .mixedOrders = true) : ∀ (c : Code) (s : AS) (K : VX → AS → Prop), drawsOk x.tt x.dr c = true → vc real x an cu c s K → ∀ (m : Hd) (a : Act) (w : World), StR E x.nt s m a w → c.wp P (Post E x.nt K) a w
  | .skip, s, K, hdr, h, m, a, w, hr => wp_skip ⟨.normal, s, m, rfl, h, hr⟩
  | .region id ops draw, s, K, hdr, h, m, a, w, hr => by
    simp only [vc] at h
    cases draw with
    | false =>
      refine region_seq ?_
      have := opsVc_sound (Q := Post E x.nt K) hx _ ops.toList ops.toList s m a w _ h hr (fun s' m' a' w' hr' hk => ⟨.normal, s', m', rfl, hk, hr'⟩)
      simpa using this
    | true =>
      simp only at h
      split at h
      · rename_i hlow
        exact drawVc_sound hx hmx hdr hlow h hr fun s' m' a' w' hr' hk => ⟨.normal, s', m', rfl, hk, hr'⟩
      · exact h.elim
  | .seq c d, s, K, hdr, h, m, a, w, hr => by
    simp only [vc] at h
    simp only [drawsOk, Bool.and_eq_true] at hdr
    refine wp_seq ?_
    split at h
    · refine code_mono (vc_sound hx hpn hkp hmx c s _ hdr.1 h m a w hr) ?_
      rintro e a' w' ⟨y, s', m', rfl, hk, hr'⟩
      cases y with
      | normal => exact vc_sound hx hpn hkp hmx d s' K hdr.2 hk m' a' w' hr'
      | exit i => exact ⟨.exit i, s', m', rfl, hk, hr'⟩
      | ret => exact ⟨.ret, s', m', rfl, hk, hr'⟩
    · rename_i A hA
      have hkp' : E.keep = none := hkp.resolve_right (fun e => by rw [e.2] at hA; simp [alook] at hA)
      refine code_mono (vc_sound hx hpn hkp hmx c s _ hdr.1 h.1 m a w hr) ?_
      rintro e a' w' ⟨y, s', m', rfl, hk, hr'⟩
      cases y with
      | normal =>
        obtain ⟨t, ht1, ht2⟩ := hk
        obtain ⟨m2, hr2⟩ := Le_sound hpn hkp' ht2 hr'
        exact vc_sound hx hpn hkp hmx d _ K hdr.2 (h.2 t ht1) m2 a' w' hr2
      | exit i => exact ⟨.exit i, s', m', rfl, hk, hr'⟩
      | ret => exact ⟨.ret, s', m', rfl, hk, hr'⟩
  | .cond c t f, s, K, hdr, h, m, a, w, hr => by
    simp only [vc] at h
    simp only [drawsOk, Bool.and_eq_true] at hdr
    have hv := oget_sound hr.sl c
    split at h
    · rename_i hq
      rw [hq] at hv
      simp only [RV, CR, List.cons.injEq, and_true] at hv
      exact wp_cond_true hv (vc_sound hx hpn hkp hmx t s K hdr.1 h m a w hr)
    · rename_i hq
      rw [hq] at hv
      simp only [RV, CR, List.cons.injEq, and_true] at hv
      exact wp_cond_false hv (vc_sound hx hpn hkp hmx f s K hdr.2 h m a w hr)
    · rename_i y hq
      rw [hq] at hv
      simp only [RV, CR, List.cons.injEq, and_true] at hv
      cases y with
      | true => exact wp_cond_true hv (vc_sound hx hpn hkp hmx t s K hdr.1 (h.1.resolve_left (fun e => by simp [real] at e)) m a w hr)
      | false => exact wp_cond_false hv (vc_sound hx hpn hkp hmx f s K hdr.2 (h.2.resolve_left (fun e => by simp [real] at e)) m a w hr)
    · exact h.elim
  | .block id b, s, K, hdr, h, m, a, w, hr => by
    simp only [vc] at h
    refine wp_block ?_
    refine code_mono (vc_sound hx hpn hkp hmx b s _ hdr h m a w hr) ?_
    rintro e a' w' ⟨y, s', m', rfl, hk, hr'⟩
    cases y with
    | normal => exact ⟨.normal, s', m', rfl, hk, hr'⟩
    | exit i =>
      simp only [VX.ex, Exit.inBlock]
      simp only at hk
      split at hk
      · rename_i hb
        rw [if_pos (beq_nat hb)]
        exact ⟨.normal, s', m', rfl, hk, hr'⟩
      · rename_i hb
        rw [if_neg (fun e => by subst e; simp at hb)]
        exact ⟨.exit i, s', m', rfl, hk, hr'⟩
    | ret => exact ⟨.ret, s', m', rfl, hk, hr'⟩
  | .exit id, s, K, hdr, h, m, a, w, hr => wp_exit ⟨.exit id, s, m, rfl, h, hr⟩
  | .ret, s, K, hdr, h, m, a, w, hr => wp_ret ⟨.ret, s, m, rfl, h, hr⟩
  | .loop b, s, K, hdr, h, m, a, w, hr => by
    simp only [vc] at h
    split at h
    · rename_i A hA
      have hkp' : E.keep = none := hkp.resolve_right (fun e => by rw [e.1] at hA; simp [alook] at hA)
      obtain ⟨⟨t0, hp0, hl0⟩, hround⟩ := h
      obtain ⟨m0, hr0⟩ := Le_sound hpn hkp' hl0 hr
      refine wp_loop_ghost (S := A.S) (fun t a w => A.pre t ∧ ∃ m, StR E x.nt (A.tg t).as m a w) A.mu t0 ⟨hp0, m0, hr0⟩ ?_
      rintro t a' w' ⟨hp, m', hr'⟩
      refine code_mono (vc_sound hx hpn hkp hmx b _ _ hdr (hround t hp) m' a' w' hr') ?_
      rintro e a2 w2 ⟨y, s2, m2, rfl, hk, hr2⟩
      cases y with
      | normal =>
        obtain ⟨t', hp', hmu, hle⟩ := hk
        obtain ⟨m3, hr3⟩ := Le_sound hpn hkp' hle hr2
        exact ⟨t', ⟨hp', m3, hr3⟩, hmu⟩
      | exit i => exact ⟨.exit i, s2, m2, rfl, hk, hr2⟩
      | ret => exact ⟨.ret, s2, m2, rfl, hk, hr2⟩
    · exact h.elim
  | .rangeFunc _ _ _ _, s, K, hdr, h, m, a, w, hr => by simp [vc] at h
  | .scope _, s, K, hdr, h, m, a, w, hr => by simp [vc] at h
  | .label _, s, K, hdr, h, m, a, w, hr => by simp [vc] at h
  | .goto _, s, K, hdr, h, m, a, w, hr => by simp [vc] at h
  | .refuse _, s, K, hdr, h, m, a, w, hr => by simp [vc] at h
end
end Go.Vc
