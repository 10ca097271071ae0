/- A part of the proof of given statements: a verified condition generator for the model, and contracts of the program's functions. No condition. -/
import Derived.Test.YtegnmmfjbncgnaaVcDraw3
set_option linter.unusedVariables false
set_option linter.unusedSimpArgs false
namespace Go.Vc
open Go Go.RowKit
section
variable {P : Program} {E : Env} {x : Cx} {drs : Drops} {ops : List Oper} {B : List Nat} {nk0 : Nat} {s0 : AS} {st : Nat → AS} {res : Nat → Option Eff} {m : Hd} {a : Act} {w : World}
theorem setp {listed : Array Bool} {i : Nat} (hi : i < listed.size) (j : Nat) : (listed.setIfInBounds i true).getD j false = (decide (j = i) || listed.getD j false) := by
  by_cases e : j = i
  · subst e; simp [Array.getD_eq_getD_getElem?, hi]
  · have : i ≠ j := fun h => e h.symm
    simp [Array.getD_eq_getD_getElem?, Array.getElem?_setIfInBounds_ne this, e]
/-- one operation that is ready -/
theorem draw_step (hx : XOK P x) (ht : Trc x drs nk0 ops s0 st res) (hd : DStat x.tt drs ops B) {p : Nat → Bool} {Q : Exit → Act → World → Prop} (hI : Inv P E x nk0 ops s0 st res p m a w) {i : Nat} {o : Oper} (ho : ops[i]? = some o) (hp : p i = false)
    (hr : ∀ e, e ∈ o.after → Region.binds .any e = true → p e.on = true) :
    wpOp P ops.toArray Q i (fun a' w' => ∃ m', Inv P E x nk0 ops s0 st res (fun j => decide (j = i) || p j) m' a' w') a w := by
  have hlen := (List.getElem?_eq_some_iff.1 ho).1
  obtain ⟨s', b, hg, hs⟩ := ht.step i o ho
  have hsl : ∀ j want oj dj, o.guard = some (j, want) → ops[j]? = some oj → oj.dst = some dj → RV m w (sget (st i).sl dj) (a.tmps.getD dj undef) := by
    intro j want oj dj h1 h2 h3
    refine inv_slot ht hd hI ho hp hr fun j' q hq hne hqd => ?_
    have : j' = j := by
      by_cases e : j' = j
      · exact e
      · exact absurd h3 (hd.ds j oj j' q dj h2 hq e hqd)
    subst this
    unfold comp
    rw [hd.gd i o _ want ho h1]
    rfl
  have hw := gd_wanted hg hsl
  unfold wpOp
  simp only [List.getElem?_toArray, ho]
  rw [hw]
  have closed' : ∀ i' o' e, ops[i']? = some o' → (decide (i' = i) || p i') = true → e ∈ o'.after → Region.binds .any e = true → (decide (e.on = i) || p e.on) = true := by
    intro i' o' e h1 h2 h3 h4
    by_cases e1 : i' = i
    · subst e1
      rw [ho] at h1; cases h1
      simp [hr e h3 h4]
    · simp [hI.closed i' o' e h1 (by simpa [e1] using h2) h3 h4]
  split at hs
  · rename_i e he
    obtain ⟨rfl, hdst, hrun, hc, hpo, hst⟩ := hs
    rw [if_pos rfl]
    refine .inl ?_
    obtain ⟨me, hme, hml⟩ := hI.mem
    have hnk : s'.nk = nk0 + 8 * i := by rw [(gd_rest hg).2, ht.nks i (by omega)]
    have hbase : Base m w me s'.nk := by
      refine ⟨hme, hI.bd, fun k h1 h2 => ?_⟩
      cases hk : m k with
      | none => rfl
      | some v =>
        exfalso
        rcases hI.keys k (by rw [hk]; simp) with h3 | ⟨j, h3, h4, h5⟩
        · omega
        · have : j = i := by omega
          subst this; rw [hp] at h3; cases h3
    have hslr : SlR m w (rdSl s'.sl (Oper.reads o)) a := by
      intro t
      rw [rdSl_get]
      split
      · rename_i hmem
        exact ((gd_slot hg t) m w _).1 (inv_slot ht hd hI ho hp hr fun j q hq hne hqd => hd.rd i o j q t ho hq hne hqd hmem)
      · simp [RV]
    have hrun2 : (aop real x.tt x.sp (rdSl s'.sl (Oper.reads o)) s'.nk o.op).run me = some e := by
      refine run_mono (fun k ab hk => ?_) _ _ hrun
      rw [(gd_rest hg).1] at hk
      rw [hml]
      exact inv_mem ht hd hI ho hp hr hk
    refine (aop_sound hx.tt hx.sp hbase hslr hrun2 hc).wp fun v w' ⟨m', hk⟩ => ⟨m', ?_⟩
    have hpres := hk.tr.pres
    refine ⟨closed', hk.bd, hI.fr.step hk.tr, by rw [put_size]; exact hI.tm, by rw [put_defers]; exact hI.df, fun k hk1 => ?_, fun t htn => ?_, fun j q t hq hpj hqt => ?_, mputs e.puts me, hk.mem, fun k => ?_⟩
    · rcases hk.keys k hk1 with h1 | h1
      · rcases hI.keys k h1 with h2 | ⟨j, h2, h3⟩
        · exact .inl h2
        · exact .inr ⟨j, by simp [h2], h3⟩
      · exact .inr ⟨i, by simp, by omega, by omega⟩
    · have h1 : o.dst ≠ some t := htn i o ho (by simp)
      rw [put_ne a h1]
      exact RV_mono hpres _ _ (hI.old t fun j q hq hpj => htn j q hq (by simp [hpj]))
    · by_cases e1 : j = i
      · subst e1
        rw [ho] at hq; cases hq
        have h1 : ((a.put o.dst v).tmps.getD t undef) = v := by
          rw [hqt] at hdst ⊢
          simp only [dstOk, Nat.blt] at hdst
          have := Nat.le_of_ble_eq_true hdst
          have h2 : t < a.tmps.size := by rw [hI.tm]; omega
          simp [Act.put, h2]
        rw [h1]
        refine ((ht.keep hd ho hqt (ops.length - (j + 1)) (j + 1) (by omega) (by omega)) m' w' v).1 ?_
        rw [hst, hqt]
        simp only [AS.upd]
        rw [sget_cons, if_pos rfl]
        exact hk.rv
      · have h1 : o.dst ≠ some t := fun h => hd.ds i o j q t ho hq e1 hqt h
        rw [put_ne a h1]
        exact RV_mono hpres _ _ (hI.new j q t hq (by simpa [e1] using hpj) hqt)
    · rw [mlook_mputs]
      split
      · rename_i ab hab
        exact (inv_top ht hd hI ho hp he hab).symm
      · rename_i hab
        rw [hml]
        refine look_congr _ fun j e' hj he' hne => ?_
        have : j ≠ i := fun e1 => by
          subst e1
          rw [he] at he'; cases he'
          exact hne hab
        simp [this]
  · rename_i he
    obtain ⟨rfl, hst⟩ := hs
    rw [if_neg (by simp)]
    refine ⟨m, closed', hI.bd, hI.fr, by rw [put_size]; exact hI.tm, by rw [put_defers]; exact hI.df, fun k hk1 => ?_, fun t htn => ?_, fun j q t hq hpj hqt => ?_, ?_⟩
    · rcases hI.keys k hk1 with h2 | ⟨j, h2, h3⟩
      · exact .inl h2
      · exact .inr ⟨j, by simp [h2], h3⟩
    · have h1 : o.dst ≠ some t := htn i o ho (by simp)
      rw [put_ne a h1]
      exact hI.old t fun j q hq hpj => htn j q hq (by simp [hpj])
    · by_cases e1 : j = i
      · subst e1
        rw [ho] at hq; cases hq
        refine ((ht.keep hd ho hqt (ops.length - (j + 1)) (j + 1) (by omega) (by omega)) m w _).1 ?_
        have h0 : SlR m w [] a := fun t => by simp [sget, RV]
        have := h0.putU (d := t) t
        rw [hst, hqt]
        simp only [AS.skipD, AS.putO, AS.put]
        rw [sget_cons, if_pos rfl]
        rw [sget_cons, if_pos rfl] at this
        exact this
      · have h1 : o.dst ≠ some t := fun h => hd.ds i o j q t ho hq e1 hqt h
        rw [put_ne a h1]
        exact hI.new j q t hq (by simpa [e1] using hpj) hqt
    · obtain ⟨me, hme, hml⟩ := hI.mem
      refine ⟨me, hme, fun k => ?_⟩
      rw [hml]
      refine look_congr _ fun j e' hj he' hne => ?_
      have : j ≠ i := fun e1 => by subst e1; rw [he] at he'; cases he'
      simp [this]

theorem draw_any (hx : XOK P x) (ht : Trc x drs nk0 ops s0 st res) (hd : DStat x.tt drs ops B) {Q : Exit → Act → World → Prop} (hQ : ∀ m' a' w', StR E x.nt (st ops.length) m' a' w' → Q .normal a' w') :
    ∀ (fuel : Nat) (listed : Array Bool) (m : Hd) (a : Act) (w : World), listed.size = ops.length → listed.toList.count false ≤ fuel → Inv P E x nk0 ops s0 st res (fun j => listed.getD j false) m a w → wpAny P .any ops.toArray Q fuel listed a w := by
  have done : ∀ (listed : Array Bool) (m : Hd) (a : Act) (w : World), listed.size = ops.length → Inv P E x nk0 ops s0 st res (fun j => listed.getD j false) m a w → Region.ready .any ops.toArray listed = [] → Q .normal a w := by
    intro listed m a w hs hI hr
    have all : ∀ i, i < ops.length → listed.getD i false = true := by
      intro i
      induction i using Nat.strongRecOn with
      | _ i ih =>
        intro hi
        obtain ⟨o, ho⟩ := Trc.op (ops := ops) i hi
        cases hp : listed.getD i false with
        | true => rfl
        | false =>
          exfalso
          have : i ∈ Region.ready .any ops.toArray listed := by
            rw [mem_ready]
            refine ⟨?_, o, by simpa using ho, fun e he hb => ih e.on (hd.on i o e ho he hb) (by have := hd.on i o e ho he hb; omega)⟩
            rw [Array.getD_eq_getD_getElem?] at hp ⊢
            rw [Array.getElem?_eq_getElem (by omega)] at hp ⊢
            exact hp
          rw [hr] at this; cases this
    refine hQ m a w ⟨fun t => ?_, ?_, hI.bd, fun k hk => ?_, hI.tm, hI.df, hI.fr⟩
    · by_cases hxx : ∃ (j : Nat) (q : Oper), ops[j]? = some q ∧ q.dst = some t
      · obtain ⟨j, q, hq, hqt⟩ := hxx
        exact hI.new j q t hq (all j (List.getElem?_eq_some_iff.1 hq).1) hqt
      · exact ((ht.fwd ops.length (Nat.le_refl _) (fun j q _ hq e => hxx ⟨j, q, hq, e⟩)) m w _).1 (hI.old t fun j q hq _ e => hxx ⟨j, q, hq, e⟩)
    · obtain ⟨me, hme, hml⟩ := hI.mem
      have heq : ∀ k, mlook (st ops.length).me k = mlook me k := by
        intro k
        rw [ht.mes k _ (Nat.le_refl _), hml]
        exact look_congr _ fun j e hj _ _ => (all j hj).symm
      exact ⟨fun k ab h => hme.at_ k ab (by rw [← heq]; exact h), fun k k' ab ab' v v' b h h' => hme.apart k k' ab ab' v v' b (by rw [← heq]; exact h) (by rw [← heq]; exact h')⟩
    · rw [ht.nks _ (Nat.le_refl _)] at hk
      cases hm : m k with
      | none => rfl
      | some v =>
        exfalso
        rcases hI.keys k (by rw [hm]; simp) with h1 | ⟨i, h1, h2, h3⟩
        · omega
        · have : i < ops.length := by
            rw [← hs]
            by_cases h : i < listed.size
            · exact h
            · rw [Array.getD_eq_getD_getElem?, Array.getElem?_eq_none (by omega)] at h1; cases h1
          omega
  intro fuel
  induction fuel with
  | zero =>
    intro listed m a w hs hcnt hI
    have hr : Region.ready .any ops.toArray listed = [] := by
      cases hq : Region.ready .any ops.toArray listed with
      | nil => rfl
      | cons i r =>
        exfalso
        have : i ∈ Region.ready .any ops.toArray listed := by rw [hq]; simp
        rw [mem_ready] at this
        obtain ⟨h1, o, h2, _⟩ := this
        have hi : i < listed.size := by rw [hs]; exact (List.getElem?_eq_some_iff.1 (by simpa using h2)).1
        rw [Array.getD_eq_getD_getElem?, Array.getElem?_eq_getElem hi] at h1
        have : false ∈ listed.toList := by
          have h1 : listed[i] = false := h1
          rw [← h1]; simp
        have := List.count_pos_iff.2 this
        omega
    exact ⟨hr, done listed m a w hs hI hr⟩
  | succ fuel ih =>
    intro listed m a w hs hcnt hI
    refine ⟨fun hr => done listed m a w hs hI hr, fun i hi => ?_⟩
    rw [mem_ready] at hi
    obtain ⟨h1, o, h2, h3⟩ := hi
    have h2 : ops[i]? = some o := by simpa using h2
    have hil : i < listed.size := by rw [hs]; exact (List.getElem?_eq_some_iff.1 h2).1
    have h1' : listed[i] = false := by
      rw [Array.getD_eq_getD_getElem?, Array.getElem?_eq_getElem hil] at h1; exact h1
    have hp : listed.getD i false = false := by
      rw [Array.getD_eq_getD_getElem?, Array.getElem?_eq_getElem hil]; exact h1'
    refine wpOp_mono (fun a' w' ⟨m', hI'⟩ => ?_) (draw_step hx ht hd hI h2 hp h3)
    refine ih (listed.setIfInBounds i true) m' a' w' (by simp [hs]) ?_ ?_
    · have hil' : i < listed.toList.length := by simpa using hil
      have e1 : (listed.setIfInBounds i true).toList = listed.toList.set i true := by simp
      have h4 : listed.toList[i] = false := by simpa using h1'
      have := List.count_set (a := true) (b := false) hil'
      rw [e1, this, h4]
      have h5 : 0 < listed.toList.count false := List.count_pos_iff.2 (by rw [← h4]; exact List.getElem_mem _)
      simp only [BEq.rfl, if_true]
      have e2 : ((true == false) = true) = False := by simp
      simp only [e2, if_false]
      omega
    · have : (fun j => (listed.setIfInBounds i true).getD j false) = fun j => decide (j = i) || listed.getD j false := by funext j; exact setp hil j
      rw [this]; exact hI'

theorem calm_drawn (m : Hd) (w : World) (n : Nat) : Pres m w m { w with drawn := n } := ⟨fun _ _ h => h, fun b h => ⟨rfl, h⟩⟩
theorem StR.drawn {s : AS} (h : StR E x.nt s m a w) (n : Nat) : StR E x.nt s m a { w with drawn := n } :=
  ⟨h.sl.mono (calm_drawn m w n), ⟨fun k ab hk => ABR_keep (h.mem.at_ k ab hk) (fun _ h => h) (fun _ _ _ _ => rfl) (calm_drawn m w n), h.mem.apart⟩, h.bd, h.nk, h.tm, h.df,
    ⟨h.fr.os, h.fr.tape, h.fr.output, h.fr.size, h.fr.ok, h.fr.block, h.fr.own, fun m0 w1 he => (h.fr.keep m0 w1 he).trans (calm_drawn m w n), h.fr.pin⟩⟩
theorem drawVc_sound (hx : XOK P x) (hm : P.follows .mixedOrders = true) {id : Nat} {opa : Array Oper} (hd : drawOk x.tt drs opa.toList = true) {s : AS} (hlow : memBelow s.nk s.me = true) {K : AS → Prop} {mu : Bool} (h : drawVc real x mu drs s.nk opa.toList 0 opa.toList s K) (hr : StR E x.nt s m a w)
    {Q : Exit → Act → World → Prop} (hQ : ∀ s' m' a' w', StR E x.nt s' m' a' w' → K s' → Q .normal a' w') : (Code.region id opa true).wp P Q a w := by
  obtain ⟨st, res, h0, hst, hK⟩ := drawVc_trace opa.toList 0 s K h
  simp only [Nat.zero_add] at hst hK
  refine wp_region_any hm ?_
  have hr := hr.drawn (w.drawn + 1)
  have := draw_any hx ⟨h0, rfl, hlow, hst⟩ (drawOk_spec hd) (Q := Q) (fun m' a' w' h => hQ _ m' a' w' h hK) opa.size (Array.replicate opa.size false) m a { w with drawn := w.drawn + 1 } (by simp) (by simp) ?_
  · simpa using this
  · have hn : ∀ j, (Array.replicate opa.size false).getD j false = false := by
      intro j
      rw [Array.getD_eq_getD_getElem?]
      by_cases h : j < opa.size <;> simp [h]
    refine ⟨fun i o e _ hp => (by rw [hn] at hp; cases hp), hr.bd, hr.fr, hr.tm, hr.df, fun k hk => ?_, fun t _ => hr.sl t, fun j q t _ hp => (by rw [hn] at hp; cases hp), s.me, hr.mem, fun k => ?_⟩
    · by_cases h : k < s.nk
      · exact .inl h
      · exact absurd (hr.nk k (by omega)) hk
    · rw [look_up (i := 0) _ (Nat.zero_le _) (fun j hj hp => by rw [hn] at hp; cases hp)]
      rfl
end
end Go.Vc
