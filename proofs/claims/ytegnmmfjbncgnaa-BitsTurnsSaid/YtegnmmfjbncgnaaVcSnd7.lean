/- A part of the proof of given statements: a verified condition generator for the model, and contracts of the program's functions. No condition. -/
import Derived.Test.YtegnmmfjbncgnaaVcSnd6
set_option linter.unusedVariables false
set_option linter.unusedSimpArgs false
namespace Go.Vc
open Go Go.RowKit

section
variable {P : Program} {tt : TT} {m : Hd} {w : World} {me : Mem} {kb : Nat}

/-- a new row under a new name -/
theorem Base.newRow (hb : Base m w me kb) {w' : World} {T e n : Nat} {v : Value} {c : AC} {cs : List Value} (ho : OwnRow w' T e v n cs) (hrc : RC m w c cs) (h1 : v.oneCell' = true)
    (hs : w.heap.size ≤ w'.heap.size) (hv : ∀ b, blk v = some b → w.heap.size ≤ b) (hold : ∀ b, b < w.heap.size → w'.heap[b]? = w.heap[b]?)
    (os : w'.os = w.os) (tape : w'.tape = w.tape) (output : w'.output = w.output) : OkE m w me kb (.rw kb) [(kb, .row T e c)] v (hput m kb v) w' := by
  have hk := hb.fresh kb (Nat.le_refl _) (by omega)
  have htr := tr_new (v := v) hk hs hv hold os tape output
  have hlt : ∀ b, blk v = some b → b < w'.heap.size := by
    intro b hbl
    rcases ho.2 with ⟨rfl, _⟩ | ⟨g, cap, cur, fz, rfl, h2, _⟩
    · simp [blk] at hbl
    · simp only [blk, Option.some.injEq] at hbl
      subst hbl
      exact (Array.getElem?_eq_some_iff.1 h2).1
  refine hb.new hs hv hlt hold os tape output ⟨v, n, cs, by simp [hput_apply], ho, RC_mono htr.pres _ _ hrc⟩ ?_
  simp only [RV, CR]
  exact ⟨v, by simp [hput_apply], rfl, h1⟩

theorem append_core (ht : TTok P tt) (hb : Base m w me kb) {T U te by_ : Nat} {ty : Nat} {z0 : AV} {kk : TK} {ek : EK} {s : AV} {vs vx : Value} {d : AC} {news : List Value} {d2 : TypeDesc} {e : Eff}
    (hT : P.underlying T = some (.slice te)) (hU : P.underlying U = some d2) (hd2 : (∃ e2, d2 = .slice e2) ∨ d2 = .string) (hl : tlook tt te = some ⟨kk, 1, by_, .one z0, some ek⟩)
    (hs : RV m w s vs) (hd : RC m w d news) (hd1 : d.esz = some 1) (hsrc : Src P w vx news) (hc : e.c)
    (h : (appendK real kb te by_ s d).run me = some e) :
    ∃ v m' w', (Builtin.append_ #[T, U] ty #[vs, vx]).run P w = .ok v w' ∧ OkE m w me kb e.v e.puts v m' w' := by
  obtain ⟨i, z, hi, hsz, hby, hz, hzs, _, hek⟩ := (ht.look hl).i
  obtain ⟨hzc, _, _⟩ := hek ek rfl
  have hdl := RC_len hd1 hd
  have hk := hb.fresh kb (Nat.le_refl _) (by omega)
  unfold appendK at h
  split at h
  · -- onto nil
    simp only [Look.run, Option.some.injEq] at h
    subst h
    simp only [RV, CR, List.cons.injEq, and_true] at hs
    subst hs
    have hc1 : d.len real * by_ ≤ 140737488355328 := hc.1
    have hc2 : d.len real ≤ 4611686018427387904 := hc.2
    have hby' : i.bytes = by_ := hby
    have h0 : OwnRow w te 1 (.slice none 0 0) 0 [] := ⟨by simp, .inl ⟨rfl, rfl⟩⟩
    obtain ⟨v', w', g1, g2, g3, g4, g5, g6, g7⟩ := run_append_row (ty := ty) hT hU hd2 hi hsz hz hzc h0 hsrc (by rw [hby']; simp; rw [show news.length = d.len real by omega]; exact hc1) (by omega)
    rw [List.nil_append] at g2
    refine ⟨v', _, w', g1, hb.newRow g2 hd g3 ?_ ?_ ?_ g5 g6 g7⟩
    · rcases g4 with ⟨h1, _⟩ | ⟨h1, _⟩ <;> omega
    · intro b hbb
      rcases g4 with ⟨_, _, h2, _⟩ | ⟨_, h2, _⟩
      · rw [h2] at hbb; simp [blk] at hbb
      · rw [h2] at hbb; cases hbb; omega
    · rcases g4 with ⟨_, _, _, h3⟩ | ⟨_, _, h3⟩
      · exact fun b _ => h3 b (by simp [blk])
      · exact h3
  · -- onto a row of the call's own
    rename_i k
    obtain ⟨ab, hab, h⟩ := Look.run_look h
    split at h
    · rename_i te' c
      split at h
      · rename_i hbq
        have := beq_nat hbq
        subst this
        split at h
        · rename_i c' happ
          simp only [Look.run, Option.some.injEq] at h
          subst h
          obtain ⟨v0, n, cs, h2, h3, h4⟩ := row_cells hb.mem hab
          simp only [RV, CR] at hs
          obtain ⟨v1, h5, h6, h6b⟩ := hs
          rw [h2] at h5; cases h5
          simp only [List.cons.injEq, and_true] at h6
          subst h6
          obtain ⟨r1, r2, r3, r4⟩ := RC_app happ h4 hd
          have hcl := RC_len r2 h4
          have hn := h3.1
          have hc1 : (c.len real + d.len real) * by_ ≤ 140737488355328 := hc.1
          have hc2 : c.len real + d.len real ≤ 4611686018427387904 := hc.2
          have hby' : i.bytes = by_ := hby
          obtain ⟨v', w', g1, g2, g3, g4, g5, g6, g7⟩ := run_append_row (ty := ty) hT hU hd2 hi hsz hz hzc h3 hsrc (by rw [hby', show n + news.length = c.len real + d.len real by omega]; exact hc1) (by omega)
          refine ⟨v', hput m kb v', w', g1, ?_⟩
          -- memory: the new name, the old one dead
          have hne : kb ≠ k := fun e => by rw [← e, hk] at h2; cases h2
          have hnew : ∀ b, blk v' = some b → blk vs = some b ∨ w.heap.size ≤ b := by
            intro b hbb
            rcases g4 with ⟨_, _, q2, _⟩ | ⟨_, q2, _⟩
            · rw [q2] at hbb; exact .inl hbb
            · rw [q2] at hbb; cases hbb; exact .inr (Nat.le_refl _)
          have hsize : w.heap.size ≤ w'.heap.size := by rcases g4 with ⟨h1, _⟩ | ⟨h1, _⟩ <;> omega
          have hold : ∀ b, b < w.heap.size → blk vs ≠ some b → w'.heap[b]? = w.heap[b]? := by
            rcases g4 with ⟨_, _, _, q3⟩ | ⟨_, _, q3⟩
            · exact fun b _ hb2 => q3 b hb2
            · exact fun b hb1 _ => q3 b hb1
          have hlt : ∀ b, blk v' = some b → b < w'.heap.size := by
            intro b hbl
            rcases g2.2 with ⟨rfl, _⟩ | ⟨g, cap, cur, fz, rfl, q2, _⟩
            · simp [blk] at hbl
            · simp only [blk, Option.some.injEq] at hbl
              subst hbl
              exact (Array.getElem?_eq_some_iff.1 q2).1
          have htr : Tr m w (hput m kb v') w' := by
            refine ⟨fun t u htu => ?_, rfl, hsize, fun b hb1 hb2 => hold b hb1 (hb2 k vs h2), fun t u b htu hub => ?_, g5, g6, g7⟩
            · rw [hput_apply]; rw [if_neg (fun e => by rw [e, hk] at htu; cases htu)]; exact htu
            · rw [hput_apply] at htu
              split at htu
              · cases htu
                rcases hnew b hub with q | q
                · exact .inl ⟨k, vs, h2, q⟩
                · exact .inr q
              · exact .inl ⟨t, u, htu, hub⟩
          refine ⟨htr, ?_, ⟨fun t a ha => ?_, fun t t' a a' u u' b ha ha' hla hla' hnn hu hu' hbb hbb' => ?_⟩, fun t ht' => ?_, fun t u b htu hub => ?_⟩
          · simp only [RV, CR]; exact ⟨v', by simp [hput_apply], rfl, g3⟩
          · simp only [mputs, mlook_cons] at ha
            split at ha
            · rename_i e; subst e; cases ha
              exact ⟨v', _, _, by simp [hput_apply], g2, RC_mono htr.pres _ _ r1⟩
            · split at ha
              · cases ha; trivial
              · rename_i e1 e2
                cases hla : a.live with
                | false => cases a <;> simp [AB.live] at hla; trivial
                | true =>
                  refine ABR_keep (hb.mem.at_ t a ha) (htr.mu t) (fun u b hu hbu => hold b (hb.bd t u b hu hbu) (fun e3 => ?_)) htr.pres
                  exact hb.mem.apart k t _ a vs u b hab ha rfl hla e2 h2 hu e3 hbu
          · simp only [mputs, mlook_cons] at ha ha'
            by_cases e1 : kb = t
            · subst e1
              rw [if_pos rfl] at ha
              rw [if_neg hnn] at ha'
              rw [hput_apply] at hu hu'
              rw [if_pos rfl] at hu
              rw [if_neg (fun e => hnn e.symm)] at hu'
              cases hu
              by_cases e2 : k = t'
              · subst e2; rw [if_pos rfl] at ha'; cases ha'; simp [AB.live] at hla'
              · rw [if_neg e2] at ha'
                rcases hnew b hbb with q | q
                · exact hb.mem.apart k t' _ a' vs u' b hab ha' rfl hla' e2 h2 hu' q hbb'
                · have := hb.bd t' u' b hu' hbb'; omega
            · rw [if_neg e1] at ha
              rw [hput_apply] at hu hu'
              rw [if_neg (fun e => e1 e.symm)] at hu
              by_cases e2 : k = t
              · subst e2; rw [if_pos rfl] at ha; cases ha; simp [AB.live] at hla
              · rw [if_neg e2] at ha
                by_cases e3 : kb = t'
                · subst e3
                  rw [if_pos rfl] at hu'
                  cases hu'
                  rcases hnew b hbb' with q | q
                  · exact hb.mem.apart k t _ a vs u b hab ha rfl hla e2 h2 hu q hbb
                  · have := hb.bd t u b hu hbb; omega
                · rw [if_neg e3] at ha'
                  rw [if_neg (fun e => e3 e.symm)] at hu'
                  by_cases e4 : k = t'
                  · subst e4; rw [if_pos rfl] at ha'; cases ha'; simp [AB.live] at hla'
                  · rw [if_neg e4] at ha'
                    exact hb.mem.apart t t' a a' u u' b ha ha' hla hla' hnn hu hu' hbb hbb'
          · rw [hput_apply] at ht'
            split at ht'
            · rename_i e; exact .inr ⟨by omega, by omega⟩
            · exact .inl ht'
          · rw [hput_apply] at htu
            split at htu
            · cases htu; exact hlt b hub
            · have := hb.bd t u b htu hub; omega
        · exact (Look.run_no h).elim
      · exact (Look.run_no h).elim
    · exact (Look.run_no h).elim
  · exact (Look.run_no h).elim

theorem append_sound (ht : TTok P tt) (hb : Base m w me kb) {T U : Nat} {ty : Nat} {s x : AV} {vs vx : Value} {d2 : TypeDesc} {e : Eff}
    (hU : P.underlying U = some d2) (hd2 : (∃ e2, d2 = .slice e2) ∨ d2 = .string) (hs : RV m w s vs) (hx : RV m w x vx)
    (h : (appendEv real tt kb T s x).run me = some e) (hc : e.c) :
    ∃ v m' w', (Builtin.append_ #[T, U] ty #[vs, vx]).run P w = .ok v w' ∧ OkE m w me kb e.v e.puts v m' w' := by
  unfold appendEv at h
  split at h
  · rename_i te _ _ _ _ hl
    have hT : P.underlying T = some (.slice te) := (ht.look hl).k
    split at h
    · rename_i kk by_ z0 ek hl2
      split at h
      · rename_i xs
        split at h
        · simp only [RV, CR, List.cons.injEq, and_true] at hx
          subst hx
          exact append_core ht hb hT hU hd2 hl2 hs (d := .bt xs) (news := xs.map E8) (by simp [RC]) rfl (Src.of_string w xs) hc h
        · exact (Look.run_no h).elim
      · simp only [RV, CR, List.cons.injEq, and_true] at hx
        subst hx
        refine append_core ht hb hT hU hd2 hl2 hs (d := ek.nil) (news := []) ?_ ?_ (Src.of_nil w) hc h
        · cases ek <;> simp [EK.nil, RC]
        · cases ek <;> rfl
      · obtain ⟨d, news, e0, h1, h2, h3, h4, h5, h6, h7⟩ := content_sound hb hx h hc
        rw [← h3, ← h4]
        exact append_core ht hb hT hU hd2 hl2 hs h5 h6 (Src.of_slice h7 (RC_one _ _ h5)) h2 h1
    · exact (Look.run_no h).elim
  · exact (Look.run_no h).elim
end
end Go.Vc
