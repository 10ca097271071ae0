/- A part of the proof of given statements: a verified condition generator for the model, and contracts of the program's functions. No condition. -/
import Derived.Test.YthjlhookepchgaaPart4
import Derived.StringKeys
import Derived.Sort.KeysCollected
import Derived.Shelf.SlIter.Keys
import Derived.Shelf.SlIter.Sorted
import Derived.Maps.OwnSet
import Derived.Shelf.SlIter.Collect
import Derived.Shelf.SortM.Plain
import Derived.Shelf.SortM.SortNone
import Derived.Ground.GgzProg
import Derived.Ground.SlgmProg
import Derived.ProofKit
import Derived.Carry
import Derived.OpenShut
import Derived.WideShapes
import Derived.ChangeOld
import Derived.Test.YthjlhookepchgaaPart3
import Derived.JoinedOf
import Derived.Test.YthjlhookepchgaaRows
import Derived.KernelRfl
set_option linter.unusedVariables false
set_option linter.unusedSimpArgs false
set_option linter.constructorNameAsVariable false
set_option linter.unusedVariables false
set_option linter.unusedSimpArgs false
namespace Go.Vc
open Go Go.RowKit Go.Proofs Go.Maps Go.Sort
open Go.WideElems (Fit)
open Go.WideShapes (sorted_perm)
/-! ## slices.Sorted(maps.Keys(m)), the keys ints -/
/-- maps.Keys: an iterator, which holds the map in a box -/
def keysSpecS (g T : Nat) : Spec := fun args kb => match args with
  | [.mh j] => .look j fun
    | .mp _ _ _ _ => .ret ⟨True, .fv g [.p kb 0 0], [(kb, .bk T [(1, .vs [.mh j])])]⟩
    | _ => .no
  | _ => .no
/-- slices.Sorted of such an iterator -/
def sortedSSpec (F : Fs) (g E : Nat) : Spec := fun args kb => match args with
  | [.fv f [.p k 0 0]] => match Nat.beq f g with
    | true => .look k fun
      | .bk _ [(_, .vs [.mh j])] => .look j fun
        | .mp _ .s _ M => .ret ⟨F.pKeyS M, .rw kb, [(kb, .row E 1 (.ss (F.keysS M)))]⟩
        | _ => .no
      | _ => .no
    | false => .no
  | _ => .no
section
variable {P : Program} {ρ ρ' : Go.Shelf.Ren} {m : Hd} {w : World} {me : Mem} {kb : Nat}
theorem cell_ofS {g : Nat} {cs : Array Value} {T : Nat} {fz : Nat × Nat} {v : Value} {r : List Value} (h : w.heap[g]? = some (.cells cs T fz)) (hv : cs.toList = v :: r) : w.cell? ⟨g, 0, none⟩ = some v := by
  unfold World.cell?
  have : cs[0]? = some v := by rw [← Array.getElem?_toList, hv]; rfl
  simp [h, this]
theorem keysS_ok (L : SlLaysZ.n7 P ρ) {g T : Nat} (hg : ρ.f 10 = g) (hT : ρ.t 23 = T) : SpecOK P (ρ.f 7) (keysSpecS g T) := by
  subst hg hT
  intro m w me kb args vals e hgi hb hv he hc
  unfold keysSpecS at he
  split at he
  · rename_i j
    have h' := Look.run_look he
    clear he
    obtain ⟨ab, hab, h⟩ := h'
    split at h
    · rename_i Tm kk sh M
      simp only [Look.run, Option.some.injEq] at h
      subst h
      obtain ⟨v, rfl, hv1⟩ := RVs_one hv
      obtain ⟨r, es, rfl, g1, g2, g3, g4⟩ := mh_val hb hab hv1
      refine ((callsIn_wide (n := 5)).1 (AnyZ.keys_in L Fence.wide 5 trivial rfl (some r) w)).mono ?_
      rintro en w' ⟨rfl, rfl⟩
      have hk := hb.fresh kb (Nat.le_refl _) (by omega)
      have hjk : j ≠ kb := fun e => by subst e; rw [g1] at hk; cases hk
      have hjv : hput m kb (.pointer (some ⟨w.heap.size, 0, none⟩)) j = some (.map (some r)) := by rw [hput_apply, if_neg (by omega)]; exact g1
      have hnew := hb.new (w' := w.alloc (.cells #[.map (some r)] (ρ.t 23))) (v := .pointer (some ⟨w.heap.size, 0, none⟩)) (ab := .bk (ρ.t 23) [(1, .vs [.mh j])]) (av := .p kb 0 0) (by simp) (fun b hb' => by simp [blk] at hb'; omega) (fun b hb' => by simp [blk] at hb'; subst hb'; simp) (fun b hb' => Below.heap_alloc w _ b hb') rfl rfl rfl
        ⟨w.heap.size, #[.map (some r)], (0, 0), by simp [hput_apply], heap_alloc_new w _, .inl rfl, [.map (some r)], [], rfl, rfl, by
          simp only [RC, LR, CR]
          exact ⟨[.map (some r)], [], rfl, ⟨_, hjv, rfl, rfl⟩, rfl⟩, rfl⟩
        (by simp only [RV, CR]; exact ⟨_, by simp [hput_apply], rfl⟩)
      refine ⟨_, rfl, _, hnew.tr, ?_, hnew.mem, hnew.keys, hnew.bd⟩
      have hrv := hnew.rv
      simp only [RV, CR, LR] at hrv ⊢
      exact ⟨[.pointer (some ⟨w.heap.size, 0, none⟩)], rfl, [_], [], rfl, hrv, rfl⟩
    · exact (Look.run_no h).elim
  · exact (Look.run_no he).elim
theorem ER_keyS {sh : Sh} : ∀ {l : List (Nat × D × D)} {es : List MapEntry}, ER m w .s sh l es → es.map (·.key) = l.map (fun e => encStr e.2.1.gs) ∧ (∀ e ∈ l, e.2.1 = .s e.2.1.gs) ∧ es.length = l.length
  | [], es, h => by simp only [ER] at h; subst h; exact ⟨rfl, fun e he => by simp at he, rfl⟩
  | (b, k, d) :: l, es, h => by
    obtain ⟨e, r, rfl, h1, ⟨n, rfl, h3⟩, h4, h5⟩ := h
    obtain ⟨q1, q2, q3⟩ := ER_keyS h5
    refine ⟨by simp [h3, q1, D.gs], fun e he => ?_, by simp [q3]⟩
    simp only [List.mem_cons] at he
    rcases he with rfl | he
    · rfl
    · exact q2 e he
abbrev anyRS (v : Value) : Option (DataW Unit × List MemPlace) := some (.nil, [])
theorem rd_s {kt : Nat} (hk : P.underlying kt = some .string) {x : MapEntry} {n : List UInt8} (hx : x.key = encStr n) (hw : n.length ≤ 1000000) : WideElems.rd P kt anyRS x = some (.string n, .nil) := by
  have h2 := Go.WideMaps.keyOf_string_mk (P := P) hk (s := ⟨n.toArray⟩) (by show n.toArray.size ≤ maxLen; rw [List.size_toArray]; exact Nat.le_trans hw (by decide))
  unfold WideElems.rd
  rw [hx]
  show _ = _
  rw [show encStr n = Value.string ⟨n.toArray⟩ from rfl, h2]
  rfl
theorem sortedS_ok (L : SlLaysZ.n6 P ρ) (L' : SlLaysZ.n7 P ρ') (hs : ∀ n, AnyZ.SortsIn P ρ Fence.wide n) (h9 : Ready P (ρ.f 9)) (h10 : Ready P (ρ'.f 10)) (ht : ρ'.t 26 = ρ.t 26) (hL10 : SlLaysZ.n10 P ρ') {g E : Nat} (hg : ρ'.f 10 = g) (hE : ρ.t 26 = E) (hu : P.underlying E = some .string) : SpecOK P (ρ.f 6) (sortedSSpec real g E) := by
  subst hg hE
  intro m w me kb args vals e hgi hb hv he hc
  unfold sortedSSpec at he
  split at he
  · rename_i f k
    split at he
    · rename_i hf
      have hf := beq_nat hf
      subst hf
      have h' := Look.run_look he
      clear he
      obtain ⟨ab, hbox, he⟩ := h'
      split at he
      · rename_i T' n' j
        have h' := Look.run_look he
        clear he
        obtain ⟨ab, hab, he⟩ := h'
        split at he
        · rename_i Tm sh M
          simp only [Look.run, Option.some.injEq] at he
          subst he
          obtain ⟨v, rfl, hv1⟩ := RVs_one hv
          obtain ⟨q1, q2⟩ : real.pKeyS M := hc
          obtain ⟨r, es, g1, g2, g3, g4⟩ := hb.mem.at_ j _ hab
          obtain ⟨bx, cs, fz, b1, b2, b3, b4⟩ := hb.mem.at_ k _ hbox
          unfold SegsR at b4
          unfold SegsR at b4
          obtain ⟨c1, c2, b4, b5, ⟨c3, c4, b6, ⟨v1, b7, b8, b9⟩, b10⟩, b11⟩ := b4
          rw [g1] at b7; cases b7
          subst b8 b10 b6 b11
          simp only [RV, CR, LR, List.cons.injEq, and_true] at hv1
          obtain ⟨vs, rfl, d1, d2, d3, ⟨gb, e1, rfl⟩, rfl⟩ := hv1
          rw [List.append_nil] at d3
          subst d3
          rw [b1] at e1; cases e1
          obtain ⟨k1, k2, k3⟩ := ER_keyS g3
          have hsz : es.size = M.es.length := by rw [← Array.length_toList]; exact k3
          have hkey : ∀ x ∈ es.toList, ∃ n : List UInt8, x.key = encStr n ∧ n.length ≤ 1000000 := by
            intro x hx
            obtain ⟨jx, kd, d, i1, i2, i3⟩ := ER_back g3 hx
            obtain ⟨n, rfl, i4⟩ := i2
            have := q2 _ (List.mem_of_getElem? i1)
            exact ⟨n, i4, this⟩
          have hfit : Fit P (ρ'.t 26) anyRS es M.clock := by
            refine ⟨by rw [hsz]; exact Nat.le_trans q1 (by decide), ⟨fun x hx => ?_, ?_, ?_⟩, fun x hx => ?_⟩
            · obtain ⟨jx, kd, d, i1, _⟩ := ER_back g3 hx
              exact g4.2.2 _ (List.mem_of_getElem? i1)
            · rw [ER_born g3]; exact g4.2.1
            · rw [k1]
              have h1 := g4.1
              have h2 : M.es.map (fun e => encStr e.2.1.gs) = (M.es.map (·.2.1)).map (fun d => encStr d.gs) := by rw [List.map_map]; rfl
              rw [h2]
              refine List.pairwise_map.2 (List.Pairwise.imp_of_mem (fun {a b} ha hb hne => ?_) h1)
              obtain ⟨x, hx, rfl⟩ := List.mem_map.1 ha
              obtain ⟨y, hy, rfl⟩ := List.mem_map.1 hb
              intro heq
              have := encStr_inj heq
              exact hne (by rw [k2 x hx, k2 y hy, this])
            · obtain ⟨n, hn, hw⟩ := hkey x hx
              exact ⟨_, rd_s (by rw [ht]; exact hu) hn hw⟩
          have hown : w.ownsMap P (ρ'.t 26) anyRS r es.size (.map ((es.toList.map (WideElems.rg P (ρ'.t 26) anyRS)).foldr DataW.insert [])) := ⟨es, M.clock, g2, hfit, Nat.le_refl _, rfl⟩
          have hsize : Maps.size (DataW.map ((es.toList.map (WideElems.rg P (ρ'.t 26) anyRS)).foldr DataW.insert [])) = M.es.length := by
            show (List.foldr DataW.insert [] _).length = _
            rw [(sorted_perm _).length_eq, List.length_map]
            exact k3
          have hkeys : (strKeys (DataW.map ((es.toList.map (WideElems.rg P (ρ'.t 26) anyRS)).foldr DataW.insert []))).Perm (M.es.map fun e => e.2.1.gs) := by
            have h1 : (es.toList.map (WideElems.rg P (ρ'.t 26) anyRS)).map (fun p => strOf p.1) = M.es.map fun e => e.2.1.gs := by
              have h3 : (es.toList.map (·.key)).map (fun v => match v with | .string a => a.data.toList | _ => []) = M.es.map fun e => e.2.1.gs := by
                rw [k1, List.map_map]; rfl
              rw [← h3, List.map_map, List.map_map]
              refine List.map_congr_left fun x hx => ?_
              obtain ⟨n, hn, hw⟩ := hkey x hx
              have hr : WideElems.rg P (ρ'.t 26) anyRS x = (.string n, .nil) := by
                unfold WideElems.rg; rw [rd_s (by rw [ht]; exact hu) hn hw]; rfl
              simp [hr, hn, strOf]
            rw [← h1]
            exact (sorted_perm _).map _
          have hcell : w.cell? ⟨bx, 0, none⟩ = some (.map (some r)) := cell_ofS b2 b4
          have hbx : bx < w.heap.size := (Array.getElem?_eq_some_iff.1 b2).1
          have hseq := AnyZ.keys_gives hL10 Fence.wide (5 - 1 - 1 - 1) trivial rfl (by omega) bx r es.size _ w hbx hcell hown
          have cS := AnyZ.sorted_in L Fence.wide 5 trivial trivial trivial trivial rfl (by omega) (hs _) (fun args w => callFunc_run h9 args w) (ρ'.f 10) #[.pointer (some ⟨bx, 0, none⟩)] trivial (fun args w => callFunc_run h10 args w) _ _ (by rw [hsize]; exact Nat.le_trans q1 (by decide)) (by rw [hsize]; omega) w hseq
          refine ((callsIn_wide (n := 5)).1 cS).mono ?_
          rintro en w' ⟨v, ss, rfl, hS, hrow, hnil, hbel⟩
          have hss : ss.mergeSort (fun x y => decide (x ≤ y)) = real.keysS M := mergeSort_of_perm (hS.trans hkeys)
          rw [hss] at hrow
          have hlen : ss.length = (real.keysS M).length := by rw [← hss, List.length_mergeSort]
          rw [hlen] at hrow
          have hone : v.oneCell' = true := by
            rcases hrow.2 with ⟨rfl, _⟩ | ⟨g, cap, cur, rfl, _⟩ <;> rfl
          have hOwn : OwnRow w' (ρ.t 26) 1 v (real.keysS M).length ((real.keysS M).map ES) := by
            refine ⟨hrow.1, ?_⟩
            rcases hrow.2 with ⟨rfl, hz⟩ | ⟨g, cap, cur, rfl, i1, i2, i3, i4, i5, i6⟩
            · exact .inl ⟨_, rfl, hz⟩
            · by_cases hcap : cap = 0
              · subst hcap
                have hz : (real.keysS M).length = 0 := by omega
                left
                rw [hz]
                exact ⟨_, rfl, rfl⟩
              · right
                exact ⟨g, 0, cap, cur, (0, 0), rfl, i2, .inl rfl, i3, by omega, i4, by omega, by simpa using i6⟩
          refine ⟨_, rfl, hput m kb v, hb.new hbel.size (fun b hb' => ?_) (fun b hb' => ?_) (fun b hb' => hbel.block b hb') hbel.os hbel.tape hbel.output ⟨v, _, _, by simp [hput_apply], hOwn, rfl⟩ ?_⟩
          · rcases hrow.2 with ⟨rfl, hz⟩ | ⟨g, cap, cur, rfl, i1, i2, i3, i4, i5, i6⟩
            · simp [blk] at hb'
            · cases cap with
              | zero => simp [blk] at hb'
              | succ c => simp [blk] at hb'; omega
          · rcases hrow.2 with ⟨rfl, hz⟩ | ⟨g, cap, cur, rfl, i1, i2, i3, i4, i5, i6⟩
            · simp [blk] at hb'
            · cases cap with
              | zero => simp [blk] at hb'
              | succ c =>
                simp [blk] at hb'; subst hb'
                exact (Array.getElem?_eq_some_iff.1 i2).1
          · simp only [RV, CR]
            exact ⟨v, by simp [hput_apply], rfl, hone⟩
        · exact (Look.run_no he).elim
      · exact (Look.run_no he).elim
    · exact (Look.run_no he).elim
  · exact (Look.run_no he).elim
end
end Go.Vc
set_option linter.unusedVariables false
set_option linter.unusedSimpArgs false
set_option maxRecDepth 100000
set_option maxHeartbeats 2000000
namespace Go.Proofs
open Go.RowKit Go.Maps Go.Sort Go.Shelf
def Try.keysV_ren : Go.Shelf.Ren := ⟨fun | 7 => 63 | 10 => 90 | n => n, fun | 23 => 112 | 26 => 9 | 3 => 56 | 28 => 119 | 0 => 0 | 27 => 118 | 33 => 116 | 4 => 4 | n => n, fun | n => n⟩
theorem Try.keysV : Go.Proofs.SlLaysZ.n7 Try.prog Try.keysV_ren := {
  mixed := by kernel_rfl
  f7 := ⟨Try.f63.name, by decide, Try.func63.trans (congrArg some (by kernel_rfl))⟩
  f10 := ⟨Try.f90.name, by decide, Try.func90.trans (congrArg some (by kernel_rfl))⟩
  t0 := Try.underlying0
  a0 := Try.isAgg0
  z0 := Try.sizeOf0
  v0 := Try.zeroValue0
  t4 := Try.underlying4
  a4 := Try.isAgg4
  z4 := Try.sizeOf4
  v4 := Try.zeroValue4
  t23 := Try.underlying112
  a23 := Try.isAgg112
  z23 := Try.sizeOf112
  v23 := Try.zeroValue112
  t26 := Try.underlying9
  a26 := Try.isAgg9
  z26 := Try.sizeOf9
  v26 := Try.zeroValue9
  t27 := Try.underlying118
  a27 := Try.isAgg118
  z27 := Try.sizeOf118
  v27 := Try.zeroValue118
  t28 := Try.underlying119
  a28 := Try.isAgg119
  z28 := Try.sizeOf119
  v28 := Try.zeroValue119
  t33 := Try.underlying116
  a33 := Try.isAgg116
  z33 := Try.sizeOf116
  v33 := Try.zeroValue116 }
def Try.sortedV_ren : Go.Shelf.Ren := ⟨fun | 6 => 62 | 8 => 89 | 9 => 72 | 11 => 100 | 13 => 94 | 12 => 93 | 23 => 110 | 24 => 111 | 14 => 101 | 15 => 102 | 16 => 103 | 17 => 104 | 18 => 105 | 19 => 106 | 20 => 107 | 21 => 108 | 22 => 109 | 25 => 121 | 26 => 122 | 27 => 123 | 28 => 124 | 29 => 125 | 30 => 126 | 31 => 131 | n => n, fun | 26 => 9 | 28 => 119 | 24 => 30 | 0 => 0 | 3 => 3 | 37 => 129 | 48 => 160 | 50 => 162 | 4 => 4 | 40 => 152 | 39 => 151 | 45 => 157 | 5 => 5 | 9 => 9 | 51 => 168 | 55 => 172 | 57 => 176 | 58 => 59 | 33 => 116 | n => n, fun | n => n⟩
theorem Try.sortedV : Go.Proofs.SlLaysZ.n6 Try.prog Try.sortedV_ren := {
  mixed := by kernel_rfl
  f6 := ⟨Try.f62.name, by decide, Try.func62.trans (congrArg some (by kernel_rfl))⟩
  f8 := ⟨Try.f89.name, by decide, Try.func89.trans (congrArg some (by kernel_rfl))⟩
  f11 := ⟨Try.f100.name, by decide, Try.func100.trans (congrArg some (by kernel_rfl))⟩
  t0 := Try.underlying0
  a0 := Try.isAgg0
  z0 := Try.sizeOf0
  v0 := Try.zeroValue0
  t24 := Try.underlying30
  a24 := Try.isAgg30
  z24 := Try.sizeOf30
  v24 := Try.zeroValue30
  t26 := Try.underlying9
  a26 := Try.isAgg9
  z26 := Try.sizeOf9
  v26 := Try.zeroValue9
  t28 := Try.underlying119
  a28 := Try.isAgg119
  z28 := Try.sizeOf119
  v28 := Try.zeroValue119
  i26 := by kernel_rfl }
def Try.sortV_ren : Go.Shelf.Ren := ⟨fun | 6 => 72 | 8 => 94 | 9 => 93 | 19 => 110 | 20 => 111 | 21 => 101 | 22 => 102 | 23 => 103 | 24 => 104 | 25 => 105 | 26 => 106 | 27 => 107 | 28 => 108 | 29 => 109 | 36 => 121 | 31 => 122 | 32 => 123 | 37 => 124 | 38 => 125 | 39 => 126 | 41 => 131 | n => n, fun | 27 => 30 | 29 => 9 | 3 => 3 | 32 => 129 | 26 => 30 | 0 => 0 | 44 => 160 | 46 => 162 | 4 => 4 | 36 => 152 | 35 => 151 | 41 => 157 | 5 => 5 | 9 => 9 | 53 => 168 | 57 => 172 | 63 => 176 | 64 => 59 | n => n, fun | n => n⟩
theorem Try.sortV : Go.Proofs.SlLaysM.n6 Try.prog Try.sortV_ren := {
  mixed := by kernel_rfl
  f6 := ⟨Try.f72.name, by decide, Try.func72.trans (congrArg some (by kernel_rfl))⟩
  f8 := Try.func94.trans (congrArg some (by kernel_rfl))
  f9 := ⟨Try.f93.name, by decide, Try.func93.trans (congrArg some (by kernel_rfl))⟩
  f19 := Try.func110.trans (congrArg some (by kernel_rfl))
  f20 := Try.func111.trans (congrArg some (by kernel_rfl))
  f21 := ⟨Try.f101.name, by decide, Try.func101.trans (congrArg some (by kernel_rfl))⟩
  f22 := ⟨Try.f102.name, by decide, Try.func102.trans (congrArg some (by kernel_rfl))⟩
  f23 := ⟨Try.f103.name, by decide, Try.func103.trans (congrArg some (by kernel_rfl))⟩
  f24 := ⟨Try.f104.name, by decide, Try.func104.trans (congrArg some (by kernel_rfl))⟩
  f25 := ⟨Try.f105.name, by decide, Try.func105.trans (congrArg some (by kernel_rfl))⟩
  f26 := ⟨Try.f106.name, by decide, Try.func106.trans (congrArg some (by kernel_rfl))⟩
  f27 := ⟨Try.f107.name, by decide, Try.func107.trans (congrArg some (by kernel_rfl))⟩
  f28 := ⟨Try.f108.name, by decide, Try.func108.trans (congrArg some (by kernel_rfl))⟩
  f29 := ⟨Try.f109.name, by decide, Try.func109.trans (congrArg some (by kernel_rfl))⟩
  f31 := Try.func122.trans (congrArg some (by kernel_rfl))
  f32 := Try.func123.trans (congrArg some (by kernel_rfl))
  f36 := ⟨Try.f121.name, by decide, Try.func121.trans (congrArg some (by kernel_rfl))⟩
  f37 := ⟨Try.f124.name, by decide, Try.func124.trans (congrArg some (by kernel_rfl))⟩
  f38 := ⟨Try.f125.name, by decide, Try.func125.trans (congrArg some (by kernel_rfl))⟩
  f39 := ⟨Try.f126.name, by decide, Try.func126.trans (congrArg some (by kernel_rfl))⟩
  f41 := ⟨Try.f131.name, by decide, Try.func131.trans (congrArg some (by kernel_rfl))⟩
  t0 := Try.underlying0
  a0 := Try.isAgg0
  z0 := Try.sizeOf0
  v0 := Try.zeroValue0
  t3 := Try.underlying3
  a3 := Try.isAgg3
  z3 := Try.sizeOf3
  v3 := Try.zeroValue3
  t4 := Try.underlying4
  a4 := Try.isAgg4
  z4 := Try.sizeOf4
  v4 := Try.zeroValue4
  t5 := Try.underlying5
  a5 := Try.isAgg5
  z5 := Try.sizeOf5
  v5 := Try.zeroValue5
  t9 := Try.underlying9
  a9 := Try.isAgg9
  z9 := Try.sizeOf9
  v9 := Try.zeroValue9
  t26 := Try.underlying30
  a26 := Try.isAgg30
  z26 := Try.sizeOf30
  v26 := Try.zeroValue30
  t27 := Try.underlying30
  a27 := Try.isAgg30
  z27 := Try.sizeOf30
  v27 := Try.zeroValue30
  t29 := Try.underlying9
  a29 := Try.isAgg9
  z29 := Try.sizeOf9
  v29 := Try.zeroValue9
  t32 := Try.underlying129
  a32 := Try.isAgg129
  z32 := Try.sizeOf129
  v32 := Try.zeroValue129
  t35 := Try.underlying151
  a35 := Try.isAgg151
  z35 := Try.sizeOf151
  v35 := Try.zeroValue151
  t36 := Try.underlying152
  a36 := Try.isAgg152
  z36 := Try.sizeOf152
  v36 := Try.zeroValue152
  t41 := Try.underlying157
  a41 := Try.isAgg157
  z41 := Try.sizeOf157
  v41 := Try.zeroValue157
  t44 := Try.underlying160
  a44 := Try.isAgg160
  z44 := Try.sizeOf160
  v44 := Try.zeroValue160
  t46 := Try.underlying162
  a46 := Try.isAgg162
  z46 := Try.sizeOf162
  v46 := Try.zeroValue162
  t53 := Try.underlying168
  a53 := Try.isAgg168
  z53 := Try.sizeOf168
  v53 := Try.zeroValue168
  t57 := Try.underlying172
  a57 := Try.isAgg172
  z57 := Try.sizeOf172
  v57 := Try.zeroValue172
  t63 := Try.underlying176
  a63 := Try.isAgg176
  z63 := Try.sizeOf176
  v63 := Try.zeroValue176
  t64 := Try.underlying59
  a64 := Try.isAgg59
  z64 := Try.sizeOf59
  v64 := Try.zeroValue59 }
theorem Try.sortsV (m : Nat) : AnyZ.SortsIn Try.prog Try.sortedV_ren Fence.wide m :=
  ⟨fun blk off cap ss W hH hblk hsz => callsIn_wide.2 (AnyM.slices_Sort_string Try.sortV blk off cap ss W hH hblk hsz),
   fun p cap W => callsIn_wide.2 (AnyM.slices_Sort_string_none Try.sortV p cap W)⟩
end Go.Proofs
namespace Go.Proofs.Ythjlhookepchgaa
open Go Go.Vc
theorem r_maps_Keys : Ready Try.prog 63 := by unfold Ready; kernel_rfl
theorem r_slices_Sorted : Ready Try.prog 62 := by unfold Ready; kernel_rfl
theorem r_sort : Ready Try.prog 72 := by unfold Ready; kernel_rfl
theorem r_keys1 : Ready Try.prog 90 := by unfold Ready; kernel_rfl
noncomputable def s_maps_Keys (F : Fs) (U : Us) : Vc.Spec := keysSpecS 90 112
noncomputable def s_slices_Sorted (F : Fs) (U : Us) : Vc.Spec := sortedSSpec F 90 9
theorem k_maps_Keys : SpecOK Try.prog 63 (s_maps_Keys real us) := keysS_ok (ρ := Try.keysV_ren) Try.keysV rfl rfl
theorem k_slices_Sorted : SpecOK Try.prog 62 (s_slices_Sorted real us) := sortedS_ok (ρ := Try.sortedV_ren) (ρ' := Try.keysV_ren) Try.sortedV Try.keysV Try.sortsV r_sort r_keys1 rfl { Try.keysV with } rfl rfl (by kernel_rfl)
theorem r_kv_KV_Keys : Ready Try.prog 25 := by unfold Ready; kernel_rfl
noncomputable def sp_kv_KV_Keys (F : Fs) (U : Us) : Specs := [(63, s_maps_Keys F U), (62, s_slices_Sorted F U)]
theorem ok_kv_KV_Keys : SpecsOK Try.prog (sp_kv_KV_Keys real us) := sp_cons r_maps_Keys k_maps_Keys (sp_cons r_slices_Sorted k_slices_Sorted sp_nil)
noncomputable def g_kv_KV_Keys (F : Fs) (U : Us) : GLaw := fun l mm => match l, mm with
  | [.p 0 0 0], [.bk T0 [(n1, .vs [.mh 1])], .mp T2 .s (.sl (.t [.i, .s, .b])) M] => match Nat.beq T0 114, Nat.beq n1 1, Nat.beq T2 112 with
    | true, true, true => some ⟨U.okK M, [.rw 2], [.bk 114 [(1, .vs [.mh 1])], .mp 112 .s (.sl (.t [.i, .s, .b])) M], [.row 9 1 (.ss (F.keysS M))]⟩
    | _, _, _ => none
  | _, _ => none
noncomputable def s_kv_KV_Keys (F : Fs) (U : Us) : Vc.Spec := gSpec 2 1 (g_kv_KV_Keys F U)
noncomputable def x_kv_KV_Keys (F : Fs) (U : Us) : Cx := ⟨Try.f25.ntmps, tt F, sp_kv_KV_Keys F U, [], [], [0, 1], []⟩
theorem c_kv_KV_Keys (M : MD) (hc : us.okK M) : vc real (x_kv_KV_Keys real us) [] [] (Try.f25.body.getD .skip) ⟨zipSl 0 [.p 0 0 0], zipMe 0 [.bk 114 [(1, .vs [.mh 1])], .mp 112 .s (.sl (.t [.i, .s, .b])) M], 64⟩ (retGOk real (tt real) Try.f25.results.toList [.rw 2] [.bk 114 [(1, .vs [.mh 1])], .mp 112 .s (.sl (.t [.i, .s, .b])) M] [.row 9 1 (.ss (real.keysS M))]) := by
  generalize hU : us = U
  generalize hF : real = F
  have hc : u_okK M := hc
  cbv
  repeat' first | apply And.intro | refine Classical.or_iff_not_imp_left.2 (fun _ => ?_) | exact trivial
  subst hF hU
  exact hc.2.1
theorem k_kv_KV_Keys : SpecOK Try.prog 25 (s_kv_KV_Keys real us) := by
  refine g_sound (n := 2) (q := 1) (x := x_kv_KV_Keys real us) ⟨tt_ok, ok_kv_KV_Keys, Go.Vc.ks_nil⟩ mixed Try.func25 rfl rfl (by kernel_rfl) (by decide) (fun j hj => by simp [x_kv_KV_Keys]; omega) ?_
  intro l mm c rs ch news hg hl hc
  unfold g_kv_KV_Keys at hg
  split at hg
  · split at hg
    · rename_i h0 h1 h2
      have z0 := beq_nat h0
      have z1 := beq_nat h1
      have z2 := beq_nat h2
      subst z0
      subst z1
      subst z2
      cases hg
      exact ⟨Nat.le_of_ble_eq_true rfl, [], [], c_kv_KV_Keys _ hc⟩
    · cases hg
  · cases hg

theorem mt_eq (M : MD) (key : List UInt8) (ver : Int) (j : Nat) : u_mt M key ver ((u_vs M key).getD j D.no) = (real.eqi (real.dI (real.dF (real.getD (us.vs M key) (real.nat (real.int j))) 0)) ver || (real.eqi ver (real.int 0) && real.eqi (real.dI (real.dF (real.getD (us.vs M key) (real.nat (real.int j))) 0)) (us.lN M key))) := rfl
theorem rdP_0 (M : MD) (key : List UInt8) (ver : Int) : us.rdP M key ver 0 := ⟨Nat.zero_le _, fun d hd => by simp at hd⟩
theorem rdP_s {M : MD} {key : List UInt8} {ver : Int} {j : Nat} (h : u_rdP M key ver j) (hj : j < (u_vs M key).length) (hm : u_mt M key ver ((u_vs M key).getD j D.no) = false) : us.rdP M key ver (j + 1) := by
  refine ⟨hj, fun d hd => ?_⟩
  rw [List.getD_eq_getElem?_getD, List.getElem?_eq_getElem hj] at hm
  rw [List.take_add_one, List.getElem?_eq_getElem hj] at hd
  simp only [Option.toList_some, List.mem_append, List.mem_singleton] at hd
  rcases hd with hd | rfl
  · exact h.2 d hd
  · exact hm
theorem find_at {p : D → Bool} : ∀ {l : List D} {j : Nat} (hj : j < l.length), (∀ d ∈ l.take j, p d = false) → p (l.getD j D.no) = true → l.find? p = some (l.getD j D.no)
  | [], j, hj, _, _ => by simp at hj
  | a :: l, 0, hj, h, hp => by
    have hp : p a = true := hp
    rw [List.find?_cons_of_pos hp]; rfl
  | a :: l, j + 1, hj, h, hp => by
    have ha : p a = false := h a (by simp)
    rw [List.find?_cons_of_neg (by rw [ha]; decide)]
    exact find_at (j := j) (by simpa using hj) (fun d hd => h d (by rw [List.take_succ_cons]; exact List.mem_cons_of_mem _ hd)) hp
theorem rd_yes {M : MD} {key : List UInt8} {ver : Int} {j : Nat} (h : u_rdP M key ver j) (hj : j < (u_vs M key).length) (hm : u_mt M key ver ((u_vs M key).getD j D.no) = true) (hg : (((u_vs M key).getD j D.no).fld 2).gb = false) :
    u_rd M key ver = some ((u_vs M key).getD j D.no) := by
  unfold u_rd
  rw [find_at hj h.2 hm]
  show (if _ then _ else _) = _
  rw [if_neg (by rw [hg]; decide)]
theorem rd_gone {M : MD} {key : List UInt8} {ver : Int} {j : Nat} (h : u_rdP M key ver j) (hj : j < (u_vs M key).length) (hm : u_mt M key ver ((u_vs M key).getD j D.no) = true) (hg : (((u_vs M key).getD j D.no).fld 2).gb = true) :
    u_rd M key ver = none := by
  unfold u_rd
  rw [find_at hj h.2 hm]
  show (if _ then _ else _) = _
  rw [if_pos hg]
theorem rd_end {M : MD} {key : List UInt8} {ver : Int} {j : Nat} (h : u_rdP M key ver j) (hj : (u_vs M key).length ≤ j) : u_rd M key ver = none := by
  have e : j = (u_vs M key).length := Nat.le_antisymm h.1 hj
  have h2 := h.2
  rw [e, List.take_length] at h2
  unfold u_rd
  rw [List.find?_eq_none.2 fun d hd => by rw [h2 d hd]; decide]
theorem rd_none {M : MD} {key : List UInt8} {ver : Int} (h : u_rd M key ver = none) : 0 = u_rdN M key ver ∧ [] = u_rdV M key ver ∧ false = u_rdG M key ver ∧ (100 : Int) = u_rdE M key ver := by
  unfold u_rdN u_rdV u_rdG u_rdE u_rdD
  rw [h]
  exact ⟨rfl, rfl, rfl, rfl⟩
theorem rd_some {M : MD} {key : List UInt8} {ver : Int} {d : D} (h : u_rd M key ver = some d) : (d.fld 0).gi = u_rdN M key ver ∧ (d.fld 1).gs = u_rdV M key ver ∧ (d.fld 2).gb = u_rdG M key ver ∧ (0 : Int) = u_rdE M key ver := by
  unfold u_rdN u_rdV u_rdG u_rdE u_rdD
  rw [h]
  exact ⟨rfl, rfl, rfl, rfl⟩
theorem r_kv_KV_Read : Ready Try.prog 26 := by unfold Ready; kernel_rfl
noncomputable def sp_kv_KV_Read (F : Fs) (U : Us) : Specs := [(59, s_kv_KV_last_ro F U)]
theorem ok_kv_KV_Read : SpecsOK Try.prog (sp_kv_KV_Read real us) := sp_cons r_kv_KV_last_ro k_kv_KV_last_ro sp_nil
noncomputable def an_kv_KV_Read (F : Fs) (U : Us) (key : List UInt8) (ver : Int) (M : MD) : Anns := [(2, ⟨Nat, fun j => U.rdP M key ver j, fun j => F.subn (F.lenD (U.vs M key)) j, fun j => ⟨[(0, .p 0 0 0), (1, .s key), (2, .i ver), (6, .p 2 0 0), (15, .rb 3 (.ds (.t [.i, .s, .b]) (U.vs M key))), (16, .i (F.int (F.lenD (U.vs M key)))), (17, .i (F.int j))], [(999, 0, .bk 114 [(1, .vs [.mh 1])]), (999, 1, .mp 112 .s (.sl (.t [.i, .s, .b])) M), (6, 2, .bk 49 [(1, .vs [.i 0]), (1, .vs [.s []]), (1, .vs [.b false])])]⟩⟩)]
noncomputable def g_kv_KV_Read (F : Fs) (U : Us) : GLaw := fun l mm => match l, mm with
  | [.p 0 0 0, .s key, .i ver], [.bk T0 [(n1, .vs [.mh 1])], .mp T2 .s (.sl (.t [.i, .s, .b])) M] => match Nat.beq T0 114, Nat.beq n1 1, Nat.beq T2 112 with
    | true, true, true => some ⟨U.okK M, [.ag 3 (.vs [.i (U.rdN M key ver), .s (U.rdV M key ver), .b (U.rdG M key ver)]), .i (U.rdE M key ver)], [.bk 114 [(1, .vs [.mh 1])], .mp 112 .s (.sl (.t [.i, .s, .b])) M], []⟩
    | _, _, _ => none
  | _, _ => none
noncomputable def s_kv_KV_Read (F : Fs) (U : Us) : Vc.Spec := gSpec 2 0 (g_kv_KV_Read F U)
noncomputable def x_kv_KV_Read (F : Fs) (U : Us) : Cx := ⟨Try.f26.ntmps, tt F, sp_kv_KV_Read F U, [], [(4, ([(12, [9])], []))], [0, 1], []⟩
theorem c_kv_KV_Read (key : List UInt8) (ver : Int) (M : MD) (hc : us.okK M) : vc real (x_kv_KV_Read real us) (an_kv_KV_Read real us key ver M) [] (Try.f26.body.getD .skip) ⟨zipSl 0 [.p 0 0 0, .s key, .i ver], zipMe 0 [.bk 114 [(1, .vs [.mh 1])], .mp 112 .s (.sl (.t [.i, .s, .b])) M], 64⟩ (retGOk real (tt real) Try.f26.results.toList [.ag 3 (.vs [.i (us.rdN M key ver), .s (us.rdV M key ver), .b (us.rdG M key ver)]), .i (us.rdE M key ver)] [.bk 114 [(1, .vs [.mh 1])], .mp 112 .s (.sl (.t [.i, .s, .b])) M] []) := by
  generalize hU : us = U
  generalize hF : real = F
  have hc : u_okK M := hc
  cbv
  repeat' first | apply And.intro | refine Classical.or_iff_not_imp_left.2 (fun _ => ?_) | exact trivial
  · refine ⟨(0 : Nat), ?_⟩
    cbv
    subst hF hU
    exact ⟨rdP_0 M key ver, ⟨rfl, rfl, trivial⟩, trivial⟩
  · intro (j : Nat) hj
    replace hj : U.rdP M key ver j := hj
    cbv
    repeat' first | apply And.intro | refine Classical.or_iff_not_imp_left.2 (fun _ => ?_) | exact trivial
    all_goals first
      | (refine ⟨(j + 1 : Nat), ?_⟩
         cbv
         subst hF hU
         have hlt : j < (u_vs M key).length := lt_g (by assumption)
         refine ⟨rdP_s hj hlt ?_, sub_stepN hlt, ⟨addi1 (by have := (okK_vs hc key).1; omega), trivial⟩, trivial⟩
         rw [mt_eq, p_f (b := real.eqi (real.dI (real.dF (real.getD (us.vs M key) (real.nat (real.int j))) 0)) ver) (by assumption), Bool.false_or]
         first
           | (rw [p_f (b := real.eqi ver (real.int 0)) (by assumption), Bool.false_and])
           | (rw [p_f (b := real.eqi (real.dI (real.dF (real.getD (us.vs M key) (real.nat (real.int j))) 0)) (us.lN M key)) (by assumption), Bool.and_false]))
      | subst hF hU
    all_goals first
      | exact hc
      | (have hlt : j < (u_vs M key).length := lt_g (by assumption)
         first
           | exact inF rfl hlt
           | (have hm : u_mt M key ver ((u_vs M key).getD j D.no) = true := by
                rw [mt_eq]
                first
                  | (rw [p_t (b := real.eqi (real.dI (real.dF (real.getD (us.vs M key) (real.nat (real.int j))) 0)) ver) (by assumption)]; rfl)
                  | (rw [p_t (b := real.eqi ver (real.int 0)) (by assumption), p_t (b := real.eqi (real.dI (real.dF (real.getD (us.vs M key) (real.nat (real.int j))) 0)) (us.lN M key)) (by assumption), Bool.and_true, Bool.or_true])
              first
                | (have q := rd_none (rd_gone hj hlt hm (p_t (by assumption)))
                   first | exact q.1 | exact q.2.1 | exact q.2.2.1 | exact q.2.2.2)
                | (have q := rd_some (rd_yes hj hlt hm (p_f (by assumption)))
                   first | exact q.1 | exact q.2.1 | exact q.2.2.1 | exact q.2.2.2)))
      | (have q := rd_none (rd_end hj (ge_g (by assumption)))
         first | exact q.1 | exact q.2.1 | exact q.2.2.1 | exact q.2.2.2)
theorem k_kv_KV_Read : SpecOK Try.prog 26 (s_kv_KV_Read real us) := by
  refine g_sound (n := 2) (q := 0) (x := x_kv_KV_Read real us) ⟨tt_ok, ok_kv_KV_Read, Go.Vc.ks_nil⟩ mixed Try.func26 rfl rfl (by kernel_rfl) (by decide) (fun j hj => by simp [x_kv_KV_Read]; omega) ?_
  intro l mm c rs ch news hg hl hc
  unfold g_kv_KV_Read at hg
  split at hg
  · split at hg
    · rename_i h0 h1 h2
      have z0 := beq_nat h0
      have z1 := beq_nat h1
      have z2 := beq_nat h2
      subst z0
      subst z1
      subst z2
      cases hg
      exact ⟨Nat.le_of_ble_eq_true rfl, an_kv_KV_Read real us _ _ _, [], c_kv_KV_Read _ _ _ hc⟩
    · cases hg
  · cases hg

noncomputable def sp_kv_right (F : Fs) (U : Us) : Specs := []
noncomputable def an_kv_right (F : Fs) (U : Us) (l : List D) : Anns := [(2, ⟨Nat, fun j => U.rtP l j, fun j => F.subn (F.lenD l) j, fun j => ⟨[(0, .rb 3 (.ds (.t [.i, .s, .b]) l)), (5, .rb 3 (.ds (.t [.i, .s, .b]) l)), (6, .i (F.int (F.lenD l))), (7, .i (F.int j))], []⟩⟩)]
noncomputable def g_kv_right (F : Fs) (U : Us) : Law
  | [.rb 3 (.ds (.t [.i, .s, .b]) l)] => some (U.okV l, [.val (.b (U.rt l))])
  | _ => none
noncomputable def s_kv_right (F : Fs) (U : Us) : Vc.Spec := pureSpec F false [.row (.kD (.t [.i, .s, .b]))] (g_kv_right F U)
noncomputable def x_kv_right (F : Fs) (U : Us) : Cx := ⟨Try.f66.ntmps, tt F, sp_kv_right F U, [], [(4, ([(28, [23]), (30, [23])], []))], [], []⟩
end Go.Proofs.Ythjlhookepchgaa
set_option linter.unusedVariables false
set_option linter.unusedSimpArgs false
set_option maxRecDepth 100000
set_option maxHeartbeats 2000000
namespace Go.Proofs.Ythjlhookepchgaa
open Go Go.Vc
/-! ## One key's versions -/
theorem vl_len (h : Nat → D) (c : Nat) : (u_vl h c).length = min c 3 := by
  unfold u_vl
  rw [List.length_map, List.length_drop, List.length_range]; omega
theorem vl_get (h : Nat → D) {c j : Nat} (hj : j < min c 3) : (u_vl h c)[j]? = some (h (c - 3 + j)) := by
  unfold u_vl
  rw [List.getElem?_map, List.getElem?_drop, List.getElem?_range (by omega)]; rfl
theorem vl_mem {h : Nat → D} {c : Nat} {d : D} : d ∈ u_vl h c ↔ ∃ i, c - 3 ≤ i ∧ i < c ∧ d = h i := by
  rw [List.mem_iff_getElem?]
  constructor
  · rintro ⟨j, hj⟩
    have hlt : j < min c 3 := by rw [← vl_len h c]; exact (List.getElem?_eq_some_iff.1 hj).1
    rw [vl_get h hlt] at hj
    exact ⟨c - 3 + j, by omega, by omega, (Option.some.inj hj).symm⟩
  · rintro ⟨i, h1, h2, rfl⟩
    exact ⟨i - (c - 3), by rw [vl_get h (by omega)]; congr 2; omega⟩
theorem vl_wr (h : Nat → D) (c : Nat) (d : D) : (u_vl h c).drop ((u_vl h c).length - 2) ++ [d] = u_vl (updH h c d) (c + 1) := by
  rw [vl_len]
  refine List.ext_getElem? fun j => ?_
  have hl : ((u_vl h c).drop (min c 3 - 2)).length = min c 2 := by rw [List.length_drop, vl_len]; omega
  by_cases hj : j < min c 2
  · rw [List.getElem?_append_left (by omega), List.getElem?_drop, vl_get h (by omega), vl_get (updH h c d) (by omega)]
    unfold updH
    rw [if_neg (by omega)]
    congr 2; omega
  · rw [List.getElem?_append_right (by omega), hl]
    by_cases e : j = min c 2
    · subst e
      rw [Nat.sub_self, vl_get (updH h c d) (by omega)]
      unfold updH
      rw [if_pos (by omega)]; rfl
    · rw [List.getElem?_eq_none (by rw [List.length_singleton]; omega), List.getElem?_eq_none (by rw [vl_len]; omega)]
theorem vl_dl (h : Nat → D) {c : Nat} (hc : 0 < c) (d : D) : (u_vl h c).set ((u_vl h c).length - 1) d = u_vl (updH h (c - 1) d) c := by
  rw [vl_len]
  refine List.ext_getElem? fun j => ?_
  rw [List.getElem?_set, vl_len]
  by_cases hj : j < min c 3
  · rw [vl_get (updH h (c - 1) d) hj]
    unfold updH
    by_cases e : min c 3 - 1 = j
    · rw [if_pos e, if_pos (by omega), if_pos (by omega)]
    · rw [if_neg e, if_neg (by omega), vl_get h hj]
  · rw [if_neg (by omega), List.getElem?_eq_none (by rw [vl_len]; omega), List.getElem?_eq_none (by rw [vl_len]; omega)]
theorem vl_last (h : Nat → D) {c : Nat} (hc : 0 < c) : (u_vl h c).getLastD dv0 = h (c - 1) := by
  rw [getLastD_eq (by rw [vl_len]; omega), List.getD_eq_getElem?_getD, vl_len, vl_get h (by omega)]
  show h _ = _
  congr 1; omega
theorem one_vs (key : List UInt8) (h : Nat → D) (c : Nat) : u_vs (u_one key h c) key = u_vl h c := by
  unfold u_one
  split
  · rename_i e; subst e; rfl
  · unfold u_vs MD.get
    simp only [MD.find, if_true]; rfl
theorem one_N {key : List UInt8} {h : Nat → D} {c : Nat} (hN : ∀ i, i < c → ((h i).fld 0).gi = (i : Int) + 1) : u_lN (u_one key h c) key = c := by
  unfold u_lN u_last
  rw [one_vs]
  by_cases hc : c = 0
  · subst hc; rfl
  · rw [vl_last h (by omega), hN _ (by omega)]; omega
theorem one_G {key : List UInt8} {h : Nat → D} {c : Nat} (hc : 0 < c) : u_lG (u_one key h c) key = ((h (c - 1)).fld 2).gb := by
  unfold u_lG u_last
  rw [one_vs, vl_last h hc]
theorem one_len (key : List UInt8) (h : Nat → D) (c : Nat) : (u_one key h c).es.length ≤ 1 := by
  unfold u_one
  split
  · exact Nat.zero_le _
  · exact Nat.le_refl _
theorem one_set {key : List UInt8} {h : Nat → D} {c : Nat} (hc : 0 < c) {h' : Nat → D} {c' : Nat} (hc' : 0 < c') : (u_one key h c).set (.s key) (.t (u_vl h' c')) = u_one key h' c' := by
  unfold u_one
  rw [if_neg (by omega), if_neg (by omega)]
  unfold MD.set MD.has
  simp only [MD.find, MD.upd, if_true]
  rfl
theorem one_set0 {key : List UInt8} {h' : Nat → D} {c' : Nat} (hc' : 0 < c') : (⟨[], 0⟩ : MD).set (.s key) (.t (u_vl h' c')) = u_one key h' c' := by
  unfold u_one
  rw [if_neg (by omega)]
  rfl
theorem one_wr {key v : List UInt8} {h : Nat → D} {c : Nat} {cas : Int} (hN : ∀ i, i < c → ((h i).fld 0).gi = (i : Int) + 1) (hk : u_isK key = true) (hv : v.length ≤ 40) (hcas : cas = -1 ∨ cas = (c : Int)) :
    u_wrE (u_one key h c) key cas v = 0 ∧ u_wrN (u_one key h c) key cas v = (c : Int) + 1 ∧ u_wrM (u_one key h c) key cas v = u_one key (updH h c (dv ((c : Int) + 1) v false)) (c + 1) := by
  have n := one_N (key := key) hN
  have l := one_len key h c
  have e : u_wrE (u_one key h c) key cas v = 0 := by
    unfold u_wrE
    rw [hk, n, if_neg (by decide), if_neg (by omega), if_neg (by omega), if_neg (by omega)]
  refine ⟨e, by unfold u_wrN; rw [if_pos e, n], ?_⟩
  unfold u_wrM u_fg
  rw [if_pos e, n, one_vs, vl_wr]
  by_cases hc : c = 0
  · subst hc; exact one_set0 (by decide)
  · exact one_set (by omega) (by omega)
theorem one_cas {key v : List UInt8} {h : Nat → D} {c : Nat} {cas : Int} (hN : ∀ i, i < c → ((h i).fld 0).gi = (i : Int) + 1) (hk : u_isK key = true) (hv : v.length ≤ 40) (hcas : cas ≠ -1 ∧ cas ≠ (c : Int)) :
    u_wrE (u_one key h c) key cas v = 220 ∧ u_wrN (u_one key h c) key cas v = 0 ∧ u_wrM (u_one key h c) key cas v = u_one key h c := by
  have n := one_N (key := key) hN
  have e : u_wrE (u_one key h c) key cas v = 220 := by
    unfold u_wrE
    rw [hk, n, if_neg (by decide), if_neg (by omega), if_pos (by omega)]
  refine ⟨e, by unfold u_wrN; rw [e]; rfl, by unfold u_wrM; rw [e]; rfl⟩
theorem updH_N {h : Nat → D} {c : Nat} {d : D} (hN : ∀ i, i < c → ((h i).fld 0).gi = (i : Int) + 1) (hd : (d.fld 0).gi = (c : Int) + 1) : ∀ i, i < c + 1 → ((updH h c d i).fld 0).gi = (i : Int) + 1 := by
  intro i hi
  unfold updH
  split
  · rename_i e; subst e; exact hd
  · exact hN i (by omega)
theorem one_ok {key : List UInt8} {h : Nat → D} {c : Nat} (hk : key.length ≤ 1000) (ho : ∀ i, i < c → okD (h i)) : u_okK (u_one key h c) := by
  unfold u_one
  split
  · exact ⟨⟨List.nodup_nil, List.nodup_nil, fun e he => by simp at he⟩, ⟨Nat.zero_le _, fun e he => by simp at he⟩, fun e he => by simp at he⟩
  · refine ⟨⟨by simp, by simp, fun e he => by simp at he; subst he; exact Nat.zero_lt_one⟩, ⟨Nat.le_of_ble_eq_true rfl, fun e he => by simp at he; subst he; exact Nat.le_trans hk (by decide)⟩, fun e he => ?_⟩
    simp only [List.mem_singleton] at he
    subst he
    refine ⟨key, u_vl h c, rfl, hk, rfl, by rw [vl_len]; omega, fun d hd => ?_⟩
    obtain ⟨i, _, h2, rfl⟩ := vl_mem.1 hd
    exact ho i h2
theorem find_N {l : List D} {p : D → Bool} {d : D} (hd : d ∈ l) (hp : p d = true) (hu : ∀ x ∈ l, p x = true → x = d) : l.find? p = some d := by
  cases hf : l.find? p with
  | none => exact absurd hp (by simpa using List.find?_eq_none.1 hf d hd)
  | some x => rw [hu x (List.mem_of_find?_eq_some hf) (List.find?_some hf)]
theorem one_mt {key : List UInt8} {h : Nat → D} {c : Nat} (hN : ∀ i, i < c → ((h i).fld 0).gi = (i : Int) + 1) {n i : Nat} (hi : i < c) (hn : 0 < n) : u_mt (u_one key h c) key (n : Int) (h i) = decide (i + 1 = n) := by
  unfold u_mt
  rw [hN i hi]
  have e : ((n : Int) == 0) = false := by rw [beq_eq_false_iff_ne]; omega
  rw [e, Bool.false_and, Bool.or_false]
  by_cases e2 : i + 1 = n
  · rw [decide_eq_true e2, beq_iff_eq]; omega
  · rw [decide_eq_false e2, beq_eq_false_iff_ne]; omega
theorem one_mt0 {key : List UInt8} {h : Nat → D} {c : Nat} (hN : ∀ i, i < c → ((h i).fld 0).gi = (i : Int) + 1) {i : Nat} (hi : i < c) : u_mt (u_one key h c) key 0 (h i) = decide (i + 1 = c) := by
  unfold u_mt
  rw [hN i hi, one_N hN]
  have e : (((i : Int) + 1) == 0) = false := by rw [beq_eq_false_iff_ne]; omega
  rw [e, Bool.false_or]
  by_cases e2 : i + 1 = c
  · rw [decide_eq_true e2]
    show (true && _) = true
    rw [Bool.true_and, beq_iff_eq]; omega
  · rw [decide_eq_false e2]
    show (true && _) = false
    rw [Bool.true_and, beq_eq_false_iff_ne]; omega
/-- a version that is there -/
theorem one_rd {key : List UInt8} {h : Nat → D} {c : Nat} (hN : ∀ i, i < c → ((h i).fld 0).gi = (i : Int) + 1) {i : Nat} (hi : i < c) (h3 : c - 3 ≤ i) : u_rd (u_one key h c) key ((i : Int) + 1) = if ((h i).fld 2).gb then none else some (h i) := by
  have e : ((i : Int) + 1) = ((i + 1 : Nat) : Int) := by omega
  unfold u_rd
  rw [one_vs, e, find_N (d := h i) (vl_mem.2 ⟨i, h3, hi, rfl⟩)]
  · rw [one_mt hN hi (by omega), decide_eq_true rfl]
  · intro x hx hp
    obtain ⟨j, _, hj, rfl⟩ := vl_mem.1 hx
    rw [one_mt hN hj (by omega), decide_eq_true_eq] at hp
    have : j = i := by omega
    rw [this]
/-- an elder one -/
theorem one_rdE {key : List UInt8} {h : Nat → D} {c : Nat} (hN : ∀ i, i < c → ((h i).fld 0).gi = (i : Int) + 1) {n : Nat} (hn : 0 < n) (h3 : n ≤ c - 3) : u_rd (u_one key h c) key (n : Int) = none := by
  unfold u_rd
  rw [one_vs, List.find?_eq_none.2]
  intro x hx
  obtain ⟨j, h1, hj, rfl⟩ := vl_mem.1 hx
  rw [one_mt hN hj hn, decide_eq_true_eq]; omega
/-- the last one -/
theorem one_rd0 {key : List UInt8} {h : Nat → D} {c : Nat} (hN : ∀ i, i < c → ((h i).fld 0).gi = (i : Int) + 1) (hc : 0 < c) : u_rd (u_one key h c) key 0 = if ((h (c - 1)).fld 2).gb then none else some (h (c - 1)) := by
  unfold u_rd
  rw [one_vs, find_N (d := h (c - 1)) (vl_mem.2 ⟨c - 1, by omega, by omega, rfl⟩)]
  · rw [one_mt0 hN (by omega), decide_eq_true (by omega)]
  · intro x hx hp
    obtain ⟨j, _, hj, rfl⟩ := vl_mem.1 hx
    rw [one_mt0 hN hj, decide_eq_true_eq] at hp
    have : j = c - 1 := by omega
    rw [this]
theorem one_rdn (key : List UInt8) (h : Nat → D) (ver : Int) : u_rd (u_one key h 0) key ver = none := rfl
theorem one_dl {key : List UInt8} {h : Nat → D} {c : Nat} (hN : ∀ i, i < c → ((h i).fld 0).gi = (i : Int) + 1) (hc : 0 < c) (hg : ((h (c - 1)).fld 2).gb = false) :
    u_dlE (u_one key h c) key = 0 ∧ u_dlN (u_one key h c) key = c ∧ u_dlM (u_one key h c) key = u_one key (updH h (c - 1) (dv c [] true)) c := by
  have n := one_N (key := key) hN
  have g := one_G (key := key) (h := h) hc
  rw [hg] at g
  have e : u_dlE (u_one key h c) key = 0 := by
    unfold u_dlE
    rw [n, g, if_neg]
    rintro (h1 | h1)
    · omega
    · cases h1
  refine ⟨e, by unfold u_dlN; rw [if_pos e, n], ?_⟩
  unfold u_dlM
  rw [if_pos e, n, one_vs, vl_dl h hc]
  exact one_set hc hc
theorem one_dl2 {key : List UInt8} {h : Nat → D} {c : Nat} (hc : 0 < c) (hg : ((h (c - 1)).fld 2).gb = true) : u_dlE (u_one key h c) key = 100 ∧ u_dlN (u_one key h c) key = 0 ∧ u_dlM (u_one key h c) key = u_one key h c := by
  have g := one_G (key := key) (h := h) hc
  rw [hg] at g
  have e : u_dlE (u_one key h c) key = 100 := by unfold u_dlE; rw [if_pos (.inr g)]
  refine ⟨e, by unfold u_dlN; rw [e]; rfl, by unfold u_dlM; rw [e]; rfl⟩
theorem updH_at (h : Nat → D) (c : Nat) (d : D) : updH h c d c = d := by unfold updH; rw [if_pos rfl]
theorem updH_ne {h : Nat → D} {c : Nat} {d : D} {i : Nat} (hi : i ≠ c) : updH h c d i = h i := by unfold updH; rw [if_neg hi]
theorem updH_okD {h : Nat → D} {c : Nat} {d : D} (ho : ∀ i, i < c → okD (h i)) (hd : okD d) : ∀ i, i < c + 1 → okD (updH h c d i) := by
  intro i hi
  by_cases e : i = c
  · subst e; rw [updH_at]; exact hd
  · rw [updH_ne e]; exact ho i (by omega)
noncomputable def sp_kv_KV_Restore (F : Fs) (U : Us) : Specs := [(60, s_kv_isKey F U), (66, s_kv_right F U), (64, s_slices_Clone F U)]
noncomputable def g_kv_KV_Restore (F : Fs) (U : Us) : GLaw := fun l mm => match l, mm with
  | [.p 0 0 0, .s key, .rb 3 (.ds (.t [.i, .s, .b]) l)], [.bk T0 [(n1, .vs [.mh 1])], .mp T2 .s (.sl (.t [.i, .s, .b])) M] => match Nat.beq T0 114, Nat.beq n1 1, Nat.beq T2 112 with
    | true, true, true => some ⟨U.okK M ∧ F.pLe (F.lenB key) 1000 ∧ U.okV l, [.i (U.rsE M key l)], [.bk 114 [(1, .vs [.mh 1])], .mp 112 .s (.sl (.t [.i, .s, .b])) (U.rsM M key l)], []⟩
    | _, _, _ => none
  | _, _ => none
noncomputable def s_kv_KV_Restore (F : Fs) (U : Us) : Vc.Spec := gSpec 2 0 (g_kv_KV_Restore F U)
noncomputable def x_kv_KV_Restore (F : Fs) (U : Us) : Cx := ⟨Try.f31.ntmps, tt F, sp_kv_KV_Restore F U, [], [(6, ([(6, [3])], []))], [0, 1], []⟩
end Go.Proofs.Ythjlhookepchgaa
set_option linter.unusedVariables false
set_option linter.unusedSimpArgs false
set_option maxRecDepth 100000
set_option maxHeartbeats 2000000
namespace Go.Proofs.Ythjlhookepchgaa
open Go Go.Vc
/-! ## Those that are known -/
def kh0 : Nat → D := fun _ => dv0
def kh1 : Nat → D := updH kh0 0 (dv (((0 : Nat) : Int) + 1) [120] false)
def kh2 : Nat → D := updH kh1 1 (dv (((1 : Nat) : Int) + 1) [121, 122] false)
def kh3 : Nat → D := updH kh2 (2 - 1) (dv ((2 : Nat) : Int) [] true)
theorem kN0 : ∀ i, i < 0 → ((kh0 i).fld 0).gi = (i : Int) + 1 := fun i h => by omega
theorem kN1 : ∀ i, i < 1 → ((kh1 i).fld 0).gi = (i : Int) + 1 := updH_N kN0 rfl
theorem kN2 : ∀ i, i < 2 → ((kh2 i).fld 0).gi = (i : Int) + 1 := updH_N kN1 rfl
theorem kN3 : ∀ i, i < 2 → ((kh3 i).fld 0).gi = (i : Int) + 1 := by
  intro i hi
  match i, hi with
  | 0, _ => rfl
  | 1, _ => rfl
theorem kO1 : ∀ i, i < 1 → okD (kh1 i) := updH_okD (fun i h => by omega) ⟨1, [120], false, rfl, by decide, by decide, by decide⟩
theorem kO2 : ∀ i, i < 2 → okD (kh2 i) := updH_okD kO1 ⟨2, [121, 122], false, rfl, by decide, by decide, by decide⟩
theorem kO3 : ∀ i, i < 2 → okD (kh3 i) := by
  intro i hi
  match i, hi with
  | 0, _ => exact kO1 0 (by decide)
  | 1, _ => exact ⟨2, [], true, rfl, by decide, by decide, by decide⟩
theorem kn1 : u_wrE ⟨[], 0⟩ [97] 0 [120] = 0 ∧ u_wrN ⟨[], 0⟩ [97] 0 [120] = 1 ∧ u_wrM ⟨[], 0⟩ [97] 0 [120] = u_one [97] kh1 1 := one_wr (key := [97]) (v := [120]) (h := kh0) (c := 0) (cas := 0) kN0 (by decide) (by decide) (.inr rfl)
theorem kn2 : u_wrE (u_one [97] kh1 1) [97] 0 [121] = 220 ∧ u_wrN (u_one [97] kh1 1) [97] 0 [121] = 0 ∧ u_wrM (u_one [97] kh1 1) [97] 0 [121] = u_one [97] kh1 1 := one_cas (key := [97]) (v := [121]) kN1 (by decide) (by decide) ⟨by decide, by decide⟩
theorem kn3 : u_wrE (u_one [97] kh1 1) [97] (-1) [121, 122] = 0 ∧ u_wrN (u_one [97] kh1 1) [97] (-1) [121, 122] = 2 ∧ u_wrM (u_one [97] kh1 1) [97] (-1) [121, 122] = u_one [97] kh2 2 := one_wr (key := [97]) (v := [121, 122]) kN1 (by decide) (by decide) (.inl rfl)
theorem kn4 : u_rdE (u_one [97] kh2 2) [97] 1 = 0 ∧ u_rdV (u_one [97] kh2 2) [97] 1 = [120] := by
  have h := one_rd (key := [97]) kN2 (i := 0) (by decide) (by decide)
  have h : u_rd (u_one [97] kh2 2) [97] 1 = some (dv 1 [120] false) := h
  have q := rd_some h
  exact ⟨q.2.2.2.symm, q.2.1.symm⟩
theorem kn5 : u_sz (u_one [97] kh2 2) = 4 ∧ (u_one [97] kh2 2).es.length = 1 := ⟨rfl, rfl⟩
theorem kn6 : u_dlE (u_one [97] kh2 2) [97] = 0 ∧ u_dlN (u_one [97] kh2 2) [97] = 2 ∧ u_dlM (u_one [97] kh2 2) [97] = u_one [97] kh3 2 := one_dl kN2 (by decide) rfl
theorem kn7 : u_rdE (u_one [97] kh3 2) [97] 0 = 100 := by
  have h := one_rd0 (key := [97]) kN3 (by decide)
  have h : u_rd (u_one [97] kh3 2) [97] 0 = none := h
  exact (rd_none h).2.2.2.symm
theorem kn8 : (u_one [97] kh3 2).keysS.length = 1 := by
  unfold MD.keysS
  rw [List.length_mergeSort]; rfl
theorem kn9 : (u_vs (u_one [97] kh3 2) [97]).length = 2 := rfl
theorem neg1 : Int.negSucc 0 = (-1 : Int) := rfl
theorem okK_0 : u_okK ⟨[], 0⟩ := one_ok (key := [97]) (h := kh0) (c := 0) (by decide) (fun i h => by omega)
attribute [local irreducible] u_okK u_wrE u_wrN u_wrM u_one u_rdE u_rdV u_sz u_dlE u_dlN u_dlM u_vs
theorem r_law22_known : Ready Try.prog 22 := by unfold Ready; kernel_rfl
noncomputable def sp_law22_known (F : Fs) (U : Us) : Specs := [(23, s_kv_New F U), (24, s_kv_KV_Write F U), (26, s_kv_KV_Read F U), (28, s_kv_KV_Size F U), (27, s_kv_KV_Delete F U), (25, s_kv_KV_Keys F U), (30, s_kv_KV_Versions F U)]
theorem ok_law22_known : SpecsOK Try.prog (sp_law22_known real us) := sp_cons r_kv_New k_kv_New (sp_cons r_kv_KV_Write k_kv_KV_Write (sp_cons r_kv_KV_Read k_kv_KV_Read (sp_cons r_kv_KV_Size k_kv_KV_Size (sp_cons r_kv_KV_Delete k_kv_KV_Delete (sp_cons r_kv_KV_Keys k_kv_KV_Keys (sp_cons r_kv_KV_Versions k_kv_KV_Versions sp_nil))))))
noncomputable def g_law22_known (F : Fs) (U : Us) : Law
  | [] => some (True, [.val (.b true)])
  | _ => none
noncomputable def s_law22_known (F : Fs) (U : Us) : Vc.Spec := pureSpec F false [] (g_law22_known F U)
noncomputable def x_law22_known (F : Fs) (U : Us) : Cx := ⟨Try.f22.ntmps, tt F, sp_law22_known F U, [], [], [], []⟩
theorem c_law22_known  : vc real (x_law22_known real us) [] [] (Try.f22.body.getD .skip) ⟨zipSl 0 [], [], 64⟩ (retOk real (tt real) false Try.f22.results.toList [.val (.b true)]) := by
  generalize hU : us = U
  generalize hF : real = F
  cbv
  repeat' first | apply And.intro | refine Classical.or_iff_not_imp_left.2 (fun _ => ?_) | exact trivial
  all_goals (subst hF hU; simp only [real, us, Int.cast_ofNat_Int, neg1, kn1, kn2, kn3, kn4, kn5, kn6, kn7, kn8, kn9] at *)
  all_goals first
    | exact okK_0
    | exact one_ok (by decide) kO1
    | exact one_ok (by decide) kO2
    | exact one_ok (by decide) kO3
    | (decide; done)
    | (rename_i h; exact absurd (by decide) h)
theorem k_law22_known : SpecOK Try.prog 22 (s_law22_known real us) := by
  refine pure_sound (x := x_law22_known real us) ⟨tt_ok, ok_law22_known, Go.Vc.ks_nil⟩ mixed Try.func22 rfl rfl (by kernel_rfl) ?_
  intro l c rs hg hc
  unfold g_law22_known at hg
  split at hg
  · cases hg; exact ⟨Nat.le_of_ble_eq_true rfl, [], [], c_law22_known ⟩
  · cases hg

end Go.Proofs.Ythjlhookepchgaa
set_option linter.unusedVariables false
set_option linter.unusedSimpArgs false
set_option maxRecDepth 100000
set_option maxHeartbeats 2000000
namespace Go.Proofs.Ythjlhookepchgaa
open Go Go.Vc
/-! ## Many keys -/
theorem upd_find (k d k' : D) : ∀ (l : List (Nat × D × D)), MD.find l k ≠ none → MD.find (MD.upd l k d) k' = if k = k' then some d else MD.find l k'
  | [], h => absurd rfl h
  | (b, q, x) :: l, h => by
    simp only [MD.upd]
    by_cases hq : q = k
    · subst hq
      rw [if_pos rfl]
      simp only [MD.find]
      by_cases e : q = k'
      · rw [if_pos e, if_pos e]
      · rw [if_neg e, if_neg e, if_neg e]
    · rw [if_neg hq]
      simp only [MD.find] at h ⊢
      rw [if_neg hq] at h
      rw [upd_find k d k' l h]
      by_cases e : q = k'
      · subst e
        rw [if_pos rfl, if_pos rfl, if_neg (fun e => hq e.symm)]
      · rw [if_neg e, if_neg e]
theorem app_find (k d k' : D) (c : Nat) : ∀ (l : List (Nat × D × D)), MD.find l k = none → MD.find (l ++ [(c, k, d)]) k' = if k = k' then some d else MD.find l k'
  | [], h => by simp only [List.nil_append, MD.find]
  | (b, q, x) :: l, h => by
    simp only [MD.find] at h
    split at h
    · cases h
    · rename_i hq
      simp only [List.cons_append, MD.find]
      rw [app_find k d k' c l h]
      by_cases e : q = k'
      · subst e
        rw [if_pos rfl, if_pos rfl, if_neg (fun e => hq e.symm)]
      · rw [if_neg e, if_neg e]
theorem find_has {M : MD} {k : D} : (M.has k = true ↔ MD.find M.es k ≠ none) ∧ (M.has k = false ↔ MD.find M.es k = none) := by
  unfold MD.has
  cases MD.find M.es k <;> simp
theorem set_find (M : MD) (k d k' : D) : MD.find (M.set k d).es k' = if k = k' then some d else MD.find M.es k' := by
  unfold MD.set
  cases h : M.has k with
  | true => exact upd_find k d k' _ (find_has.1.1 h)
  | false => exact app_find k d k' _ _ (find_has.2.1 h)
theorem set_vs (M : MD) (key key' : List UInt8) (l : List D) : u_vs (M.set (.s key) (.t l)) key' = if key = key' then l else u_vs M key' := by
  unfold u_vs MD.get
  rw [set_find]
  by_cases e : key = key'
  · subst e; rw [if_pos rfl, if_pos rfl]; rfl
  · rw [if_neg e, if_neg (by rw [D.s.injEq]; exact e)]
theorem set_hasS (M : MD) (key key' : List UInt8) (d : D) : u_has (M.set (.s key) d) key' = (decide (key = key') || u_has M key') := by
  unfold u_has MD.has
  rw [set_find]
  by_cases e : key = key'
  · subst e; rw [if_pos rfl, decide_eq_true rfl]; rfl
  · rw [if_neg (by rw [D.s.injEq]; exact e), decide_eq_false e, Bool.false_or]
theorem upd_len (k d : D) : ∀ (l : List (Nat × D × D)), (MD.upd l k d).length = l.length
  | [] => rfl
  | (b, q, x) :: l => by
    simp only [MD.upd]
    split
    · rfl
    · rw [List.length_cons, List.length_cons, upd_len k d l]
theorem set_lenS (M : MD) (k d : D) : (M.set k d).es.length = if M.has k then M.es.length else M.es.length + 1 := by
  unfold MD.set
  split
  · exact upd_len k d _
  · show (M.es ++ [_]).length = _
    rw [List.length_append]; rfl
theorem upd_mem {k d : D} {e : Nat × D × D} : ∀ {l : List (Nat × D × D)}, e ∈ MD.upd l k d → e ∈ l ∨ (∃ b, e = (b, k, d))
  | [], h => by simp [MD.upd] at h
  | (b, q, x) :: l, h => by
    simp only [MD.upd] at h
    split at h
    · rename_i hq
      rw [List.mem_cons] at h
      rcases h with rfl | h
      · exact .inr ⟨b, by rw [hq]⟩
      · exact .inl (List.mem_cons_of_mem _ h)
    · rw [List.mem_cons] at h
      rcases h with rfl | h
      · exact .inl (List.mem_cons_self ..)
      · rcases upd_mem h with h | h
        · exact .inl (List.mem_cons_of_mem _ h)
        · exact .inr h
theorem set_mem {M : MD} {k d : D} {e : Nat × D × D} (h : e ∈ (M.set k d).es) : e ∈ M.es ∨ (∃ b, e = (b, k, d)) := by
  unfold MD.set at h
  split at h
  · exact upd_mem h
  · have h : e ∈ M.es ++ [(M.clock, k, d)] := h
    rw [List.mem_append, List.mem_singleton] at h
    rcases h with h | rfl
    · exact .inl h
    · exact .inr ⟨_, rfl⟩
/-- versions one behind the other, none beyond a number -/
def okL (l : List D) (B : Nat) : Prop := l.length ≤ 3 ∧ (∀ d ∈ l, ∃ (n : Int) (v : List UInt8) (g : Bool), d = dv n v g ∧ 1 ≤ n ∧ n ≤ B ∧ v.length ≤ 1000) ∧ l.Pairwise fun a b => (a.fld 0).gi < (b.fld 0).gi
def okN (M : MD) (B : Nat) : Prop := M.ok ∧ M.es.length ≤ 12 ∧ ∀ e ∈ M.es, ∃ (k : List UInt8) (l : List D), e.2.1 = .s k ∧ k.length ≤ 1000 ∧ e.2.2 = .t l ∧ okL l B
theorem okL_V {l : List D} {B : Nat} (h : okL l B) (hB : B ≤ 1000000000) : u_okV l := ⟨Nat.le_trans h.1 (by decide), fun d hd => by
  obtain ⟨n, v, g, h1, h2, h3, h4⟩ := h.2.1 d hd
  exact ⟨n, v, g, h1, by omega, by omega, h4⟩⟩
theorem okN_K {M : MD} {B : Nat} (h : okN M B) (hB : B ≤ 1000000000) : u_okK M := by
  obtain ⟨h1, h2, h3⟩ := h
  refine ⟨h1, ⟨by omega, fun e he => ?_⟩, fun e he => ?_⟩
  · obtain ⟨k, l, e1, e2, _⟩ := h3 e he
    rw [e1]; exact Nat.le_trans e2 (by decide)
  · obtain ⟨k, l, e1, e2, e3, e4⟩ := h3 e he
    exact ⟨k, l, e1, e2, e3, okL_V e4 hB⟩
theorem okL_0 (B : Nat) : okL [] B := ⟨Nat.zero_le _, fun d hd => by simp at hd, List.Pairwise.nil⟩
theorem okN_vs {M : MD} {B : Nat} (h : okN M B) (key : List UInt8) : okL (u_vs M key) B := by
  unfold u_vs MD.get
  cases hf : MD.find M.es (.s key) with
  | none => exact okL_0 B
  | some d =>
    obtain ⟨b, hb⟩ := find_mem hf
    obtain ⟨k, l, _, _, h3, h4⟩ := h.2.2 _ hb
    have h3 : d = .t l := h3
    subst h3
    exact h4
theorem okN_0 (B : Nat) : okN ⟨[], 0⟩ B := ⟨⟨List.nodup_nil, List.nodup_nil, fun e he => by simp at he⟩, Nat.zero_le _, fun e he => by simp at he⟩
theorem okL_mono {l : List D} {B B' : Nat} (h : okL l B) (hB : B ≤ B') : okL l B' := ⟨h.1, fun d hd => by
  obtain ⟨n, v, g, h1, h2, h3, h4⟩ := h.2.1 d hd
  exact ⟨n, v, g, h1, h2, by omega, h4⟩, h.2.2⟩
theorem okN_mono {M : MD} {B B' : Nat} (h : okN M B) (hB : B ≤ B') : okN M B' := ⟨h.1, h.2.1, fun e he => by
  obtain ⟨k, l, e1, e2, e3, e4⟩ := h.2.2 e he
  exact ⟨k, l, e1, e2, e3, okL_mono e4 hB⟩⟩
theorem okN_set {M : MD} {B : Nat} (h : okN M B) {key : List UInt8} {l : List D} (hk : key.length ≤ 1000) (hl : okL l B) (hh : M.has (.s key) = true ∨ M.es.length < 12) : okN (M.set (.s key) (.t l)) B := by
  refine ⟨MD.set_ok h.1 _ _, ?_, fun e he => ?_⟩
  · rw [set_lenS]
    have := h.2.1
    rcases hh with hh | hh
    · rw [if_pos hh]; exact this
    · split <;> omega
  · rcases set_mem he with he | ⟨b, rfl⟩
    · exact h.2.2 e he
    · exact ⟨key, l, rfl, hk, rfl, hl⟩
/-- all are at most the last one -/
theorem okL_last {l : List D} {B : Nat} (h : okL l B) {d : D} (hd : d ∈ l) : (d.fld 0).gi ≤ ((l.getLastD dv0).fld 0).gi := by
  have h0 : ¬ l.length = 0 := fun e => by rw [List.eq_nil_of_length_eq_zero e] at hd; simp at hd
  obtain ⟨i, hi⟩ := List.mem_iff_getElem?.1 hd
  have hlt := (List.getElem?_eq_some_iff.1 hi).1
  rw [getLastD_eq h0, List.getD_eq_getElem?_getD, List.getElem?_eq_getElem (by omega)]
  have hd : l[i] = d := (List.getElem?_eq_some_iff.1 hi).2
  rw [← hd]
  by_cases e : i = l.length - 1
  · subst e; exact Int.le_refl _
  · exact Int.le_of_lt (List.pairwise_iff_getElem.1 h.2.2 i (l.length - 1) hlt (by omega) (by omega))
theorem lN_B {M : MD} {B : Nat} (h : okN M B) (key : List UInt8) : 0 ≤ u_lN M key ∧ u_lN M key ≤ B ∧ (u_lN M key = 0 ↔ u_vs M key = []) := by
  have hl := okN_vs h key
  by_cases h0 : (u_vs M key).length = 0
  · have e := List.eq_nil_of_length_eq_zero h0
    have := (last_0 e).1
    rw [this]
    exact ⟨Int.le_refl _, Int.natCast_nonneg _, fun _ => e, fun _ => rfl⟩
  · have hm : u_last M key ∈ u_vs M key := by
      unfold u_last
      rw [getLastD_eq h0, List.getD_eq_getElem?_getD, List.getElem?_eq_getElem (by omega)]
      exact List.getElem_mem _
    obtain ⟨n, v, g, h1, h2, h3, h4⟩ := hl.2.1 _ hm
    unfold u_lN
    rw [h1]
    show 0 ≤ n ∧ n ≤ B ∧ (n = 0 ↔ _)
    exact ⟨by omega, h3, fun e => by omega, fun e => absurd (congrArg List.length e) h0⟩
theorem has_vs {M : MD} {key : List UInt8} (h : M.has (.s key) = false) : u_vs M key = [] := by
  unfold u_vs MD.get
  rw [find_has.2.1 h]; rfl
theorem wr_at {M : MD} {key v : List UInt8} {cas : Int} (e : u_wrE M key cas v = 0) : u_wrM M key cas v = M.set (.s key) (.t ((u_vs M key).drop (u_fg M key) ++ [dv (u_lN M key + 1) v false])) := by
  unfold u_wrM; rw [if_pos e]
theorem okL_wr {M : MD} {B : Nat} (h : okN M B) (key : List UInt8) {v : List UInt8} (hv : v.length ≤ 1000) : okL ((u_vs M key).drop (u_fg M key) ++ [dv (u_lN M key + 1) v false]) (B + 1) := by
  have hl := okN_vs h key
  have hn := lN_B h key
  refine ⟨?_, fun d hd => ?_, ?_⟩
  · rw [List.length_append, List.length_drop]
    unfold u_fg
    have := hl.1
    simp only [List.length_singleton]; omega
  · rw [List.mem_append, List.mem_singleton] at hd
    rcases hd with hd | rfl
    · obtain ⟨n, v, g, h1, h2, h3, h4⟩ := hl.2.1 d (List.mem_of_mem_drop hd)
      exact ⟨n, v, g, h1, h2, by omega, h4⟩
    · exact ⟨u_lN M key + 1, v, false, rfl, by omega, by omega, hv⟩
  · rw [List.pairwise_append]
    refine ⟨hl.2.2.sublist (List.drop_sublist _ _), List.pairwise_singleton _ _, fun a ha b hb => ?_⟩
    rw [List.mem_singleton] at hb
    subst hb
    have := okL_last hl (List.mem_of_mem_drop ha)
    show (a.fld 0).gi < u_lN M key + 1
    unfold u_lN u_last
    omega
theorem wr_0 {M : MD} {key v : List UInt8} {cas : Int} (e : u_wrE M key cas v = 0) : u_isK key = true ∧ v.length ≤ 40 ∧ (cas = -1 ∨ cas = u_lN M key) ∧ (u_lN M key = 0 → M.es.length < 12) := by
  unfold u_wrE at e
  split at e
  · cases e
  split at e
  · cases e
  split at e
  · cases e
  split at e
  · cases e
  · rename_i h1 h2 h3 h4
    exact ⟨by cases hq : u_isK key <;> simp_all, by omega, by omega, fun h => by omega⟩
theorem isK_len {key : List UInt8} (h : u_isK key = true) : 1 ≤ key.length ∧ key.length ≤ 10 := by
  unfold u_isK at h
  simp only [Bool.and_eq_true, decide_eq_true_eq] at h
  exact ⟨h.1.2, h.2⟩
theorem okN_wr {M : MD} {B : Nat} (h : okN M B) (key : List UInt8) (cas : Int) (v : List UInt8) : okN (u_wrM M key cas v) (B + 1) := by
  by_cases e : u_wrE M key cas v = 0
  · rw [wr_at e]
    obtain ⟨h1, h2, h3, h4⟩ := wr_0 e
    refine okN_set (okN_mono h (Nat.le_succ _)) (by have := isK_len h1; omega) (okL_wr h key (by omega)) ?_
    cases hh : M.has (.s key) with
    | true => exact .inl rfl
    | false => exact .inr (h4 ((lN_B h key).2.2.2 (has_vs hh)))
  · unfold u_wrM; rw [if_neg e]; exact okN_mono h (Nat.le_succ _)
theorem dl_at {M : MD} {key : List UInt8} (e : u_dlE M key = 0) : u_dlM M key = M.set (.s key) (.t ((u_vs M key).set ((u_vs M key).length - 1) (dv (u_lN M key) [] true))) := by
  unfold u_dlM; rw [if_pos e]
theorem dl_0 {M : MD} {key : List UInt8} (e : u_dlE M key = 0) : ¬ u_lN M key = 0 ∧ u_lG M key = false := by
  unfold u_dlE at e
  split at e
  · cases e
  · rename_i h
    exact ⟨fun h1 => h (.inl h1), by cases hq : u_lG M key <;> simp_all⟩
theorem okN_dl {M : MD} {B : Nat} (h : okN M B) (key : List UInt8) (hk : key.length ≤ 1000) : okN (u_dlM M key) B := by
  by_cases e : u_dlE M key = 0
  · rw [dl_at e]
    obtain ⟨h1, h2⟩ := dl_0 e
    have hl := okN_vs h key
    have hn := lN_B h key
    have h0 : ¬ (u_vs M key).length = 0 := lN_len h1
    have hlast : u_lN M key = (((u_vs M key).getD ((u_vs M key).length - 1) D.no).fld 0).gi := by
      unfold u_lN u_last
      rw [getLastD_eq h0]
    refine okN_set h hk ⟨by rw [List.length_set]; exact hl.1, fun d hd => ?_, ?_⟩ ?_
    · rcases List.mem_or_eq_of_mem_set hd with hd | rfl
      · exact hl.2.1 d hd
      · exact ⟨u_lN M key, [], true, rfl, by omega, hn.2.1, by decide⟩
    · refine List.pairwise_iff_getElem.2 fun i j hi hj hij => ?_
      rw [List.length_set] at hi hj
      have hp := List.pairwise_iff_getElem.1 hl.2.2 i j hi hj hij
      rw [List.getElem_set, List.getElem_set]
      rw [if_neg (by omega)]
      split
      · rename_i e2
        subst e2
        refine Int.lt_of_lt_of_le hp (Int.le_of_eq ?_)
        show _ = u_lN M key
        rw [List.getD_eq_getElem?_getD, List.getElem?_eq_getElem hj] at hlast
        exact hlast.symm
      · exact hp
    · refine .inl ?_
      cases hh : M.has (.s key) with
      | true => rfl
      | false => exact absurd (congrArg List.length (has_vs hh)) h0
  · unfold u_dlM; rw [if_neg e]; exact h
/-- the last one, asked for by nought -/
theorem okN_rd0 {M : MD} {B : Nat} (h : okN M B) (key : List UInt8) : u_rd M key 0 = if u_vs M key = [] then none else if u_lG M key then none else some (u_last M key) := by
  have hl := okN_vs h key
  by_cases h0 : u_vs M key = []
  · rw [if_pos h0]
    unfold u_rd
    rw [h0]; rfl
  · rw [if_neg h0]
    have hn0 : ¬ (u_vs M key).length = 0 := fun e => h0 (List.eq_nil_of_length_eq_zero e)
    have hm : u_last M key ∈ u_vs M key := by
      unfold u_last
      rw [getLastD_eq hn0, List.getD_eq_getElem?_getD, List.getElem?_eq_getElem (by omega)]
      exact List.getElem_mem _
    have hmt : ∀ d ∈ u_vs M key, u_mt M key 0 d = decide ((d.fld 0).gi = u_lN M key) := by
      intro d hd
      obtain ⟨n, v, g, h1, h2, _⟩ := hl.2.1 d hd
      unfold u_mt
      rw [h1]
      show ((n == 0) || ((0 : Int) == 0 && (n == u_lN M key))) = decide (n = u_lN M key)
      have e : (n == 0) = false := by rw [beq_eq_false_iff_ne]; omega
      rw [e, Bool.false_or]
      show (true && (n == u_lN M key)) = _
      rw [Bool.true_and]
      by_cases e2 : n = u_lN M key
      · rw [e2]; simp
      · rw [decide_eq_false e2, beq_eq_false_iff_ne]; exact e2
    unfold u_rd
    rw [find_N (d := u_last M key) hm]
    · rfl
    · rw [hmt _ hm]; exact decide_eq_true rfl
    · intro x hx hp
      rw [hmt x hx, decide_eq_true_eq] at hp
      obtain ⟨i, hi⟩ := List.mem_iff_getElem?.1 hx
      have hlt := (List.getElem?_eq_some_iff.1 hi).1
      have hxi : (u_vs M key)[i] = x := (List.getElem?_eq_some_iff.1 hi).2
      unfold u_last
      rw [getLastD_eq hn0, List.getD_eq_getElem?_getD, List.getElem?_eq_getElem (by omega)]
      by_cases e : i = (u_vs M key).length - 1
      · subst e; exact hxi.symm
      · exfalso
        have hq := List.pairwise_iff_getElem.1 hl.2.2 i ((u_vs M key).length - 1) hlt (by omega) (by omega)
        rw [hxi, hp] at hq
        unfold u_lN u_last at hq
        rw [getLastD_eq hn0, List.getD_eq_getElem?_getD, List.getElem?_eq_getElem (by omega)] at hq
        exact absurd hq (Int.lt_irrefl _)
end Go.Proofs.Ythjlhookepchgaa
set_option linter.unusedVariables false
set_option linter.unusedSimpArgs false
namespace Go.Vc
open Go Go.RowKit Go.ChangeShapes
/-- nothing that was there has turned -/
def Held (W w' : World) : Prop := w'.os = W.os ∧ w'.output = W.output ∧ W.heap.size ≤ w'.heap.size ∧ ∀ b, b < W.heap.size → w'.heap[b]? = W.heap[b]?
section
variable {H : Type} {enc : TypeId × Value → H} {P : Program}
end

section
variable {P : Program} {x : Cx} {an cu : Anns}
/-- nothing leads anywhere -/
def mTop : Hd := ⟨fun _ => none, fun _ => True, fun _ => False⟩
end
/-! ## Arguments -/
theorem u32_arg {a : Int} (h : (Lit.int .u32 a).wf = true) : ∃ x : UInt32, a = (x.toNat : Int) := by
  simp only [Lit.wf, Bool.and_eq_true, decide_eq_true_eq, IntKind.min, IntKind.max] at h
  refine ⟨UInt32.ofNat a.toNat, ?_⟩
  simp [IntKind.signed, IntKind.bits] at h
  rw [UInt32.toNat_ofNat_of_lt' (by simp [UInt32.size]; omega)]
  omega
theorem u8_arg {a : Int} (h : (Lit.int .u8 a).wf = true) : ∃ x : UInt8, a = (x.toNat : Int) := by
  simp only [Lit.wf, Bool.and_eq_true, decide_eq_true_eq, IntKind.min, IntKind.max] at h
  refine ⟨UInt8.ofNat a.toNat, ?_⟩
  simp [IntKind.signed, IntKind.bits] at h
  rw [UInt8.toNat_ofNat_of_lt' (by simp [UInt8.size]; omega)]
  omega
theorem u64_arg {a : Int} (h : (Lit.int .u64 a).wf = true) : ∃ x : UInt64, a = (x.toNat : Int) := by
  simp only [Lit.wf, Bool.and_eq_true, decide_eq_true_eq, IntKind.min, IntKind.max] at h
  refine ⟨UInt64.ofNat a.toNat, ?_⟩
  simp [IntKind.signed, IntKind.bits] at h
  rw [UInt64.toNat_ofNat_of_lt' (by simp [UInt64.size]; omega)]
  omega
theorem i64_arg {a : Int} (h : (Lit.int .i64 a).wf = true) : -9223372036854775808 ≤ a ∧ a ≤ 9223372036854775807 := by
  simp only [Lit.wf, Bool.and_eq_true, decide_eq_true_eq, IntKind.min, IntKind.max] at h
  simp [IntKind.signed, IntKind.bits] at h
  omega
end Go.Vc
set_option linter.unusedVariables false
set_option linter.unusedSimpArgs false
namespace Go.Vc
open Go Go.RowKit Go.ChangeShapes Go.WideShapes
section
variable {P : Program} {w : World}
/-- a reading of a one-cell type gives such a cell -/
def Elt (P : Program) (w : World) (t : TypeId) {α : Type} (E : α → Value) (q : α → Prop) : Prop :=
  ∀ (H : Type) (enc : TypeId × Value → H) (base : Nat) (sp : Nat → Bool) (held : Bool) (fuel : Nat) (cs : List Value) (x : DataW H × List MemPlace),
    DataW.trod enc P w base sp held fuel t cs = some x → ∃ a, cs = [E a] ∧ q a
theorem elt_i64 {t : TypeId} (ht : P.underlying t = some (.int .i64)) : Elt P w t EI (fun n => -9223372036854775808 ≤ n ∧ n ≤ 9223372036854775807) := by
  intro H enc base sp held fuel cs x h
  obtain ⟨n, rfl, _, hw⟩ := DataW.trod_int ht h
  exact ⟨n, rfl, i64_arg hw⟩
theorem elt_bool {t : TypeId} (ht : P.underlying t = some .bool) : Elt P w t Value.bool (fun _ => True) := by
  intro H enc base sp held fuel cs x h
  obtain ⟨n, rfl, _⟩ := DataW.trod_bool ht h
  exact ⟨n, rfl, trivial⟩
theorem elt_str {t : TypeId} (ht : P.underlying t = some .string) : Elt P w t ES (fun s => s.length ≤ 9223372036854775807) := by
  intro H enc base sp held fuel cs x h
  obtain ⟨s, rfl, _, hs⟩ := DataW.trod_string ht h
  refine ⟨s.data.toList, by simp [ES], ?_⟩
  simpa [maxLen] using hs
theorem elt_u8 {t : TypeId} (ht : P.underlying t = some (.int .u8)) : Elt P w t E8 (fun _ => True) := by
  intro H enc base sp held fuel cs x h
  obtain ⟨n, rfl, _, hw⟩ := DataW.trod_int ht h
  obtain ⟨y, hy⟩ := u8_arg hw
  exact ⟨y, by rw [hy], trivial⟩
theorem elt_u32 {t : TypeId} (ht : P.underlying t = some (.int .u32)) : Elt P w t E32 (fun _ => True) := by
  intro H enc base sp held fuel cs x h
  obtain ⟨n, rfl, _, hw⟩ := DataW.trod_int ht h
  obtain ⟨y, hy⟩ := u32_arg hw
  exact ⟨y, by rw [hy], trivial⟩
theorem elt_u64 {t : TypeId} (ht : P.underlying t = some (.int .u64)) : Elt P w t E64 (fun _ => True) := by
  intro H enc base sp held fuel cs x h
  obtain ⟨n, rfl, _, hw⟩ := DataW.trod_int ht h
  obtain ⟨y, hy⟩ := u64_arg hw
  exact ⟨y, by rw [hy], trivial⟩
theorem drop_take_one {α : Type} {l : List α} {a : α} {i : Nat} (h : (l.drop i).take 1 = [a]) : l[i]? = some a := by
  have h1 := congrArg List.head? h
  rw [List.head?_take, if_neg (by decide), List.head?_drop] at h1
  simpa using h1
theorem list_of {α : Type} (E : α → Value) (q : α → Prop) : ∀ cs : List Value, (∀ i, i < cs.length → ∃ x, cs[i]? = some (E x) ∧ q x) → ∃ xs : List α, cs = xs.map E ∧ ∀ x ∈ xs, q x
  | [], _ => ⟨[], rfl, by simp⟩
  | c :: r, h => by
    obtain ⟨x, hx, hq⟩ := h 0 (by simp)
    obtain ⟨xs, hr, hqs⟩ := list_of E q r fun i hi => by
      obtain ⟨x, hx, hq⟩ := h (i + 1) (by simp; omega)
      exact ⟨x, by simpa using hx, hq⟩
    simp only [List.getElem?_cons_zero, Option.some.injEq] at hx
    refine ⟨x :: xs, by simp [hx, hr], fun y hy => ?_⟩
    rcases List.mem_cons.1 hy with rfl | hy
    · exact hq
    · exact hqs y hy
theorem arr_of {α : Type} {E : α → Value} {q : α → Prop} {t e : TypeId} {n : Nat} (ht : P.underlying t = some (.array n e)) (hc : P.cellsOf e = 1) (hn : P.cellsOf t = n) (hE : Elt P w e E q)
    (H : Type) (enc : TypeId × Value → H) (base : Nat) (sp : Nat → Bool) (held : Bool) (fuel : Nat) (cs : List Value) (x : DataW H × List MemPlace)
    (h : DataW.trod enc P w base sp held fuel t cs = some x) : ∃ xs : List α, cs = xs.map E ∧ xs.length = n ∧ ∀ x ∈ xs, q x := by
  obtain ⟨ys, m, rfl, rfl, hl, hyl, hel⟩ := DataW.trod_array ht h
  obtain ⟨xs, rfl, hq⟩ := list_of E q cs fun i hi => by
    have h1 := hel i (by omega)
    rw [List.getElem?_eq_getElem (by omega), hc] at h1
    obtain ⟨a, ha, hq⟩ := hE H enc base sp held m _ _ h1
    exact ⟨a, drop_take_one (by simpa using ha), hq⟩
  exact ⟨xs, rfl, by simpa [hn] using hl, hq⟩
theorem cell_ltO {a : Addr} {v : Value} (h : w.cell? a = some v) : a.block < w.heap.size := by
  unfold World.cell? at h
  split at h
  · rename_i h1; exact (Array.getElem?_eq_some_iff.1 h1).1
  · cases h
theorem stableAtTop {a : Addr} {ds : List Value} (h0 : 0 < ds.length) (h : ∀ j x, ds[j]? = some x → w.cell? (a.add j) = some x) : StableAt mTop w a ds := by
  refine ⟨⟨?_, trivial, .inr fun k v hk => by cases hk⟩, h⟩
  have := cell_ltO (h 0 ds[0] (by simp [h0]))
  rwa [add_block] at this
theorem sl_of {α : Type} {E : α → Value} {q : α → Prop} {t e : TypeId} (ht : P.underlying t = some (.slice e)) (hc : P.cellsOf e = 1) (hE : Elt P w e E q)
    (H : Type) (enc : TypeId × Value → H) (base : Nat) (sp : Nat → Bool) (held : Bool) (fuel : Nat) (cs : List Value) (x : DataW H × List MemPlace)
    (h : DataW.trod enc P w base sp held fuel t cs = some x) :
    ∃ (xs : List α) (ad : Option Addr) (cap : Nat), cs = [.slice ad xs.length cap] ∧ xs.length ≤ cap ∧ xs.length ≤ 9223372036854775807 ∧ (0 < xs.length → ∃ a, ad = some a ∧ StableAt mTop w a (xs.map E)) ∧ ∀ x ∈ xs, q x := by
  rcases DataW.trod_slice ht h with ⟨rfl, _⟩ | ⟨a, len, cap, elems, rest, m, rfl, rfl, rfl, _, hl, hm, hlen, hel, _⟩
  · exact ⟨[], none, 0, rfl, by simp, by simp, by simp, by simp⟩
  · have key : ∀ k, k ≤ len → ∃ xs : List α, xs.length = k ∧ (∀ j x, (xs.map E)[j]? = some x → w.cell? (a.add j) = some x) ∧ ∀ x ∈ xs, q x := by
      intro k
      induction k with
      | zero => exact fun _ => ⟨[], rfl, by simp, by simp⟩
      | succ k ih =>
        intro hk
        obtain ⟨xs, h1, h2, h3⟩ := ih (by omega)
        have h4 := hel k (by omega)
        rw [List.getElem?_eq_getElem (by omega), hc, Nat.mul_one, Option.bind_eq_some_iff] at h4
        obtain ⟨cs', hcs, hy⟩ := h4
        obtain ⟨y, rfl, hq⟩ := hE H enc base sp held m _ _ hy
        have hcell := cell_of_cells?_one hcs
        refine ⟨xs ++ [y], by simp [h1], fun j x hj => ?_, fun x hx => ?_⟩
        · rw [List.map_append, List.getElem?_append] at hj
          split at hj
          · exact h2 j x hj
          · rename_i hlt
            simp only [List.length_map] at hj hlt
            have : j = k := by
              have := (List.getElem?_eq_some_iff.1 hj).1
              simp at this
              omega
            subst this
            simp [h1] at hj
            rw [← hj]; exact hcell
        · rcases List.mem_append.1 hx with hx | hx
          · exact h3 x hx
          · simp at hx; rw [hx]; exact hq
    obtain ⟨xs, h1, h2, h3⟩ := key len (Nat.le_refl _)
    refine ⟨xs, some a, cap, by rw [h1], by omega, by simp [maxLen] at hm; omega, fun h0 => ⟨a, rfl, stableAtTop (by simpa using h0) h2⟩, h3⟩
theorem cells_oneO {v : Value} (h : ∀ cs, v ≠ .agg cs) : v.cells.toList = [v] := by
  unfold Value.cells
  split
  · rename_i cs; exact absurd rfl (h cs)
  · rfl
section
variable {H : Type} {enc : TypeId × Value → H} {base b0 : Nat} {sp : Nat → Bool} {held : Bool} {t e : TypeId} {v : Value} {d : DataW H} {ps : List MemPlace} {r : Reach}
theorem openB (ht : P.underlying t = some .bool) (hval : Value.okWide P w r b0 t v) (hd : DataW.Trod enc P w base sp held t v d ps) : ∃ x, RV mTop w (.b x) v := by
  obtain ⟨n, rfl⟩ := okWide_bool ht hval
  exact ⟨n, by simp [RV, CR]⟩
theorem openS (ht : P.underlying t = some .string) (hval : Value.okWide P w r b0 t v) (hd : DataW.Trod enc P w base sp held t v d ps) : ∃ x, RV mTop w (.s x) v ∧ x.length ≤ 9223372036854775807 := by
  obtain ⟨n, rfl⟩ := okWide_string ht hval
  obtain ⟨fuel, hf⟩ := hd
  rw [cells_oneO (by simp)] at hf
  obtain ⟨a, ha, hq⟩ := elt_str ht _ _ _ _ _ _ _ _ hf
  exact ⟨a, by simpa [RV, CR] using ha, hq⟩
theorem open8 (ht : P.underlying t = some (.int .u8)) (hval : Value.okWide P w r b0 t v) (hd : DataW.Trod enc P w base sp held t v d ps) : ∃ x, RV mTop w (.w8 x) v := by
  obtain ⟨n, rfl⟩ := okWide_int ht hval
  obtain ⟨fuel, hf⟩ := hd
  rw [cells_oneO (by simp)] at hf
  obtain ⟨a, ha, hq⟩ := elt_u8 ht _ _ _ _ _ _ _ _ hf
  exact ⟨a, by simpa [RV, CR] using ha⟩
theorem openL8 (ht : P.underlying t = some (.slice e)) (he : P.underlying e = some (.int .u8)) (hc : P.cellsOf e = 1) (hval : Value.okWide P w r b0 t v) (hd : DataW.Trod enc P w base sp held t v d ps) :
    ∃ xs : List UInt8, RV mTop w (.rb 1 (.bt xs)) v ∧ xs.length ≤ 9223372036854775807 := by
  obtain ⟨a, len, cap, rfl⟩ := okWide_slice ht hval
  obtain ⟨fuel, hf⟩ := hd
  rw [cells_oneO (by simp)] at hf
  obtain ⟨xs, ad, cap', h1, h2, h3, h4, hq⟩ := sl_of ht hc (elt_u8 he) _ _ _ _ _ _ _ _ hf
  simp only [List.cons.injEq, and_true, Value.slice.injEq] at h1
  obtain ⟨rfl, rfl, rfl⟩ := h1
  refine ⟨xs, ?_, h3⟩
  simp only [RV, CR]
  exact ⟨_, _, _, xs.map E8, rfl, by simp [RC], by simp, h2, h4⟩
theorem openLS (ht : P.underlying t = some (.slice e)) (he : P.underlying e = some (.string)) (hc : P.cellsOf e = 1) (hval : Value.okWide P w r b0 t v) (hd : DataW.Trod enc P w base sp held t v d ps) :
    ∃ xs : List (List UInt8), RV mTop w (.rb 1 (.ss xs)) v ∧ xs.length ≤ 9223372036854775807 ∧ ∀ x ∈ xs, x.length ≤ 9223372036854775807 := by
  obtain ⟨a, len, cap, rfl⟩ := okWide_slice ht hval
  obtain ⟨fuel, hf⟩ := hd
  rw [cells_oneO (by simp)] at hf
  obtain ⟨xs, ad, cap', h1, h2, h3, h4, hq⟩ := sl_of ht hc (elt_str he) _ _ _ _ _ _ _ _ hf
  simp only [List.cons.injEq, and_true, Value.slice.injEq] at h1
  obtain ⟨rfl, rfl, rfl⟩ := h1
  refine ⟨xs, ?_, h3, hq⟩
  simp only [RV, CR]
  exact ⟨_, _, _, xs.map ES, rfl, by simp [RC], by simp, h2, h4⟩
end
theorem rvs_cons {m : Hd} {a : AV} {v : Value} {l : List AV} {vs : List Value} (h : RV m w a v) (hs : RVs m w l vs) : RVs m w (a :: l) (v :: vs) := ⟨v, vs, rfl, h, hs⟩
theorem rvs_nil {m : Hd} : RVs m w [] [] := rfl
/-! ## A law's end -/
theorem trodAll_stays {H : Type} {enc : TypeId × Value → H} {W W' : World} (hl : laidOutB P = true) (hb : Below W.heap.size W W') :
    ∀ {ts : List TypeId} {vs : List Value} {ds : List (DataW H)} {ps : List MemPlace}, (ts.all fun t => P.readableRec t && decide (t < P.types.size)) = true →
      DataW.TrodAll enc P W 0 (fun _ => true) true ts vs ds ps → DataW.TrodAll enc P W' 0 (fun b => decide (b < W.heap.size)) true ts vs ds ps
  | [], [], [], _, _, h => h
  | t :: ts, v :: vs, d :: ds, ps, hr, h => by
    have hlt := h.lt
    obtain ⟨p, q, h1, h2, rfl⟩ := h
    simp only [List.all_cons, Bool.and_eq_true, decide_eq_true_eq] at hr
    exact ⟨p, q, Below.trod hl hr.1.1 hr.1.2 h1 hb fun x hx => hlt x (List.mem_append_left _ hx), trodAll_stays hl hb hr.2 h2, rfl⟩
  | [], [], _ :: _, _, _, h => h.elim
  | [], _ :: _, _, _, _, h => h.elim
  | _ :: _, [], _, _, _, h => h.elim
  | _ :: _, _ :: _, [], _, _, h => h.elim
theorem post_true {H : Type} {enc : TypeId × Value → H} {f : Func} {s : ChangeSpec} {W W' : World} {args : Array Value} {ds gs : List (DataW H)} {before : List MemPlace} {tb : TypeId}
    (hl : laidOutB P = true) (hr : (f.params.toList.all fun t => P.readableRec t && decide (t < P.types.size)) = true) (hrt : f.resultTypes = #[tb]) (hb : P.underlying tb = some .bool) (hsv : s.vars = [])
    (hW : DataW.Whole enc P f.params.toList s.vars false W args.toList ds gs before) (hfn : s.fn H (ds ++ []) = ⟨[.lit (.bool true)], ds, []⟩) (hk : Below W.heap.size W W') :
    s.post enc P f false true false false W args (.bool true) W' := by
  have hW' := hW
  obtain ⟨p, q, hA, hV, rfl, _, _⟩ := hW
  rw [hsv] at hV
  obtain ⟨rfl, rfl⟩ := trodVars_none hV
  refine ⟨ds, [], _, [], p, [], hW', ?_, ?_, ?_, hk.frame _, fun h => by cases h⟩
  · rw [hfn, hrt]
    exact trodAll_mk1 (shut_bool hb _)
  · rw [hfn]
    exact trodAll_stays hl hk hr hA
  · rw [hfn, hsv]
    rfl
/-- a law's walk, from the conditions of its code -/
theorem law_walk2 {x : Cx} {an cu : Anns} (hx : XOK P x) (hmx : P.follows .mixedOrders = true) {f : Nat} {fn : Func} {body : Code} (hf : P.funcs[f]? = some fn) (hbd : fn.body = some body) (hn : fn.ntmps = x.nt) (hdr : drawsOk x.tt x.dr body = true)
    {l : List AV} {vals : List Value} {w : World} (hsh : w.ShapedOpen P) (hl : llen l ≤ x.nt) (hv : RVs mTop w l vals) (hvc : vc real x an cu body ⟨zipSl 0 l, [], 64⟩ (retOk real x.tt false fn.results.toList [.val (.b true)])) :
    Calls P f vals.toArray w fun e w' => e = .returned (.bool true) ∧ Below w.heap.size w w' := by
  have hlen := RVs_length hv
  rw [llen_eq] at hl
  let E : Env := ⟨w, [], fun _ => True, none, [], fun _ => False⟩
  have hr : StR E x.nt ⟨zipSl 0 l, [], 64⟩ mTop { tmps := vals.toArray ++ Array.replicate (fn.ntmps - vals.toArray.size) undef, defers := [] } w :=
    ⟨entry_sl hv _, ⟨fun k ab h => (by cases h), fun k k' ab ab' v v' b h => (by cases h), fun b h => h.elim, fun k ab v b h => (by cases h), fun k ab v b h => (by cases h), fun _ _ => trivial⟩, fun k v b hk => (by cases hk), fun k _ => rfl, (by simp; omega), rfl,
      ⟨rfl, rfl, rfl, Nat.le_refl _, rfl, fun _ _ _ => rfl, fun k v b hk => (by cases hk), fun m0 w1 he => (by cases he), fun j v hj => (by cases hj), fun b h => h.elim, fun b h => h.elim⟩⟩
  have hE : GE P E := ⟨w, hsh, fun g o h1 h2 => ⟨(Array.getElem?_eq_some_iff.1 h2).1, fun h => (by cases h), trivial, h2⟩⟩
  refine calls_of_wp hf hbd (code_mono (vc_sound hx hE (fun j v hj => (by cases hj)) (.inl rfl) hmx body _ _ hdr hvc _ _ w hr) ?_)
  intro en a w' hp
  refine ends_sound hx.tt (fun l vs s' m1 w1 k1 k2 k3 => ?_) hp
  cases l with
  | nil => simp [retM] at k2
  | cons b r =>
    cases r with
    | cons c r => simp [retM, AV.nk] at k2
    | nil =>
      simp only [retM, AV.nk, and_true] at k2
      simp only [RVs] at k1
      obtain ⟨v, q, rfl, h1, rfl⟩ := k1
      have := RV_le b (.b true) v k2 (fun h => by cases h) h1
      simp only [RV, CR, List.cons.injEq, and_true] at this
      subst this
      exact ⟨rfl, k3.fr.os, k3.fr.tape, k3.fr.output, k3.fr.size, fun b hb => k3.fr.block b hb (fun h => by cases h)⟩
end
end Go.Vc
set_option linter.unusedVariables false
set_option linter.unusedSimpArgs false
namespace Go.Vc
open Go Go.RowKit Go.ChangeShapes Go.WideShapes
/-! ## What is handed, opened by the shape of its type -/
section
variable (P : Program)
mutual
/-- a type of this shape -/
def ShT : Sh → TypeId → Prop
  | .i, t => P.underlying t = some (.int .i64)
  | .w8, t => P.underlying t = some (.int .u8)
  | .w32, t => P.underlying t = some (.int .u32)
  | .w64, t => P.underlying t = some (.int .u64)
  | .b, t => P.underlying t = some .bool
  | .s, t => P.underlying t = some .string
  | .l8 n, t => ∃ e, P.underlying t = some (.array n e) ∧ P.underlying e = some (.int .u8) ∧ P.cellsOf e = 1 ∧ P.cellsOf t = n
  | .ss, t => ∃ e, P.underlying t = some (.slice e) ∧ P.underlying e = some .string ∧ P.cellsOf e = 1
  | .bs, t => ∃ e, P.underlying t = some (.slice e) ∧ P.underlying e = some (.int .u8) ∧ P.cellsOf e = 1
  | .t l, t => ∃ fs, P.underlying t = some (.struct fs) ∧ P.cellsOf t = Sh.lcells l ∧ ShTs l fs.toList 0
  | .sl sh, t => ∃ e, P.underlying t = some (.slice e) ∧ P.cellsOf e = sh.cells ∧ 0 < sh.cells ∧ ShT sh e
def ShTs : List Sh → List Field → Nat → Prop
  | [], [], _ => True
  | a :: l, f :: fs, o => f.offset = o ∧ P.cellsOf f.type = a.cells ∧ ShT a f.type ∧ ShTs l fs (o + a.cells)
  | _, _, _ => False
end
end
mutual
/-- data of this shape, within a machine's bounds -/
def DF : Sh → D → Prop
  | .i, d => ∃ n, d = .i n ∧ -9223372036854775808 ≤ n ∧ n ≤ 9223372036854775807
  | .w8, d => ∃ x, d = .w8 x
  | .w32, d => ∃ x, d = .w32 x
  | .w64, d => ∃ x, d = .w64 x
  | .b, d => ∃ x, d = .b x
  | .s, d => ∃ x, d = .s x ∧ x.length ≤ 9223372036854775807
  | .l8 n, d => ∃ x, d = .l8 x ∧ x.length = n
  | .ss, d => ∃ x, d = .ss x ∧ x.length ≤ 9223372036854775807 ∧ ∀ y ∈ x, y.length ≤ 9223372036854775807
  | .bs, d => ∃ x, d = .l8 x ∧ x.length ≤ 9223372036854775807
  | .t l, d => ∃ ds, d = .t ds ∧ DFs l ds
  | .sl sh, d => ∃ ds, d = .t ds ∧ ds.length ≤ 9223372036854775807 ∧ ∀ x, x ∈ ds → DF sh x
def DFs : List Sh → List D → Prop
  | [], [] => True
  | a :: l, d :: ds => DF a d ∧ DFs l ds
  | _, _ => False
end
section
variable {P : Program} {w : World}
theorem sl_sh {sh : Sh} {t e : TypeId} (ht : P.underlying t = some (.slice e)) (hc : P.cellsOf e = sh.cells) (h0 : 0 < sh.cells)
    (hE : ∀ (H : Type) (enc : TypeId × Value → H) (base : Nat) (sp : Nat → Bool) (held : Bool) (fuel : Nat) (cs : List Value) (x : DataW H × List MemPlace), DataW.trod enc P w base sp held fuel e cs = some x → ∃ d, DF sh d ∧ DR mTop w sh d cs)
    (H : Type) (enc : TypeId × Value → H) (base : Nat) (sp : Nat → Bool) (held : Bool) (fuel : Nat) (cs : List Value) (x : DataW H × List MemPlace)
    (h : DataW.trod enc P w base sp held fuel t cs = some x) :
    ∃ (ds : List D) (ad : Option Addr) (cap : Nat) (css : List (List Value)), cs = [.slice ad ds.length cap] ∧ ds.length ≤ cap ∧ ds.length ≤ 9223372036854775807 ∧ css.length = ds.length ∧
      (∀ (j : Nat) (x : List Value) (y : D), css[j]? = some x → ds[j]? = some y → x.length = sh.cells ∧ DR mTop w sh y x) ∧ css.flatten.length = ds.length * sh.cells ∧ (0 < ds.length → ∃ a, ad = some a ∧ StableAt mTop w a css.flatten) ∧ ∀ x, x ∈ ds → DF sh x := by
  rcases DataW.trod_slice ht h with ⟨rfl, _⟩ | ⟨a, len, cap, elems, rest, m, rfl, rfl, rfl, _, hl, hm, hlen, hel, _⟩
  · exact ⟨[], none, 0, [], rfl, by simp, by simp, rfl, by simp, by simp, by simp, by simp⟩
  · have key : ∀ k, k ≤ len → ∃ (ds : List D) (css : List (List Value)), ds.length = k ∧ css.length = k ∧ (∀ (j : Nat) (x : List Value), css[j]? = some x → x.length = sh.cells) ∧ (∀ (j : Nat) (x : List Value) (y : D), css[j]? = some x → ds[j]? = some y → DR mTop w sh y x) ∧
        (∀ (j : Nat) x, css.flatten[j]? = some x → w.cell? (a.add j) = some x) ∧ ∀ x, x ∈ ds → DF sh x := by
      intro k
      induction k with
      | zero => exact fun _ => ⟨[], [], rfl, rfl, by simp, by simp, by simp, by simp⟩
      | succ k ih =>
        intro hk
        obtain ⟨ds, css, h1, h2, h3, h4, h5, h6⟩ := ih (by omega)
        have h7 := hel k (by omega)
        rw [List.getElem?_eq_getElem (by omega), hc, Option.bind_eq_some_iff] at h7
        obtain ⟨cs', hcs, hy⟩ := h7
        obtain ⟨d, hd1, hd2⟩ := hE H enc base sp held m _ _ hy
        have hdl := DR_len sh d cs' hd2
        obtain ⟨_, hn, hcell⟩ := World.cells?_some hcs
        have hfl := flat_len h3
        refine ⟨ds ++ [d], css ++ [cs'], by simp [h1], by simp [h2], fun j x hj => ?_, fun j x y hj hj' => ?_, fun j x hj => ?_, fun x hx => ?_⟩
        · rw [List.getElem?_append] at hj
          split at hj
          · exact h3 j x hj
          · have := List.mem_of_getElem? hj
            simp at this; rw [this]; exact hdl
        · rw [List.getElem?_append] at hj hj'
          rw [h2] at hj
          rw [h1] at hj'
          by_cases hlt : j < k
          · rw [if_pos hlt] at hj hj'
            exact h4 j x y hj hj'
          · rw [if_neg hlt] at hj hj'
            have e1 := List.mem_of_getElem? hj
            have e2 := List.mem_of_getElem? hj'
            simp at e1 e2
            rw [e1, e2]; exact hd2
        · rw [List.flatten_append, List.getElem?_append] at hj
          split at hj
          · exact h5 j x hj
          · rename_i hlt
            rw [hfl, h2] at hj hlt
            simp only [List.flatten_cons, List.flatten_nil, List.append_nil] at hj
            have hjl := (List.getElem?_eq_some_iff.1 hj).1
            have := hcell (j - k * sh.cells) (by omega)
            rw [hj, add_add_at, show k * sh.cells + (j - k * sh.cells) = j by omega] at this
            exact this
        · rcases List.mem_append.1 hx with hx | hx
          · exact h6 x hx
          · simp at hx; rw [hx]; exact hd1
    obtain ⟨ds, css, h1, h2, h3, h4, h5, h6⟩ := key len (Nat.le_refl _)
    have hfl := flat_len h3
    refine ⟨ds, some a, cap, css, by rw [h1], by omega, by simp [maxLen] at hm; omega, by omega, fun j x y hx hy => ⟨h3 j x hx, h4 j x y hx hy⟩, by rw [hfl, h2, h1], fun hn => ⟨a, rfl, stableAtTop ?_ h5⟩, h6⟩
    rw [hfl, h2]
    exact Nat.mul_pos (by omega) h0
mutual
theorem elt_sh : ∀ (sh : Sh) (t : TypeId), ShT P sh t → ∀ (H : Type) (enc : TypeId × Value → H) (base : Nat) (sp : Nat → Bool) (held : Bool) (fuel : Nat) (cs : List Value) (x : DataW H × List MemPlace),
    DataW.trod enc P w base sp held fuel t cs = some x → ∃ d, DF sh d ∧ DR mTop w sh d cs
  | .i, t, ht, H, enc, base, sp, held, fuel, cs, x, h => by
    obtain ⟨a, rfl, hq⟩ := elt_i64 (w := w) ht _ _ _ _ _ _ _ _ h
    exact ⟨.i a, ⟨a, rfl, hq⟩, by simp [DR, D.gi]⟩
  | .w8, t, ht, H, enc, base, sp, held, fuel, cs, x, h => by
    obtain ⟨a, rfl, hq⟩ := elt_u8 (w := w) ht _ _ _ _ _ _ _ _ h
    exact ⟨.w8 a, ⟨a, rfl⟩, by simp [DR, D.g8]⟩
  | .w32, t, ht, H, enc, base, sp, held, fuel, cs, x, h => by
    obtain ⟨a, rfl, hq⟩ := elt_u32 (w := w) ht _ _ _ _ _ _ _ _ h
    exact ⟨.w32 a, ⟨a, rfl⟩, by simp [DR, D.g32]⟩
  | .w64, t, ht, H, enc, base, sp, held, fuel, cs, x, h => by
    obtain ⟨a, rfl, hq⟩ := elt_u64 (w := w) ht _ _ _ _ _ _ _ _ h
    exact ⟨.w64 a, ⟨a, rfl⟩, by simp [DR, D.g64]⟩
  | .b, t, ht, H, enc, base, sp, held, fuel, cs, x, h => by
    obtain ⟨a, rfl, hq⟩ := elt_bool (w := w) ht _ _ _ _ _ _ _ _ h
    exact ⟨.b a, ⟨a, rfl⟩, by simp [DR, D.gb]⟩
  | .s, t, ht, H, enc, base, sp, held, fuel, cs, x, h => by
    obtain ⟨a, rfl, hq⟩ := elt_str (w := w) ht _ _ _ _ _ _ _ _ h
    exact ⟨.s a, ⟨a, rfl, hq⟩, by simp [DR, D.gs]⟩
  | .l8 n, t, ht, H, enc, base, sp, held, fuel, cs, x, h => by
    obtain ⟨e, h1, h2, h3, h4⟩ := ht
    obtain ⟨xs, rfl, hl, _⟩ := arr_of (w := w) h1 h3 h4 (elt_u8 h2) _ _ _ _ _ _ _ _ h
    exact ⟨.l8 xs, ⟨xs, rfl, hl⟩, by simp [DR, D.gl8, hl]⟩
  | .ss, t, ht, H, enc, base, sp, held, fuel, cs, x, h => by
    obtain ⟨e, h1, h2, h3⟩ := ht
    obtain ⟨xs, ad, cap, rfl, h4, h5, h6, h7⟩ := sl_of (w := w) h1 h3 (elt_str h2) _ _ _ _ _ _ _ _ h
    exact ⟨.ss xs, ⟨xs, rfl, h5, h7⟩, by simp only [DR, D.gss]; exact ⟨ad, _, cap, _, rfl, rfl, by simp, h4, h6⟩⟩
  | .bs, t, ht, H, enc, base, sp, held, fuel, cs, x, h => by
    obtain ⟨e, h1, h2, h3⟩ := ht
    obtain ⟨xs, ad, cap, rfl, h4, h5, h6, h7⟩ := sl_of (w := w) h1 h3 (elt_u8 h2) _ _ _ _ _ _ _ _ h
    exact ⟨.l8 xs, ⟨xs, rfl, h5⟩, by simp only [DR, D.gl8]; exact ⟨ad, _, cap, _, rfl, rfl, by simp, h4, h6⟩⟩
  | .t l, t, ht, H, enc, base, sp, held, fuel, cs, x, h => by
    obtain ⟨fs, h1, h2, h3⟩ := ht
    obtain ⟨xs, n, rfl, rfl, hl, hlen, hf⟩ := DataW.trod_struct h1 h
    obtain ⟨ds, g1, g2⟩ := elts_sh l fs.toList 0 h3 H enc base sp held n cs (fun i f hi => by
      have hi' : fs[i]? = some f := by simpa using hi
      have := hf i f hi'
      have hif := (Array.getElem?_eq_some_iff.1 hi').1
      exact ⟨xs[i]'(by omega), by rw [this, List.getElem?_eq_getElem (by omega)]⟩)
    refine ⟨.t ds, ⟨ds, rfl, g1⟩, ?_⟩
    have := g2 (.t ds) 0 (fun i => by simp [D.fld, D.gt])
    rw [List.drop_zero, List.take_of_length_le (by omega)] at this
    simpa only [DR] using this
  | .sl sh, t, ht, H, enc, base, sp, held, fuel, cs, x, h => by
    obtain ⟨e, h1, h2, h3, h4⟩ := ht
    obtain ⟨ds, ad, cap, css, rfl, g1, g2, g3, g4, g5, g6, g7⟩ := sl_sh (w := w) h1 h2 h3 (elt_sh sh e h4) _ _ _ _ _ _ _ _ h
    refine ⟨.t ds, ⟨ds, rfl, g2, g7⟩, ?_⟩
    simp only [DR, D.gt]
    exact ⟨ad, _, cap, _, rfl, ⟨css, g3, rfl, g4⟩, g5, g1, g6⟩
theorem elts_sh : ∀ (l : List Sh) (fs : List Field) (o : Nat), ShTs P l fs o → ∀ (H : Type) (enc : TypeId × Value → H) (base : Nat) (sp : Nat → Bool) (held : Bool) (fuel : Nat) (cs : List Value),
    (∀ (i : Nat) (f : Field), fs[i]? = some f → ∃ y, DataW.trod enc P w base sp held fuel f.type ((cs.drop f.offset).take (P.cellsOf f.type)) = some y) →
    ∃ ds, DFs l ds ∧ ∀ (d : D) (j0 : Nat), (∀ i, d.fld (j0 + i) = ds.getD i D.no) → DRs mTop w l d j0 ((cs.drop o).take (Sh.lcells l))
  | [], fs, o, ht, H, enc, base, sp, held, fuel, cs, h => ⟨[], by simp [DFs], fun d j0 _ => by simp [DRs, Sh.lcells]⟩
  | a :: l, fs, o, ht, H, enc, base, sp, held, fuel, cs, h => by
    cases fs with
    | nil => exact (show False from ht).elim
    | cons f fs =>
      obtain ⟨h1, h2, h3, h4⟩ := ht
      obtain ⟨y, hy⟩ := h 0 f rfl
      rw [h1, h2] at hy
      obtain ⟨d, g1, g2⟩ := elt_sh a f.type h3 H enc base sp held fuel _ _ hy
      obtain ⟨ds, k1, k2⟩ := elts_sh l fs (o + a.cells) h4 H enc base sp held fuel cs (fun i f' hi => h (i + 1) f' (by simpa using hi))
      refine ⟨d :: ds, ⟨g1, k1⟩, fun d0 j0 hd => ?_⟩
      simp only [DRs, Sh.lcells]
      refine ⟨(cs.drop o).take a.cells, (cs.drop (o + a.cells)).take (Sh.lcells l), ?_, ?_, ?_⟩
      · rw [List.take_add, List.drop_drop]
      · have := hd 0
        rw [Nat.add_zero] at this
        rw [this]; exact g2
      · refine k2 d0 (j0 + 1) (fun i => ?_)
        have := hd (i + 1)
        rw [show j0 + 1 + i = j0 + (i + 1) by omega, this]
        simp
end
section
variable {H : Type} {enc : TypeId × Value → H} {base b0 : Nat} {sp : Nat → Bool} {held : Bool} {t e : TypeId} {v : Value} {d : DataW H} {ps : List MemPlace} {r : Reach}
/-- a slice of elements of a shape -/
theorem openLD {sh : Sh} (ht : P.underlying t = some (.slice e)) (hc : P.cellsOf e = sh.cells) (h0 : 0 < sh.cells) (hs : ShT P sh e) (hval : Value.okWide P w r b0 t v) (hd : DataW.Trod enc P w base sp held t v d ps) :
    ∃ xs : List D, RV mTop w (.rb sh.cells (.ds sh xs)) v ∧ xs.length ≤ 9223372036854775807 ∧ ∀ x ∈ xs, DF sh x := by
  obtain ⟨a, len, cap, rfl⟩ := okWide_slice ht hval
  obtain ⟨fuel, hf⟩ := hd
  rw [cells_oneO (by simp)] at hf
  obtain ⟨ds, ad, cap', css, h1, h2, h3, h4, h5, h6, h7, h8⟩ := sl_sh (w := w) ht hc h0 (elt_sh sh e hs) _ _ _ _ _ _ _ _ hf
  simp only [List.cons.injEq, and_true, Value.slice.injEq] at h1
  obtain ⟨rfl, rfl, rfl⟩ := h1
  refine ⟨ds, ?_, h3, h8⟩
  simp only [RV, CR]
  exact ⟨_, _, _, css.flatten, rfl, by simp only [RC]; exact ⟨css, h4, rfl, h5⟩, h6, h2, h7⟩
end
end
end Go.Vc
set_option linter.unusedVariables false
namespace Go.Vc
open Go Go.RowKit
/-- the closed facts of a row: what is asked of the whole program is handed in, the rest goes by reckoning -/
theorem joined_of {P : Program} {f : FuncId} {fn : Func} {s : ChangeSpec} {c : OpenClaim} (p1 : laidOutB P = true) (p2 : mapsRowed P = true) (p6 : P.stops = []) (p8 : P.stopKnobs = []) (p24 : P.stopsHeard = true) (p25 : P.mayEnter = true) (p26 : P.liftsFinal = false) (p27 : P.make = some .cut) (c26 : c.lifted = false) (c27 : c.make = .cut) (h0 : (c.wf (OpenSpec.ofChange s)) = true) (h3 : (fn.params.all (P.readableRec ·)) = true) (h4 : (namedTie P c.named s.vars) = true) (h5 : ((c.stops == [])) = true) (h7 : ((c.knobs == [])) = true) (h9 : ((c.inPlace == P.inPlace f)) = true) (h10 : ((c.unfollowed == P.unfollowed f)) = true) (h11 : ((c.recurses == P.recurses f)) = true) (h12 : ((c.named == P.varsNamed f)) = true) (h13 : ((c.maps == (fn.params.toList ++ s.plain.varTypes P).any (P.mapsRec ·))) = true) (h14 : ((c.ifaces == (fn.params.toList ++ s.plain.varTypes P).any (P.ifacesRec ·))) = true) (h15 : ((c.mapsOut == P.mapsAmong fn.resultTypes.toList)) = true) (h16 : ((c.loops == (fn.params.toList ++ s.plain.varTypes P).any (P.loopsFrom ·))) = true) (h17 : ((c.wideKeys == (fn.params.toList ++ s.plain.varTypes P ++ fn.resultTypes.toList).any (P.wideKeysFrom ·))) = true) (h18 : (s.vars.all (P.varReadable ·)) = true) (h19 : (fn.resultTypes.all (fun t => P.readableRec t && decide (t < P.types.size))) = true) (h20 : ((c.ifacesOut == fn.resultTypes.toList.any (P.ifacesRec ·))) = true) (h21 : ((c.loopsOut == fn.resultTypes.toList.any (P.loopsFrom ·))) = true) (h22 : ((c.plainKeys == P.plainKeys)) = true) (h23 : (c.shortTexts.isNone) = true) (h28 : ((c.kinds == (if c.domain.isEmpty then [] else fn.params.toList.map fun t => match P.underlying t with | some (.int k) => some k | _ => none))) = true) (h29 : ((c.pinned == c.pinnedBy)) = true) (h30 : ((c.veiled == (fn.params.toList ++ s.plain.varTypes P ++ fn.resultTypes.toList).any (P.veiledRec ·))) = true) (h31 : (c.veiledFits P fn.params.toList (fn.params.toList ++ s.plain.varTypes P ++ fn.resultTypes.toList)) = true) : joinedFacts P f fn s c = true := by
  unfold joinedFacts
  exact Bool.and_eq_true_iff.2 ⟨Bool.and_eq_true_iff.2 ⟨Bool.and_eq_true_iff.2 ⟨Bool.and_eq_true_iff.2 ⟨Bool.and_eq_true_iff.2 ⟨Bool.and_eq_true_iff.2 ⟨Bool.and_eq_true_iff.2 ⟨Bool.and_eq_true_iff.2 ⟨Bool.and_eq_true_iff.2 ⟨Bool.and_eq_true_iff.2 ⟨Bool.and_eq_true_iff.2 ⟨Bool.and_eq_true_iff.2 ⟨Bool.and_eq_true_iff.2 ⟨Bool.and_eq_true_iff.2 ⟨Bool.and_eq_true_iff.2 ⟨Bool.and_eq_true_iff.2 ⟨Bool.and_eq_true_iff.2 ⟨Bool.and_eq_true_iff.2 ⟨Bool.and_eq_true_iff.2 ⟨Bool.and_eq_true_iff.2 ⟨Bool.and_eq_true_iff.2 ⟨Bool.and_eq_true_iff.2 ⟨Bool.and_eq_true_iff.2 ⟨Bool.and_eq_true_iff.2 ⟨Bool.and_eq_true_iff.2 ⟨Bool.and_eq_true_iff.2 ⟨Bool.and_eq_true_iff.2 ⟨Bool.and_eq_true_iff.2 ⟨Bool.and_eq_true_iff.2 ⟨Bool.and_eq_true_iff.2 ⟨Bool.and_eq_true_iff.2 ⟨h0, p1⟩, p2⟩, h3⟩, h4⟩, h5⟩, (by rw [p6]; rfl)⟩, h7⟩, (by rw [p8]; rfl)⟩, h9⟩, h10⟩, h11⟩, h12⟩, h13⟩, h14⟩, h15⟩, h16⟩, h17⟩, h18⟩, h19⟩, h20⟩, h21⟩, h22⟩, h23⟩, p24⟩, p25⟩, (by rw [c26, p26]; rfl)⟩, (by rw [c27, p27]; rfl)⟩, h28⟩, h29⟩, h30⟩, h31⟩
end Go.Vc
set_option maxRecDepth 100000
namespace Go.Proofs.Ythjlhookepchgaa
open Go
/-- a sign by its number -/
abbrev kc (n : Nat) : Char := Char.ofNat n
theorem io_eq : Try.prog.initOrder = String.ofList [kc 104, kc 97, kc 114, kc 110, kc 101, kc 115, kc 115, kc 32, kc 49, kc 50, kc 49, kc 52, kc 99, kc 99, kc 102, kc 50, kc 54, kc 102, kc 51, kc 56, kc 101, kc 57, kc 97, kc 54, kc 52, kc 48, kc 97, kc 50, kc 52, kc 102, kc 49, kc 101, kc 97, kc 100, kc 97, kc 102, kc 55, kc 53, kc 97, kc 57, kc 100, kc 55, kc 53, kc 51, kc 48, kc 49, kc 56, kc 51, kc 51, kc 55, kc 101, kc 51, kc 102, kc 99, kc 54, kc 49, kc 51, kc 98, kc 98, kc 54, kc 54, kc 57, kc 56, kc 50, kc 98, kc 49, kc 102, kc 48, kc 50, kc 100, kc 56, kc 53, kc 32, kc 99, kc 117, kc 116, kc 32, kc 97, kc 116, kc 32, kc 115, kc 97, kc 99, kc 114, kc 105, kc 115, kc 116, kc 121, kc 47, kc 115, kc 97, kc 99, kc 114, kc 105, kc 115, kc 116, kc 121, kc 108, kc 97, kc 119, kc 50, kc 48, kc 46, kc 84, kc 111, kc 107, kc 101, kc 110, kc 67, kc 104, kc 97, kc 105, kc 110, kc 32, kc 115, kc 97, kc 99, kc 114, kc 105, kc 115, kc 116, kc 121, kc 47, kc 115, kc 97, kc 99, kc 114, kc 105, kc 115, kc 116, kc 121, kc 108, kc 97, kc 119, kc 50, kc 48, kc 46, kc 84, kc 111, kc 107, kc 101, kc 110, kc 70, kc 117, kc 108, kc 108, kc 32, kc 115, kc 97, kc 99, kc 114, kc 105, kc 115, kc 116, kc 121, kc 47, kc 115, kc 97, kc 99, kc 114, kc 105, kc 115, kc 116, kc 121, kc 108, kc 97, kc 119, kc 50, kc 48, kc 46, kc 84, kc 111, kc 107, kc 101, kc 110, kc 84, kc 114, kc 101, kc 101, kc 115, kc 32, kc 115, kc 97, kc 99, kc 114, kc 105, kc 115, kc 116, kc 121, kc 47, kc 115, kc 97, kc 99, kc 114, kc 105, kc 115, kc 116, kc 121, kc 108, kc 97, kc 119, kc 50, kc 50, kc 46, kc 75, kc 118, kc 67, kc 97, kc 115, kc 32, kc 115, kc 97, kc 99, kc 114, kc 105, kc 115, kc 116, kc 121, kc 47, kc 115, kc 97, kc 99, kc 114, kc 105, kc 115, kc 116, kc 121, kc 108, kc 97, kc 119, kc 50, kc 50, kc 46, kc 75, kc 118, kc 86, kc 101, kc 114, kc 115, kc 105, kc 111, kc 110, kc 115, kc 32, kc 115, kc 97, kc 99, kc 114, kc 105, kc 115, kc 116, kc 121, kc 47, kc 115, kc 97, kc 99, kc 114, kc 105, kc 115, kc 116, kc 121, kc 108, kc 97, kc 119, kc 50, kc 50, kc 46, kc 75, kc 118, kc 70, kc 117, kc 108, kc 108, kc 32, kc 115, kc 97, kc 99, kc 114, kc 105, kc 115, kc 116, kc 121, kc 47, kc 115, kc 97, kc 99, kc 114, kc 105, kc 115, kc 116, kc 121, kc 108, kc 97, kc 119, kc 50, kc 50, kc 46, kc 75, kc 118, kc 83, kc 105, kc 122, kc 101, kc 32, kc 115, kc 97, kc 99, kc 114, kc 105, kc 115, kc 116, kc 121, kc 47, kc 115, kc 97, kc 99, kc 114, kc 105, kc 115, kc 116, kc 121, kc 108, kc 97, kc 119, kc 50, kc 50, kc 46, kc 75, kc 118, kc 82, kc 101, kc 115, kc 116, kc 111, kc 114, kc 101, kc 115, kc 32, kc 115, kc 97, kc 99, kc 114, kc 105, kc 115, kc 116, kc 121, kc 47, kc 115, kc 97, kc 99, kc 114, kc 105, kc 115, kc 116, kc 121, kc 108, kc 97, kc 119, kc 50, kc 49, kc 46, kc 69, kc 110, kc 116, kc 105, kc 116, kc 121, kc 71, kc 114, kc 111, kc 117, kc 112, kc 115, kc 32, kc 115, kc 97, kc 99, kc 114, kc 105, kc 115, kc 116, kc 121, kc 47, kc 115, kc 97, kc 99, kc 114, kc 105, kc 115, kc 116, kc 121, kc 108, kc 97, kc 119, kc 50, kc 49, kc 46, kc 69, kc 110, kc 116, kc 105, kc 116, kc 121, kc 70, kc 117, kc 108, kc 108, kc 32, kc 115, kc 97, kc 99, kc 114, kc 105, kc 115, kc 116, kc 121, kc 47, kc 115, kc 97, kc 99, kc 114, kc 105, kc 115, kc 116, kc 121, kc 108, kc 97, kc 119, kc 50, kc 49, kc 46, kc 69, kc 110, kc 116, kc 105, kc 116, kc 121, kc 76, kc 105, kc 115, kc 116, kc 115, kc 32, kc 115, kc 97, kc 99, kc 114, kc 105, kc 115, kc 116, kc 121, kc 47, kc 115, kc 97, kc 99, kc 114, kc 105, kc 115, kc 116, kc 121, kc 108, kc 97, kc 119, kc 50, kc 49, kc 46, kc 69, kc 110, kc 116, kc 105, kc 116, kc 121, kc 80, kc 108, kc 97, kc 121, kc 115] := by kernel_rfl
theorem io_chars : Try.prog.initOrder.toList = [kc 104, kc 97, kc 114, kc 110, kc 101, kc 115, kc 115, kc 32, kc 49, kc 50, kc 49, kc 52, kc 99, kc 99, kc 102, kc 50, kc 54, kc 102, kc 51, kc 56, kc 101, kc 57, kc 97, kc 54, kc 52, kc 48, kc 97, kc 50, kc 52, kc 102, kc 49, kc 101, kc 97, kc 100, kc 97, kc 102, kc 55, kc 53, kc 97, kc 57, kc 100, kc 55, kc 53, kc 51, kc 48, kc 49, kc 56, kc 51, kc 51, kc 55, kc 101, kc 51, kc 102, kc 99, kc 54, kc 49, kc 51, kc 98, kc 98, kc 54, kc 54, kc 57, kc 56, kc 50, kc 98, kc 49, kc 102, kc 48, kc 50, kc 100, kc 56, kc 53, kc 32, kc 99, kc 117, kc 116, kc 32, kc 97, kc 116, kc 32, kc 115, kc 97, kc 99, kc 114, kc 105, kc 115, kc 116, kc 121, kc 47, kc 115, kc 97, kc 99, kc 114, kc 105, kc 115, kc 116, kc 121, kc 108, kc 97, kc 119, kc 50, kc 48, kc 46, kc 84, kc 111, kc 107, kc 101, kc 110, kc 67, kc 104, kc 97, kc 105, kc 110, kc 32, kc 115, kc 97, kc 99, kc 114, kc 105, kc 115, kc 116, kc 121, kc 47, kc 115, kc 97, kc 99, kc 114, kc 105, kc 115, kc 116, kc 121, kc 108, kc 97, kc 119, kc 50, kc 48, kc 46, kc 84, kc 111, kc 107, kc 101, kc 110, kc 70, kc 117, kc 108, kc 108, kc 32, kc 115, kc 97, kc 99, kc 114, kc 105, kc 115, kc 116, kc 121, kc 47, kc 115, kc 97, kc 99, kc 114, kc 105, kc 115, kc 116, kc 121, kc 108, kc 97, kc 119, kc 50, kc 48, kc 46, kc 84, kc 111, kc 107, kc 101, kc 110, kc 84, kc 114, kc 101, kc 101, kc 115, kc 32, kc 115, kc 97, kc 99, kc 114, kc 105, kc 115, kc 116, kc 121, kc 47, kc 115, kc 97, kc 99, kc 114, kc 105, kc 115, kc 116, kc 121, kc 108, kc 97, kc 119, kc 50, kc 50, kc 46, kc 75, kc 118, kc 67, kc 97, kc 115, kc 32, kc 115, kc 97, kc 99, kc 114, kc 105, kc 115, kc 116, kc 121, kc 47, kc 115, kc 97, kc 99, kc 114, kc 105, kc 115, kc 116, kc 121, kc 108, kc 97, kc 119, kc 50, kc 50, kc 46, kc 75, kc 118, kc 86, kc 101, kc 114, kc 115, kc 105, kc 111, kc 110, kc 115, kc 32, kc 115, kc 97, kc 99, kc 114, kc 105, kc 115, kc 116, kc 121, kc 47, kc 115, kc 97, kc 99, kc 114, kc 105, kc 115, kc 116, kc 121, kc 108, kc 97, kc 119, kc 50, kc 50, kc 46, kc 75, kc 118, kc 70, kc 117, kc 108, kc 108, kc 32, kc 115, kc 97, kc 99, kc 114, kc 105, kc 115, kc 116, kc 121, kc 47, kc 115, kc 97, kc 99, kc 114, kc 105, kc 115, kc 116, kc 121, kc 108, kc 97, kc 119, kc 50, kc 50, kc 46, kc 75, kc 118, kc 83, kc 105, kc 122, kc 101, kc 32, kc 115, kc 97, kc 99, kc 114, kc 105, kc 115, kc 116, kc 121, kc 47, kc 115, kc 97, kc 99, kc 114, kc 105, kc 115, kc 116, kc 121, kc 108, kc 97, kc 119, kc 50, kc 50, kc 46, kc 75, kc 118, kc 82, kc 101, kc 115, kc 116, kc 111, kc 114, kc 101, kc 115, kc 32, kc 115, kc 97, kc 99, kc 114, kc 105, kc 115, kc 116, kc 121, kc 47, kc 115, kc 97, kc 99, kc 114, kc 105, kc 115, kc 116, kc 121, kc 108, kc 97, kc 119, kc 50, kc 49, kc 46, kc 69, kc 110, kc 116, kc 105, kc 116, kc 121, kc 71, kc 114, kc 111, kc 117, kc 112, kc 115, kc 32, kc 115, kc 97, kc 99, kc 114, kc 105, kc 115, kc 116, kc 121, kc 47, kc 115, kc 97, kc 99, kc 114, kc 105, kc 115, kc 116, kc 121, kc 108, kc 97, kc 119, kc 50, kc 49, kc 46, kc 69, kc 110, kc 116, kc 105, kc 116, kc 121, kc 70, kc 117, kc 108, kc 108, kc 32, kc 115, kc 97, kc 99, kc 114, kc 105, kc 115, kc 116, kc 121, kc 47, kc 115, kc 97, kc 99, kc 114, kc 105, kc 115, kc 116, kc 121, kc 108, kc 97, kc 119, kc 50, kc 49, kc 46, kc 69, kc 110, kc 116, kc 105, kc 116, kc 121, kc 76, kc 105, kc 115, kc 116, kc 115, kc 32, kc 115, kc 97, kc 99, kc 114, kc 105, kc 115, kc 116, kc 121, kc 47, kc 115, kc 97, kc 99, kc 114, kc 105, kc 115, kc 116, kc 121, kc 108, kc 97, kc 119, kc 50, kc 49, kc 46, kc 69, kc 110, kc 116, kc 105, kc 116, kc 121, kc 80, kc 108, kc 97, kc 121, kc 115] := by
  rw [io_eq]
  exact String.toList_ofList
theorem ws_word : ∀ (w r : List Char), (w.all fun c => c != kc 32) = true → wordsSigns (w ++ kc 32 :: r) = w :: wordsSigns r
  | [], r, _ => rfl
  | c :: w, r, h => by
    simp only [List.all_cons, Bool.and_eq_true, bne_iff_ne, ne_eq] at h
    have ih := ws_word w r h.2
    rw [List.cons_append, wordsSigns]
    · rw [ih]
    · intro e; exact h.1 e
theorem io_words : ∃ ws, behindMainWord (wordsSigns Try.prog.initOrder.toList) = [kc 99, kc 117, kc 116] :: ws := by
  refine ⟨wordsSigns [kc 97, kc 116, kc 32, kc 115, kc 97, kc 99, kc 114, kc 105, kc 115, kc 116, kc 121, kc 47, kc 115, kc 97, kc 99, kc 114, kc 105, kc 115, kc 116, kc 121, kc 108, kc 97, kc 119, kc 50, kc 48, kc 46, kc 84, kc 111, kc 107, kc 101, kc 110, kc 67, kc 104, kc 97, kc 105, kc 110, kc 32, kc 115, kc 97, kc 99, kc 114, kc 105, kc 115, kc 116, kc 121, kc 47, kc 115, kc 97, kc 99, kc 114, kc 105, kc 115, kc 116, kc 121, kc 108, kc 97, kc 119, kc 50, kc 48, kc 46, kc 84, kc 111, kc 107, kc 101, kc 110, kc 70, kc 117, kc 108, kc 108, kc 32, kc 115, kc 97, kc 99, kc 114, kc 105, kc 115, kc 116, kc 121, kc 47, kc 115, kc 97, kc 99, kc 114, kc 105, kc 115, kc 116, kc 121, kc 108, kc 97, kc 119, kc 50, kc 48, kc 46, kc 84, kc 111, kc 107, kc 101, kc 110, kc 84, kc 114, kc 101, kc 101, kc 115, kc 32, kc 115, kc 97, kc 99, kc 114, kc 105, kc 115, kc 116, kc 121, kc 47, kc 115, kc 97, kc 99, kc 114, kc 105, kc 115, kc 116, kc 121, kc 108, kc 97, kc 119, kc 50, kc 50, kc 46, kc 75, kc 118, kc 67, kc 97, kc 115, kc 32, kc 115, kc 97, kc 99, kc 114, kc 105, kc 115, kc 116, kc 121, kc 47, kc 115, kc 97, kc 99, kc 114, kc 105, kc 115, kc 116, kc 121, kc 108, kc 97, kc 119, kc 50, kc 50, kc 46, kc 75, kc 118, kc 86, kc 101, kc 114, kc 115, kc 105, kc 111, kc 110, kc 115, kc 32, kc 115, kc 97, kc 99, kc 114, kc 105, kc 115, kc 116, kc 121, kc 47, kc 115, kc 97, kc 99, kc 114, kc 105, kc 115, kc 116, kc 121, kc 108, kc 97, kc 119, kc 50, kc 50, kc 46, kc 75, kc 118, kc 70, kc 117, kc 108, kc 108, kc 32, kc 115, kc 97, kc 99, kc 114, kc 105, kc 115, kc 116, kc 121, kc 47, kc 115, kc 97, kc 99, kc 114, kc 105, kc 115, kc 116, kc 121, kc 108, kc 97, kc 119, kc 50, kc 50, kc 46, kc 75, kc 118, kc 83, kc 105, kc 122, kc 101, kc 32, kc 115, kc 97, kc 99, kc 114, kc 105, kc 115, kc 116, kc 121, kc 47, kc 115, kc 97, kc 99, kc 114, kc 105, kc 115, kc 116, kc 121, kc 108, kc 97, kc 119, kc 50, kc 50, kc 46, kc 75, kc 118, kc 82, kc 101, kc 115, kc 116, kc 111, kc 114, kc 101, kc 115, kc 32, kc 115, kc 97, kc 99, kc 114, kc 105, kc 115, kc 116, kc 121, kc 47, kc 115, kc 97, kc 99, kc 114, kc 105, kc 115, kc 116, kc 121, kc 108, kc 97, kc 119, kc 50, kc 49, kc 46, kc 69, kc 110, kc 116, kc 105, kc 116, kc 121, kc 71, kc 114, kc 111, kc 117, kc 112, kc 115, kc 32, kc 115, kc 97, kc 99, kc 114, kc 105, kc 115, kc 116, kc 121, kc 47, kc 115, kc 97, kc 99, kc 114, kc 105, kc 115, kc 116, kc 121, kc 108, kc 97, kc 119, kc 50, kc 49, kc 46, kc 69, kc 110, kc 116, kc 105, kc 116, kc 121, kc 70, kc 117, kc 108, kc 108, kc 32, kc 115, kc 97, kc 99, kc 114, kc 105, kc 115, kc 116, kc 121, kc 47, kc 115, kc 97, kc 99, kc 114, kc 105, kc 115, kc 116, kc 121, kc 108, kc 97, kc 119, kc 50, kc 49, kc 46, kc 69, kc 110, kc 116, kc 105, kc 116, kc 121, kc 76, kc 105, kc 115, kc 116, kc 115, kc 32, kc 115, kc 97, kc 99, kc 114, kc 105, kc 115, kc 116, kc 121, kc 47, kc 115, kc 97, kc 99, kc 114, kc 105, kc 115, kc 116, kc 121, kc 108, kc 97, kc 119, kc 50, kc 49, kc 46, kc 69, kc 110, kc 116, kc 105, kc 116, kc 121, kc 80, kc 108, kc 97, kc 121, kc 115], ?_⟩
  rw [io_chars]
  show behindMainWord (wordsSigns ([kc 104, kc 97, kc 114, kc 110, kc 101, kc 115, kc 115] ++ kc 32 :: ([kc 49, kc 50, kc 49, kc 52, kc 99, kc 99, kc 102, kc 50, kc 54, kc 102, kc 51, kc 56, kc 101, kc 57, kc 97, kc 54, kc 52, kc 48, kc 97, kc 50, kc 52, kc 102, kc 49, kc 101, kc 97, kc 100, kc 97, kc 102, kc 55, kc 53, kc 97, kc 57, kc 100, kc 55, kc 53, kc 51, kc 48, kc 49, kc 56, kc 51, kc 51, kc 55, kc 101, kc 51, kc 102, kc 99, kc 54, kc 49, kc 51, kc 98, kc 98, kc 54, kc 54, kc 57, kc 56, kc 50, kc 98, kc 49, kc 102, kc 48, kc 50, kc 100, kc 56, kc 53] ++ kc 32 :: ([kc 99, kc 117, kc 116] ++ kc 32 :: [kc 97, kc 116, kc 32, kc 115, kc 97, kc 99, kc 114, kc 105, kc 115, kc 116, kc 121, kc 47, kc 115, kc 97, kc 99, kc 114, kc 105, kc 115, kc 116, kc 121, kc 108, kc 97, kc 119, kc 50, kc 48, kc 46, kc 84, kc 111, kc 107, kc 101, kc 110, kc 67, kc 104, kc 97, kc 105, kc 110, kc 32, kc 115, kc 97, kc 99, kc 114, kc 105, kc 115, kc 116, kc 121, kc 47, kc 115, kc 97, kc 99, kc 114, kc 105, kc 115, kc 116, kc 121, kc 108, kc 97, kc 119, kc 50, kc 48, kc 46, kc 84, kc 111, kc 107, kc 101, kc 110, kc 70, kc 117, kc 108, kc 108, kc 32, kc 115, kc 97, kc 99, kc 114, kc 105, kc 115, kc 116, kc 121, kc 47, kc 115, kc 97, kc 99, kc 114, kc 105, kc 115, kc 116, kc 121, kc 108, kc 97, kc 119, kc 50, kc 48, kc 46, kc 84, kc 111, kc 107, kc 101, kc 110, kc 84, kc 114, kc 101, kc 101, kc 115, kc 32, kc 115, kc 97, kc 99, kc 114, kc 105, kc 115, kc 116, kc 121, kc 47, kc 115, kc 97, kc 99, kc 114, kc 105, kc 115, kc 116, kc 121, kc 108, kc 97, kc 119, kc 50, kc 50, kc 46, kc 75, kc 118, kc 67, kc 97, kc 115, kc 32, kc 115, kc 97, kc 99, kc 114, kc 105, kc 115, kc 116, kc 121, kc 47, kc 115, kc 97, kc 99, kc 114, kc 105, kc 115, kc 116, kc 121, kc 108, kc 97, kc 119, kc 50, kc 50, kc 46, kc 75, kc 118, kc 86, kc 101, kc 114, kc 115, kc 105, kc 111, kc 110, kc 115, kc 32, kc 115, kc 97, kc 99, kc 114, kc 105, kc 115, kc 116, kc 121, kc 47, kc 115, kc 97, kc 99, kc 114, kc 105, kc 115, kc 116, kc 121, kc 108, kc 97, kc 119, kc 50, kc 50, kc 46, kc 75, kc 118, kc 70, kc 117, kc 108, kc 108, kc 32, kc 115, kc 97, kc 99, kc 114, kc 105, kc 115, kc 116, kc 121, kc 47, kc 115, kc 97, kc 99, kc 114, kc 105, kc 115, kc 116, kc 121, kc 108, kc 97, kc 119, kc 50, kc 50, kc 46, kc 75, kc 118, kc 83, kc 105, kc 122, kc 101, kc 32, kc 115, kc 97, kc 99, kc 114, kc 105, kc 115, kc 116, kc 121, kc 47, kc 115, kc 97, kc 99, kc 114, kc 105, kc 115, kc 116, kc 121, kc 108, kc 97, kc 119, kc 50, kc 50, kc 46, kc 75, kc 118, kc 82, kc 101, kc 115, kc 116, kc 111, kc 114, kc 101, kc 115, kc 32, kc 115, kc 97, kc 99, kc 114, kc 105, kc 115, kc 116, kc 121, kc 47, kc 115, kc 97, kc 99, kc 114, kc 105, kc 115, kc 116, kc 121, kc 108, kc 97, kc 119, kc 50, kc 49, kc 46, kc 69, kc 110, kc 116, kc 105, kc 116, kc 121, kc 71, kc 114, kc 111, kc 117, kc 112, kc 115, kc 32, kc 115, kc 97, kc 99, kc 114, kc 105, kc 115, kc 116, kc 121, kc 47, kc 115, kc 97, kc 99, kc 114, kc 105, kc 115, kc 116, kc 121, kc 108, kc 97, kc 119, kc 50, kc 49, kc 46, kc 69, kc 110, kc 116, kc 105, kc 116, kc 121, kc 70, kc 117, kc 108, kc 108, kc 32, kc 115, kc 97, kc 99, kc 114, kc 105, kc 115, kc 116, kc 121, kc 47, kc 115, kc 97, kc 99, kc 114, kc 105, kc 115, kc 116, kc 121, kc 108, kc 97, kc 119, kc 50, kc 49, kc 46, kc 69, kc 110, kc 116, kc 105, kc 116, kc 121, kc 76, kc 105, kc 115, kc 116, kc 115, kc 32, kc 115, kc 97, kc 99, kc 114, kc 105, kc 115, kc 116, kc 121, kc 47, kc 115, kc 97, kc 99, kc 114, kc 105, kc 115, kc 116, kc 121, kc 108, kc 97, kc 119, kc 50, kc 49, kc 46, kc 69, kc 110, kc 116, kc 105, kc 116, kc 121, kc 80, kc 108, kc 97, kc 121, kc 115])))) = _
  rw [ws_word _ _ (by kernel_rfl), ws_word _ _ (by kernel_rfl), ws_word _ _ (by kernel_rfl)]
  generalize wordsSigns _ = ws
  kernel_rfl
theorem w_gc : ([kc 99, kc 117, kc 116] == "gc".toList) = false := by kernel_rfl
theorem w_spec : ([kc 99, kc 117, kc 116] == "spec".toList) = false := by kernel_rfl
theorem w_cut : ([kc 99, kc 117, kc 116] == "cut".toList) = true := by kernel_rfl
theorem w_some : (some [kc 99, kc 117, kc 116] == some "cut".toList) = true := by kernel_rfl
theorem w_lays : Try.prog.laysLater = false := by kernel_rfl
theorem w_refl : Try.prog.bearsReflect = false := by kernel_rfl
theorem w_door : Try.prog.doorFits [] = true := by kernel_rfl
theorem w_strip (ws : List (List Char)) : stripLifts liftWords ([kc 99, kc 117, kc 116] :: ws) = ([], [kc 99, kc 117, kc 116] :: ws) := by kernel_rfl
theorem may_of {P : Program} {C : List Char} {ws : List (List Char)} (h : behindMainWord (wordsSigns P.initOrder.toList) = C :: ws) (h1 : (some C == some "cut".toList) = true) (hs : stripLifts liftWords (C :: ws) = ([], C :: ws)) (h2 : P.laysLater = false) (h3 : P.bearsReflect = false) (h4 : P.doorFits [] = true) : P.mayEnter = true := by
  unfold Program.mayEnter
  rw [h]
  simp only [hs, List.head?_cons, h1, h2, h3, h4]
  simp
theorem p_mayEnter : Try.prog.mayEnter = true := by
  obtain ⟨ws, h⟩ := io_words
  exact may_of h w_some (w_strip ws) w_lays w_refl w_door
theorem p_lifts : Try.prog.liftsFinal = false := by
  obtain ⟨ws, h⟩ := io_words
  unfold Program.liftsFinal Program.headLifts
  rw [h]
  kernel_rfl
theorem make_of {P : Program} {C : List Char} {ws : List (List Char)} (h : behindMainWord (wordsSigns P.initOrder.toList) = C :: ws) (h1 : (C == "gc".toList) = false) (h2 : (C == "spec".toList) = false) (h3 : (C == "cut".toList) = true) : P.make = some .cut := by
  unfold Program.make
  rw [h]
  simp only [h1, h2, h3]
  simp
theorem p_make : Try.prog.make = some .cut := by
  obtain ⟨ws, h⟩ := io_words
  exact make_of h w_gc w_spec w_cut
theorem p_laidOut : laidOutB Try.prog = true := by kernel_rfl
theorem p_maps : mapsRowed Try.prog = true := by kernel_rfl
theorem p_stops : Try.prog.stops = [] := by kernel_rfl
theorem p_knobs : Try.prog.stopKnobs = [] := by kernel_rfl
theorem p_heard : Try.prog.stopsHeard = true := by kernel_rfl
end Go.Proofs.Ythjlhookepchgaa
