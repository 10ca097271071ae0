/- A part of the proof of given statements: a verified condition generator for the model, and contracts of the program's functions. No condition. -/
import Derived.Test.YtegnmmfjbncgnaaVcCtr3
set_option linter.unusedVariables false
set_option linter.unusedSimpArgs false
namespace Go.Vc
open Go Go.RowKit
section
variable {P : Program} {T : Nat}
/-- what the program's table has of a type: size, bytes, zero value -/
def facts (P : Program) (T : Nat) : Option (Nat × Nat × Option Value) := (P.info? T).map fun i => (i.size, i.bytes, i.zero)
theorem facts_info {s b : Nat} {z : Value} (h : facts P T = some (s, b, some z)) : ∃ i, P.info? T = some i ∧ i.size = s ∧ i.bytes = b ∧ i.zero = some z := by
  unfold facts at h
  cases hi : P.info? T with
  | none => rw [hi] at h; cases h
  | some i => rw [hi] at h; simp only [Option.map_some, Option.some.injEq, Prod.mk.injEq] at h; exact ⟨i, rfl, h⟩
theorem TIok.one {d : TypeDesc} {k : TK} {b : Nat} {z : Value} {a : AV} {ek : Option EK} (hu : P.underlying T = some d) (hd : aggD d = false) (hk : TKok P T k) (hf : facts P T = some (1, b, some z)) (hz : z.cells = #[z]) (ho : z.oneCell' = true)
    (ha : ∀ m w, CR m w a [z]) (he : ∀ q, ek = some q → ∀ m w n, RC m w (q.rep real n) (List.replicate n z)) : TIok P T ⟨k, 1, b, .one a, ek⟩ := by
  obtain ⟨i, h1, h2, h3, h4⟩ := facts_info hf
  refine ⟨hk, by rw [hu]; simp [hd, Lay.isAgg], rfl, i, z, h1, h2, h3, h4, by rw [hz]; rfl, fun m w => ?_, fun q hq => ⟨hz, ho, he q hq⟩⟩
  rw [hz]
  simp only [Lay.segs, SegsR]
  refine ⟨[z], [], rfl, rfl, ?_, rfl⟩
  simp only [RC, LR]
  exact ⟨[z], [], rfl, ha m w, rfl⟩
theorem ti_i64 (hu : P.underlying T = some (.int .i64)) (hf : facts P T = some (1, 8, some (.int .i64 0))) : TIok P T ⟨.int .i64, 1, 8, .one (.i 0), some .kI⟩ :=
  .one hu rfl hu hf rfl rfl (fun m w => by simp [CR]) (fun q hq m w n => by cases hq; simp [EK.rep, RC, real, List.map_replicate])
theorem ti_u8 (hu : P.underlying T = some (.int .u8)) (hf : facts P T = some (1, 1, some (.int .u8 0))) : TIok P T ⟨.int .u8, 1, 1, .one (.w8 (real.ofI8 0)), some .kB⟩ :=
  .one hu rfl hu hf rfl rfl (fun m w => by simp [CR, real]) (fun q hq m w n => by cases hq; simp [EK.rep, RC, real, List.map_replicate])
theorem ti_u16 (hu : P.underlying T = some (.int .u16)) (hf : facts P T = some (1, 2, some (.int .u16 0))) : TIok P T ⟨.int .u16, 1, 2, .one (.w16 (real.ofI16 0)), some .kH⟩ :=
  .one hu rfl hu hf rfl rfl (fun m w => by simp [CR, real]) (fun q hq m w n => by cases hq; simp [EK.rep, RC, real, List.map_replicate])
theorem ti_u32 (hu : P.underlying T = some (.int .u32)) (hf : facts P T = some (1, 4, some (.int .u32 0))) : TIok P T ⟨.int .u32, 1, 4, .one (.w32 (real.ofI32 0)), some .kW⟩ :=
  .one hu rfl hu hf rfl rfl (fun m w => by simp [CR, real]) (fun q hq m w n => by cases hq; simp [EK.rep, RC, real, List.map_replicate])
theorem ti_u64 (hu : P.underlying T = some (.int .u64)) (hf : facts P T = some (1, 8, some (.int .u64 0))) : TIok P T ⟨.int .u64, 1, 8, .one (.w64 (real.ofI64 0)), some .kQ⟩ :=
  .one hu rfl hu hf rfl rfl (fun m w => by simp [CR, real]) (fun q hq m w n => by cases hq; simp [EK.rep, RC, real, List.map_replicate])
theorem ti_bool (hu : P.underlying T = some .bool) (hf : facts P T = some (1, 1, some (.bool false))) : TIok P T ⟨.bool, 1, 1, .one (.b false), none⟩ :=
  .one hu rfl hu hf rfl rfl (fun m w => by simp [CR]) (fun q hq => by cases hq)
theorem ti_str (hu : P.underlying T = some .string) (hf : facts P T = some (1, 16, some (.string ⟨#[]⟩))) : TIok P T ⟨.str, 1, 16, .one (.s []), some .kS⟩ :=
  .one hu rfl hu hf rfl rfl (fun m w => by simp [CR]) (fun q hq m w n => by cases hq; simp [EK.rep, RC, real, List.map_replicate])
theorem ti_slice {e : Nat} (hu : P.underlying T = some (.slice e)) (hf : facts P T = some (1, 24, some (.slice none 0 0))) : TIok P T ⟨.slice e, 1, 24, .one .nl, none⟩ :=
  .one hu rfl hu hf rfl rfl (fun m w => by simp [CR]) (fun q hq => by cases hq)
theorem ti_ptr {e : Nat} (hu : P.underlying T = some (.pointer e)) (hf : facts P T = some (1, 8, some (.pointer none))) : TIok P T ⟨.ptr e, 1, 8, .one .pn, none⟩ :=
  .one hu rfl hu hf rfl rfl (fun m w => by simp [CR]) (fun q hq => by cases hq)
/-- arrays of numbers, of texts -/
def EK.zero : EK → Value
  | .kB => .int .u8 0
  | .kH => .int .u16 0
  | .kW => .int .u32 0
  | .kQ => .int .u64 0
  | .kI => .int .i64 0
  | .kS => .string ⟨#[]⟩
theorem rep_RC (q : EK) (m : Hd) (w : World) (n : Nat) : RC m w (q.rep real n) (List.replicate n q.zero) := by
  cases q <;> simp [EK.rep, EK.zero, RC, real, List.map_replicate]
theorem ti_arr {n e b : Nat} (q : EK) (hu : P.underlying T = some (.array n e)) (hf : facts P T = some (n, b, some (.agg (List.replicate n q.zero).toArray))) : TIok P T ⟨.arr n e, n, b, .arr n (q.rep real n), none⟩ := by
  obtain ⟨i, h1, h2, h3, h4⟩ := facts_info hf
  have hz : (Value.agg (List.replicate n q.zero).toArray).cells.toList = List.replicate n q.zero := by simp [Value.cells]
  refine ⟨hu, by rw [hu]; rfl, rfl, i, _, h1, h2, h3, h4, by rw [← Array.length_toList, hz]; simp, fun m w => ?_, fun q hq => by cases hq⟩
  rw [hz]
  simp only [Lay.segs, SegsR]
  exact ⟨_, [], (List.append_nil _).symm, by simp, rep_RC q m w n, rfl⟩
theorem ttok_nil : TTok P [] := fun p hp => by simp at hp
theorem ttok_cons {ti : TI} {r : TT} (h : TIok P T ti) (hr : TTok P r) : TTok P ((T, ti) :: r) := fun p hp => by
  rcases List.mem_cons.1 hp with rfl | hp
  · exact h
  · exact hr p hp
theorem sp_nil : SpecsOK P [] := fun p hp => by simp at hp
theorem sp_cons {f : Nat} {s : Spec} {r : Specs} (hr : Ready P f) (h : SpecOK P f s) (hs : SpecsOK P r) : SpecsOK P ((f, s) :: r) := fun p hp => by
  rcases List.mem_cons.1 hp with rfl | hp
  · exact ⟨hr, h⟩
  · exact hs p hp
theorem ks_nil : KSpecsOK P [] := fun p hp => by simp at hp
theorem ks_cons {f : Nat} {s : KSpec} {r : List (Nat × KSpec)} (hr : Ready P f) (h : KSpecOK P f s) (hs : KSpecsOK P r) : KSpecsOK P ((f, s) :: r) := fun p hp => by
  rcases List.mem_cons.1 hp with rfl | hp
  · exact ⟨hr, h⟩
  · exact hs p hp
end
end Go.Vc
