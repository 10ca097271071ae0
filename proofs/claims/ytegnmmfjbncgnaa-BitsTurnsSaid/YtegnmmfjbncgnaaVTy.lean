/- A part of the proof of given statements: a verified condition generator for the model, and contracts of the program's functions. No condition. -/
import Derived.Test.YtegnmmfjbncgnaaVcTy
import Derived.Test.YtegnmmfjbncgnaaProg
set_option maxRecDepth 100000
namespace Go.Proofs.Ytegnmmfjbncgnaa
open Go Go.Vc
/-- the program's types -/
def tt (F : Fs) : TT := [
  (2, ⟨.int .i64, 1, 8, .one (.i 0), some .kI⟩),
  (3, ⟨.int .i64, 1, 8, .one (.i 0), some .kI⟩),
  (4, ⟨.bool, 1, 1, .one (.b false), none⟩),
  (5, ⟨.int .u8, 1, 1, .one (.w8 (F.ofI8 0)), some .kB⟩),
  (9, ⟨.str, 1, 16, .one (.s []), some .kS⟩),
  (22, ⟨.int .u32, 1, 4, .one (.w32 (F.ofI32 0)), some .kW⟩),
  (26, ⟨.slice 5, 1, 24, .one .nl, none⟩),
  (27, ⟨.arr 4 5, 4, 4, .arr 4 (.bt (F.repB 4)), none⟩),
  (33, ⟨.int .u64, 1, 8, .one (.w64 (F.ofI64 0)), some .kQ⟩),
  (34, ⟨.int .i64, 1, 8, .one (.i 0), some .kI⟩),
  (47, ⟨.slice 33, 1, 24, .one .nl, none⟩),
  (48, ⟨.int .u64, 1, 8, .one (.w64 (F.ofI64 0)), some .kQ⟩),
  (50, ⟨.arr 32 5, 32, 32, .arr 32 (.bt (F.repB 32)), none⟩),
  (51, ⟨.arr 32 5, 32, 32, .arr 32 (.bt (F.repB 32)), none⟩),
  (52, ⟨.arr 12 5, 12, 12, .arr 12 (.bt (F.repB 12)), none⟩),
  (53, ⟨.arr 12 5, 12, 12, .arr 12 (.bt (F.repB 12)), none⟩),
  (56, ⟨.arr 64 5, 64, 64, .arr 64 (.bt (F.repB 64)), none⟩),
  (67, ⟨.arr 16 22, 16, 64, .arr 16 (.wd (F.repW 16)), none⟩),
  (68, ⟨.arr 16 22, 16, 64, .arr 16 (.wd (F.repW 16)), none⟩),
  (70, ⟨.arr 4 3, 4, 32, .arr 4 (.is (F.repI 4)), none⟩),
  (72, ⟨.ptr 68, 1, 8, .one .pn, none⟩),
  (84, ⟨.ptr 5, 1, 8, .one .pn, none⟩)]
theorem ty2 : TIok Try.prog 2 ⟨.int .i64, 1, 8, .one (.i 0), some .kI⟩ := ti_i64 (by kernel_rfl) (by kernel_rfl)
theorem ty3 : TIok Try.prog 3 ⟨.int .i64, 1, 8, .one (.i 0), some .kI⟩ := ti_i64 (by kernel_rfl) (by kernel_rfl)
theorem ty4 : TIok Try.prog 4 ⟨.bool, 1, 1, .one (.b false), none⟩ := ti_bool (by kernel_rfl) (by kernel_rfl)
theorem ty5 : TIok Try.prog 5 ⟨.int .u8, 1, 1, .one (.w8 (real.ofI8 0)), some .kB⟩ := ti_u8 (by kernel_rfl) (by kernel_rfl)
theorem ty9 : TIok Try.prog 9 ⟨.str, 1, 16, .one (.s []), some .kS⟩ := ti_str (by kernel_rfl) (by kernel_rfl)
theorem ty22 : TIok Try.prog 22 ⟨.int .u32, 1, 4, .one (.w32 (real.ofI32 0)), some .kW⟩ := ti_u32 (by kernel_rfl) (by kernel_rfl)
theorem ty26 : TIok Try.prog 26 ⟨.slice 5, 1, 24, .one .nl, none⟩ := ti_slice (by kernel_rfl) (by kernel_rfl)
theorem ty27 : TIok Try.prog 27 ⟨.arr 4 5, 4, 4, .arr 4 (.bt (real.repB 4)), none⟩ := ti_arr .kB (by kernel_rfl) (by kernel_rfl)
theorem ty33 : TIok Try.prog 33 ⟨.int .u64, 1, 8, .one (.w64 (real.ofI64 0)), some .kQ⟩ := ti_u64 (by kernel_rfl) (by kernel_rfl)
theorem ty34 : TIok Try.prog 34 ⟨.int .i64, 1, 8, .one (.i 0), some .kI⟩ := ti_i64 (by kernel_rfl) (by kernel_rfl)
theorem ty47 : TIok Try.prog 47 ⟨.slice 33, 1, 24, .one .nl, none⟩ := ti_slice (by kernel_rfl) (by kernel_rfl)
theorem ty48 : TIok Try.prog 48 ⟨.int .u64, 1, 8, .one (.w64 (real.ofI64 0)), some .kQ⟩ := ti_u64 (by kernel_rfl) (by kernel_rfl)
theorem ty50 : TIok Try.prog 50 ⟨.arr 32 5, 32, 32, .arr 32 (.bt (real.repB 32)), none⟩ := ti_arr .kB (by kernel_rfl) (by kernel_rfl)
theorem ty51 : TIok Try.prog 51 ⟨.arr 32 5, 32, 32, .arr 32 (.bt (real.repB 32)), none⟩ := ti_arr .kB (by kernel_rfl) (by kernel_rfl)
theorem ty52 : TIok Try.prog 52 ⟨.arr 12 5, 12, 12, .arr 12 (.bt (real.repB 12)), none⟩ := ti_arr .kB (by kernel_rfl) (by kernel_rfl)
theorem ty53 : TIok Try.prog 53 ⟨.arr 12 5, 12, 12, .arr 12 (.bt (real.repB 12)), none⟩ := ti_arr .kB (by kernel_rfl) (by kernel_rfl)
theorem ty56 : TIok Try.prog 56 ⟨.arr 64 5, 64, 64, .arr 64 (.bt (real.repB 64)), none⟩ := ti_arr .kB (by kernel_rfl) (by kernel_rfl)
theorem ty67 : TIok Try.prog 67 ⟨.arr 16 22, 16, 64, .arr 16 (.wd (real.repW 16)), none⟩ := ti_arr .kW (by kernel_rfl) (by kernel_rfl)
theorem ty68 : TIok Try.prog 68 ⟨.arr 16 22, 16, 64, .arr 16 (.wd (real.repW 16)), none⟩ := ti_arr .kW (by kernel_rfl) (by kernel_rfl)
theorem ty70 : TIok Try.prog 70 ⟨.arr 4 3, 4, 32, .arr 4 (.is (real.repI 4)), none⟩ := ti_arr .kI (by kernel_rfl) (by kernel_rfl)
theorem ty72 : TIok Try.prog 72 ⟨.ptr 68, 1, 8, .one .pn, none⟩ := ti_ptr (by kernel_rfl) (by kernel_rfl)
theorem ty84 : TIok Try.prog 84 ⟨.ptr 5, 1, 8, .one .pn, none⟩ := ti_ptr (by kernel_rfl) (by kernel_rfl)
theorem tt_ok : TTok Try.prog (tt real) :=
  ttok_cons ty2 (ttok_cons ty3 (ttok_cons ty4 (ttok_cons ty5 (ttok_cons ty9 (ttok_cons ty22 (ttok_cons ty26 (ttok_cons ty27 (ttok_cons ty33 (ttok_cons ty34 (ttok_cons ty47 (ttok_cons ty48 (ttok_cons ty50 (ttok_cons ty51 (ttok_cons ty52 (ttok_cons ty53 (ttok_cons ty56 (ttok_cons ty67 (ttok_cons ty68 (ttok_cons ty70 (ttok_cons ty72 (ttok_cons ty84 ttok_nil)))))))))))))))))))))
end Go.Proofs.Ytegnmmfjbncgnaa
