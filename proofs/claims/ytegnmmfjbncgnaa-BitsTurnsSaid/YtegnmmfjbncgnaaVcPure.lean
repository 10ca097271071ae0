/- A part of the proof of given statements: a verified condition generator for the model, and contracts of the program's functions. No condition. -/
import Derived.Test.YtegnmmfjbncgnaaVcMem
set_option linter.unusedVariables false
set_option linter.unusedSimpArgs false
namespace Go.Vc
open Go Go.RowKit

theorem fdiv_nat (a b : Nat) : (a : Int).fdiv (b : Int) = ((a / b : Nat) : Int) := by
  rw [Int.fdiv_eq_ediv_of_nonneg _ (Int.natCast_nonneg b)]; rfl
theorem emod_nat (a b : Nat) : (a : Int) % (b : Int) = ((a % b : Nat) : Int) := rfl
theorem pow_nat (n : Nat) : (2 : Int) ^ n = ((2 ^ n : Nat) : Int) := by simp

theorem wrap_u8 (a : Int) : IntKind.wrap .u8 a = a % 256 := by simp [IntKind.wrap, IntKind.bits, IntKind.signed]
theorem lt_u8 (x : UInt8) : x.toNat < 256 := x.toNat_lt
theorem add_u8 (x y : UInt8) : IntKind.wrap .u8 (x.toNat + y.toNat) = ((x + y).toNat : Int) := by
  rw [wrap_u8, UInt8.toNat_add]; omega
theorem sub_u8 (x y : UInt8) : IntKind.wrap .u8 (x.toNat - y.toNat) = ((x - y).toNat : Int) := by
  have := lt_u8 x; have := lt_u8 y
  rw [wrap_u8, UInt8.toNat_sub]; omega
theorem mul_u8 (x y : UInt8) : IntKind.wrap .u8 (x.toNat * y.toNat) = ((x * y).toNat : Int) := by
  rw [wrap_u8, UInt8.toNat_mul, ← Int.natCast_mul]
  exact emod_nat _ _
theorem ofInt_u8 (x : UInt8) : BitVec.ofInt 8 (x.toNat : Int) = x.toBitVec := by
  rw [BitVec.ofInt_natCast]; simp
theorem wrapId_u8 (x : UInt8) : IntKind.wrap .u8 (x.toNat : Int) = (x.toNat : Int) := by
  have := lt_u8 x
  rw [wrap_u8]; omega
theorem and_u8 (x y : UInt8) : IntKind.wrap .u8 ((BitVec.ofInt (IntKind.bits .u8) (x.toNat : Int) &&& BitVec.ofInt (IntKind.bits .u8) (y.toNat : Int)).toNat : Int) = ((x &&& y).toNat : Int) := by
  have h : (BitVec.ofInt (IntKind.bits .u8) (x.toNat : Int) &&& BitVec.ofInt (IntKind.bits .u8) (y.toNat : Int)).toNat = (x &&& y).toNat := by
    show (BitVec.ofInt 8 _ &&& BitVec.ofInt 8 _).toNat = _
    rw [ofInt_u8, ofInt_u8]; rfl
  rw [h]; exact wrapId_u8 _
theorem or_u8 (x y : UInt8) : IntKind.wrap .u8 ((BitVec.ofInt (IntKind.bits .u8) (x.toNat : Int) ||| BitVec.ofInt (IntKind.bits .u8) (y.toNat : Int)).toNat : Int) = ((x ||| y).toNat : Int) := by
  have h : (BitVec.ofInt (IntKind.bits .u8) (x.toNat : Int) ||| BitVec.ofInt (IntKind.bits .u8) (y.toNat : Int)).toNat = (x ||| y).toNat := by
    show (BitVec.ofInt 8 _ ||| BitVec.ofInt 8 _).toNat = _
    rw [ofInt_u8, ofInt_u8]; rfl
  rw [h]; exact wrapId_u8 _
theorem xor_u8 (x y : UInt8) : IntKind.wrap .u8 ((BitVec.ofInt (IntKind.bits .u8) (x.toNat : Int) ^^^ BitVec.ofInt (IntKind.bits .u8) (y.toNat : Int)).toNat : Int) = ((x ^^^ y).toNat : Int) := by
  have h : (BitVec.ofInt (IntKind.bits .u8) (x.toNat : Int) ^^^ BitVec.ofInt (IntKind.bits .u8) (y.toNat : Int)).toNat = (x ^^^ y).toNat := by
    show (BitVec.ofInt 8 _ ^^^ BitVec.ofInt 8 _).toNat = _
    rw [ofInt_u8, ofInt_u8]; rfl
  rw [h]; exact wrapId_u8 _
theorem andNot_u8 (x y : UInt8) : IntKind.wrap .u8 ((BitVec.ofInt (IntKind.bits .u8) (x.toNat : Int) &&& ~~~BitVec.ofInt (IntKind.bits .u8) (y.toNat : Int)).toNat : Int) = ((x &&& ~~~y).toNat : Int) := by
  have h : (BitVec.ofInt (IntKind.bits .u8) (x.toNat : Int) &&& ~~~BitVec.ofInt (IntKind.bits .u8) (y.toNat : Int)).toNat = (x &&& ~~~y).toNat := by
    show (BitVec.ofInt 8 _ &&& ~~~BitVec.ofInt 8 _).toNat = _
    rw [ofInt_u8, ofInt_u8]; rfl
  rw [h]; exact wrapId_u8 _
theorem not_u8 (x : UInt8) : IntKind.wrap .u8 ((BitVec.ofInt (IntKind.bits .u8) (IntKind.max .u8) ^^^ BitVec.ofInt (IntKind.bits .u8) (x.toNat : Int)).toNat : Int) = ((~~~x).toNat : Int) := by
  have h : (BitVec.ofInt (IntKind.bits .u8) (IntKind.max .u8) ^^^ BitVec.ofInt (IntKind.bits .u8) (x.toNat : Int)).toNat = (~~~x).toNat := by
    have e : BitVec.ofInt (IntKind.bits .u8) (IntKind.max .u8) = BitVec.allOnes 8 := by rfl
    rw [e]
    show (BitVec.allOnes 8 ^^^ BitVec.ofInt 8 _).toNat = _
    rw [ofInt_u8, BitVec.allOnes_xor]; rfl
  rw [h]; exact wrapId_u8 _
theorem shl_u8 (x : UInt8) (s : Nat) : IntKind.wrap .u8 ((x.toNat : Int) * 2 ^ s) = ((UInt8.ofNat (x.toNat * 2 ^ s)).toNat : Int) := by
  rw [wrap_u8, pow_nat, ← Int.natCast_mul, UInt8.toNat_ofNat']
  exact emod_nat _ _
theorem shr_u8 (x : UInt8) (s : Nat) : (x.toNat : Int).fdiv (2 ^ s) = ((UInt8.ofNat (x.toNat / 2 ^ s)).toNat : Int) := by
  rw [pow_nat, fdiv_nat, UInt8.toNat_ofNat']
  have h1 := lt_u8 x
  have h2 : x.toNat / 2 ^ s ≤ x.toNat := Nat.div_le_self _ _
  rw [Nat.mod_eq_of_lt (by omega)]
theorem quo_u8 (x y : UInt8) : IntKind.wrap .u8 ((x.toNat : Int).tdiv y.toNat) = ((x / y).toNat : Int) := by
  rw [← Int.ofNat_tdiv, ← UInt8.toNat_div]; exact wrapId_u8 _
theorem rem_u8 (x y : UInt8) : (x.toNat : Int).tmod y.toNat = ((x % y).toNat : Int) := by
  rw [← Int.ofNat_tmod, ← UInt8.toNat_mod]
theorem eq_u8 (x y : UInt8) : ((x.toNat : Int) == (y.toNat : Int)) = (x == y) := by
  rw [Bool.eq_iff_iff]; simp [← UInt8.toNat_inj]; omega
theorem ofI_u8 (a : Int) : IntKind.wrap .u8 a = ((UInt8.ofNat (a % 2 ^ 8).toNat).toNat : Int) := by
  rw [wrap_u8, UInt8.toNat_ofNat']
  omega
theorem wrap_u16 (a : Int) : IntKind.wrap .u16 a = a % 65536 := by simp [IntKind.wrap, IntKind.bits, IntKind.signed]
theorem lt_u16 (x : UInt16) : x.toNat < 65536 := x.toNat_lt
theorem add_u16 (x y : UInt16) : IntKind.wrap .u16 (x.toNat + y.toNat) = ((x + y).toNat : Int) := by
  rw [wrap_u16, UInt16.toNat_add]; omega
theorem sub_u16 (x y : UInt16) : IntKind.wrap .u16 (x.toNat - y.toNat) = ((x - y).toNat : Int) := by
  have := lt_u16 x; have := lt_u16 y
  rw [wrap_u16, UInt16.toNat_sub]; omega
theorem mul_u16 (x y : UInt16) : IntKind.wrap .u16 (x.toNat * y.toNat) = ((x * y).toNat : Int) := by
  rw [wrap_u16, UInt16.toNat_mul, ← Int.natCast_mul]
  exact emod_nat _ _
theorem ofInt_u16 (x : UInt16) : BitVec.ofInt 16 (x.toNat : Int) = x.toBitVec := by
  rw [BitVec.ofInt_natCast]; simp
theorem wrapId_u16 (x : UInt16) : IntKind.wrap .u16 (x.toNat : Int) = (x.toNat : Int) := by
  have := lt_u16 x
  rw [wrap_u16]; omega
theorem and_u16 (x y : UInt16) : IntKind.wrap .u16 ((BitVec.ofInt (IntKind.bits .u16) (x.toNat : Int) &&& BitVec.ofInt (IntKind.bits .u16) (y.toNat : Int)).toNat : Int) = ((x &&& y).toNat : Int) := by
  have h : (BitVec.ofInt (IntKind.bits .u16) (x.toNat : Int) &&& BitVec.ofInt (IntKind.bits .u16) (y.toNat : Int)).toNat = (x &&& y).toNat := by
    show (BitVec.ofInt 16 _ &&& BitVec.ofInt 16 _).toNat = _
    rw [ofInt_u16, ofInt_u16]; rfl
  rw [h]; exact wrapId_u16 _
theorem or_u16 (x y : UInt16) : IntKind.wrap .u16 ((BitVec.ofInt (IntKind.bits .u16) (x.toNat : Int) ||| BitVec.ofInt (IntKind.bits .u16) (y.toNat : Int)).toNat : Int) = ((x ||| y).toNat : Int) := by
  have h : (BitVec.ofInt (IntKind.bits .u16) (x.toNat : Int) ||| BitVec.ofInt (IntKind.bits .u16) (y.toNat : Int)).toNat = (x ||| y).toNat := by
    show (BitVec.ofInt 16 _ ||| BitVec.ofInt 16 _).toNat = _
    rw [ofInt_u16, ofInt_u16]; rfl
  rw [h]; exact wrapId_u16 _
theorem xor_u16 (x y : UInt16) : IntKind.wrap .u16 ((BitVec.ofInt (IntKind.bits .u16) (x.toNat : Int) ^^^ BitVec.ofInt (IntKind.bits .u16) (y.toNat : Int)).toNat : Int) = ((x ^^^ y).toNat : Int) := by
  have h : (BitVec.ofInt (IntKind.bits .u16) (x.toNat : Int) ^^^ BitVec.ofInt (IntKind.bits .u16) (y.toNat : Int)).toNat = (x ^^^ y).toNat := by
    show (BitVec.ofInt 16 _ ^^^ BitVec.ofInt 16 _).toNat = _
    rw [ofInt_u16, ofInt_u16]; rfl
  rw [h]; exact wrapId_u16 _
theorem andNot_u16 (x y : UInt16) : IntKind.wrap .u16 ((BitVec.ofInt (IntKind.bits .u16) (x.toNat : Int) &&& ~~~BitVec.ofInt (IntKind.bits .u16) (y.toNat : Int)).toNat : Int) = ((x &&& ~~~y).toNat : Int) := by
  have h : (BitVec.ofInt (IntKind.bits .u16) (x.toNat : Int) &&& ~~~BitVec.ofInt (IntKind.bits .u16) (y.toNat : Int)).toNat = (x &&& ~~~y).toNat := by
    show (BitVec.ofInt 16 _ &&& ~~~BitVec.ofInt 16 _).toNat = _
    rw [ofInt_u16, ofInt_u16]; rfl
  rw [h]; exact wrapId_u16 _
theorem not_u16 (x : UInt16) : IntKind.wrap .u16 ((BitVec.ofInt (IntKind.bits .u16) (IntKind.max .u16) ^^^ BitVec.ofInt (IntKind.bits .u16) (x.toNat : Int)).toNat : Int) = ((~~~x).toNat : Int) := by
  have h : (BitVec.ofInt (IntKind.bits .u16) (IntKind.max .u16) ^^^ BitVec.ofInt (IntKind.bits .u16) (x.toNat : Int)).toNat = (~~~x).toNat := by
    have e : BitVec.ofInt (IntKind.bits .u16) (IntKind.max .u16) = BitVec.allOnes 16 := by rfl
    rw [e]
    show (BitVec.allOnes 16 ^^^ BitVec.ofInt 16 _).toNat = _
    rw [ofInt_u16, BitVec.allOnes_xor]; rfl
  rw [h]; exact wrapId_u16 _
theorem shl_u16 (x : UInt16) (s : Nat) : IntKind.wrap .u16 ((x.toNat : Int) * 2 ^ s) = ((UInt16.ofNat (x.toNat * 2 ^ s)).toNat : Int) := by
  rw [wrap_u16, pow_nat, ← Int.natCast_mul, UInt16.toNat_ofNat']
  exact emod_nat _ _
theorem shr_u16 (x : UInt16) (s : Nat) : (x.toNat : Int).fdiv (2 ^ s) = ((UInt16.ofNat (x.toNat / 2 ^ s)).toNat : Int) := by
  rw [pow_nat, fdiv_nat, UInt16.toNat_ofNat']
  have h1 := lt_u16 x
  have h2 : x.toNat / 2 ^ s ≤ x.toNat := Nat.div_le_self _ _
  rw [Nat.mod_eq_of_lt (by omega)]
theorem quo_u16 (x y : UInt16) : IntKind.wrap .u16 ((x.toNat : Int).tdiv y.toNat) = ((x / y).toNat : Int) := by
  rw [← Int.ofNat_tdiv, ← UInt16.toNat_div]; exact wrapId_u16 _
theorem rem_u16 (x y : UInt16) : (x.toNat : Int).tmod y.toNat = ((x % y).toNat : Int) := by
  rw [← Int.ofNat_tmod, ← UInt16.toNat_mod]
theorem eq_u16 (x y : UInt16) : ((x.toNat : Int) == (y.toNat : Int)) = (x == y) := by
  rw [Bool.eq_iff_iff]; simp [← UInt16.toNat_inj]; omega
theorem ofI_u16 (a : Int) : IntKind.wrap .u16 a = ((UInt16.ofNat (a % 2 ^ 16).toNat).toNat : Int) := by
  rw [wrap_u16, UInt16.toNat_ofNat']
  omega
theorem wrap_u32 (a : Int) : IntKind.wrap .u32 a = a % 4294967296 := by simp [IntKind.wrap, IntKind.bits, IntKind.signed]
theorem lt_u32 (x : UInt32) : x.toNat < 4294967296 := x.toNat_lt
theorem add_u32 (x y : UInt32) : IntKind.wrap .u32 (x.toNat + y.toNat) = ((x + y).toNat : Int) := by
  rw [wrap_u32, UInt32.toNat_add]; omega
theorem sub_u32 (x y : UInt32) : IntKind.wrap .u32 (x.toNat - y.toNat) = ((x - y).toNat : Int) := by
  have := lt_u32 x; have := lt_u32 y
  rw [wrap_u32, UInt32.toNat_sub]; omega
theorem mul_u32 (x y : UInt32) : IntKind.wrap .u32 (x.toNat * y.toNat) = ((x * y).toNat : Int) := by
  rw [wrap_u32, UInt32.toNat_mul, ← Int.natCast_mul]
  exact emod_nat _ _
theorem ofInt_u32 (x : UInt32) : BitVec.ofInt 32 (x.toNat : Int) = x.toBitVec := by
  rw [BitVec.ofInt_natCast]; simp
theorem wrapId_u32 (x : UInt32) : IntKind.wrap .u32 (x.toNat : Int) = (x.toNat : Int) := by
  have := lt_u32 x
  rw [wrap_u32]; omega
theorem and_u32 (x y : UInt32) : IntKind.wrap .u32 ((BitVec.ofInt (IntKind.bits .u32) (x.toNat : Int) &&& BitVec.ofInt (IntKind.bits .u32) (y.toNat : Int)).toNat : Int) = ((x &&& y).toNat : Int) := by
  have h : (BitVec.ofInt (IntKind.bits .u32) (x.toNat : Int) &&& BitVec.ofInt (IntKind.bits .u32) (y.toNat : Int)).toNat = (x &&& y).toNat := by
    show (BitVec.ofInt 32 _ &&& BitVec.ofInt 32 _).toNat = _
    rw [ofInt_u32, ofInt_u32]; rfl
  rw [h]; exact wrapId_u32 _
theorem or_u32 (x y : UInt32) : IntKind.wrap .u32 ((BitVec.ofInt (IntKind.bits .u32) (x.toNat : Int) ||| BitVec.ofInt (IntKind.bits .u32) (y.toNat : Int)).toNat : Int) = ((x ||| y).toNat : Int) := by
  have h : (BitVec.ofInt (IntKind.bits .u32) (x.toNat : Int) ||| BitVec.ofInt (IntKind.bits .u32) (y.toNat : Int)).toNat = (x ||| y).toNat := by
    show (BitVec.ofInt 32 _ ||| BitVec.ofInt 32 _).toNat = _
    rw [ofInt_u32, ofInt_u32]; rfl
  rw [h]; exact wrapId_u32 _
theorem xor_u32 (x y : UInt32) : IntKind.wrap .u32 ((BitVec.ofInt (IntKind.bits .u32) (x.toNat : Int) ^^^ BitVec.ofInt (IntKind.bits .u32) (y.toNat : Int)).toNat : Int) = ((x ^^^ y).toNat : Int) := by
  have h : (BitVec.ofInt (IntKind.bits .u32) (x.toNat : Int) ^^^ BitVec.ofInt (IntKind.bits .u32) (y.toNat : Int)).toNat = (x ^^^ y).toNat := by
    show (BitVec.ofInt 32 _ ^^^ BitVec.ofInt 32 _).toNat = _
    rw [ofInt_u32, ofInt_u32]; rfl
  rw [h]; exact wrapId_u32 _
theorem andNot_u32 (x y : UInt32) : IntKind.wrap .u32 ((BitVec.ofInt (IntKind.bits .u32) (x.toNat : Int) &&& ~~~BitVec.ofInt (IntKind.bits .u32) (y.toNat : Int)).toNat : Int) = ((x &&& ~~~y).toNat : Int) := by
  have h : (BitVec.ofInt (IntKind.bits .u32) (x.toNat : Int) &&& ~~~BitVec.ofInt (IntKind.bits .u32) (y.toNat : Int)).toNat = (x &&& ~~~y).toNat := by
    show (BitVec.ofInt 32 _ &&& ~~~BitVec.ofInt 32 _).toNat = _
    rw [ofInt_u32, ofInt_u32]; rfl
  rw [h]; exact wrapId_u32 _
theorem not_u32 (x : UInt32) : IntKind.wrap .u32 ((BitVec.ofInt (IntKind.bits .u32) (IntKind.max .u32) ^^^ BitVec.ofInt (IntKind.bits .u32) (x.toNat : Int)).toNat : Int) = ((~~~x).toNat : Int) := by
  have h : (BitVec.ofInt (IntKind.bits .u32) (IntKind.max .u32) ^^^ BitVec.ofInt (IntKind.bits .u32) (x.toNat : Int)).toNat = (~~~x).toNat := by
    have e : BitVec.ofInt (IntKind.bits .u32) (IntKind.max .u32) = BitVec.allOnes 32 := by rfl
    rw [e]
    show (BitVec.allOnes 32 ^^^ BitVec.ofInt 32 _).toNat = _
    rw [ofInt_u32, BitVec.allOnes_xor]; rfl
  rw [h]; exact wrapId_u32 _
theorem shl_u32 (x : UInt32) (s : Nat) : IntKind.wrap .u32 ((x.toNat : Int) * 2 ^ s) = ((UInt32.ofNat (x.toNat * 2 ^ s)).toNat : Int) := by
  rw [wrap_u32, pow_nat, ← Int.natCast_mul, UInt32.toNat_ofNat']
  exact emod_nat _ _
theorem shr_u32 (x : UInt32) (s : Nat) : (x.toNat : Int).fdiv (2 ^ s) = ((UInt32.ofNat (x.toNat / 2 ^ s)).toNat : Int) := by
  rw [pow_nat, fdiv_nat, UInt32.toNat_ofNat']
  have h1 := lt_u32 x
  have h2 : x.toNat / 2 ^ s ≤ x.toNat := Nat.div_le_self _ _
  rw [Nat.mod_eq_of_lt (by omega)]
theorem quo_u32 (x y : UInt32) : IntKind.wrap .u32 ((x.toNat : Int).tdiv y.toNat) = ((x / y).toNat : Int) := by
  rw [← Int.ofNat_tdiv, ← UInt32.toNat_div]; exact wrapId_u32 _
theorem rem_u32 (x y : UInt32) : (x.toNat : Int).tmod y.toNat = ((x % y).toNat : Int) := by
  rw [← Int.ofNat_tmod, ← UInt32.toNat_mod]
theorem eq_u32 (x y : UInt32) : ((x.toNat : Int) == (y.toNat : Int)) = (x == y) := by
  rw [Bool.eq_iff_iff]; simp [← UInt32.toNat_inj]; omega
theorem ofI_u32 (a : Int) : IntKind.wrap .u32 a = ((UInt32.ofNat (a % 2 ^ 32).toNat).toNat : Int) := by
  rw [wrap_u32, UInt32.toNat_ofNat']
  omega
theorem wrap_u64 (a : Int) : IntKind.wrap .u64 a = a % 18446744073709551616 := by simp [IntKind.wrap, IntKind.bits, IntKind.signed]
theorem lt_u64 (x : UInt64) : x.toNat < 18446744073709551616 := x.toNat_lt
theorem add_u64 (x y : UInt64) : IntKind.wrap .u64 (x.toNat + y.toNat) = ((x + y).toNat : Int) := by
  rw [wrap_u64, UInt64.toNat_add]; omega
theorem sub_u64 (x y : UInt64) : IntKind.wrap .u64 (x.toNat - y.toNat) = ((x - y).toNat : Int) := by
  have := lt_u64 x; have := lt_u64 y
  rw [wrap_u64, UInt64.toNat_sub]; omega
theorem mul_u64 (x y : UInt64) : IntKind.wrap .u64 (x.toNat * y.toNat) = ((x * y).toNat : Int) := by
  rw [wrap_u64, UInt64.toNat_mul, ← Int.natCast_mul]
  exact emod_nat _ _
theorem ofInt_u64 (x : UInt64) : BitVec.ofInt 64 (x.toNat : Int) = x.toBitVec := by
  rw [BitVec.ofInt_natCast]; simp
theorem wrapId_u64 (x : UInt64) : IntKind.wrap .u64 (x.toNat : Int) = (x.toNat : Int) := by
  have := lt_u64 x
  rw [wrap_u64]; omega
theorem and_u64 (x y : UInt64) : IntKind.wrap .u64 ((BitVec.ofInt (IntKind.bits .u64) (x.toNat : Int) &&& BitVec.ofInt (IntKind.bits .u64) (y.toNat : Int)).toNat : Int) = ((x &&& y).toNat : Int) := by
  have h : (BitVec.ofInt (IntKind.bits .u64) (x.toNat : Int) &&& BitVec.ofInt (IntKind.bits .u64) (y.toNat : Int)).toNat = (x &&& y).toNat := by
    show (BitVec.ofInt 64 _ &&& BitVec.ofInt 64 _).toNat = _
    rw [ofInt_u64, ofInt_u64]; rfl
  rw [h]; exact wrapId_u64 _
theorem or_u64 (x y : UInt64) : IntKind.wrap .u64 ((BitVec.ofInt (IntKind.bits .u64) (x.toNat : Int) ||| BitVec.ofInt (IntKind.bits .u64) (y.toNat : Int)).toNat : Int) = ((x ||| y).toNat : Int) := by
  have h : (BitVec.ofInt (IntKind.bits .u64) (x.toNat : Int) ||| BitVec.ofInt (IntKind.bits .u64) (y.toNat : Int)).toNat = (x ||| y).toNat := by
    show (BitVec.ofInt 64 _ ||| BitVec.ofInt 64 _).toNat = _
    rw [ofInt_u64, ofInt_u64]; rfl
  rw [h]; exact wrapId_u64 _
theorem xor_u64 (x y : UInt64) : IntKind.wrap .u64 ((BitVec.ofInt (IntKind.bits .u64) (x.toNat : Int) ^^^ BitVec.ofInt (IntKind.bits .u64) (y.toNat : Int)).toNat : Int) = ((x ^^^ y).toNat : Int) := by
  have h : (BitVec.ofInt (IntKind.bits .u64) (x.toNat : Int) ^^^ BitVec.ofInt (IntKind.bits .u64) (y.toNat : Int)).toNat = (x ^^^ y).toNat := by
    show (BitVec.ofInt 64 _ ^^^ BitVec.ofInt 64 _).toNat = _
    rw [ofInt_u64, ofInt_u64]; rfl
  rw [h]; exact wrapId_u64 _
theorem andNot_u64 (x y : UInt64) : IntKind.wrap .u64 ((BitVec.ofInt (IntKind.bits .u64) (x.toNat : Int) &&& ~~~BitVec.ofInt (IntKind.bits .u64) (y.toNat : Int)).toNat : Int) = ((x &&& ~~~y).toNat : Int) := by
  have h : (BitVec.ofInt (IntKind.bits .u64) (x.toNat : Int) &&& ~~~BitVec.ofInt (IntKind.bits .u64) (y.toNat : Int)).toNat = (x &&& ~~~y).toNat := by
    show (BitVec.ofInt 64 _ &&& ~~~BitVec.ofInt 64 _).toNat = _
    rw [ofInt_u64, ofInt_u64]; rfl
  rw [h]; exact wrapId_u64 _
theorem not_u64 (x : UInt64) : IntKind.wrap .u64 ((BitVec.ofInt (IntKind.bits .u64) (IntKind.max .u64) ^^^ BitVec.ofInt (IntKind.bits .u64) (x.toNat : Int)).toNat : Int) = ((~~~x).toNat : Int) := by
  have h : (BitVec.ofInt (IntKind.bits .u64) (IntKind.max .u64) ^^^ BitVec.ofInt (IntKind.bits .u64) (x.toNat : Int)).toNat = (~~~x).toNat := by
    have e : BitVec.ofInt (IntKind.bits .u64) (IntKind.max .u64) = BitVec.allOnes 64 := by rfl
    rw [e]
    show (BitVec.allOnes 64 ^^^ BitVec.ofInt 64 _).toNat = _
    rw [ofInt_u64, BitVec.allOnes_xor]; rfl
  rw [h]; exact wrapId_u64 _
theorem shl_u64 (x : UInt64) (s : Nat) : IntKind.wrap .u64 ((x.toNat : Int) * 2 ^ s) = ((UInt64.ofNat (x.toNat * 2 ^ s)).toNat : Int) := by
  rw [wrap_u64, pow_nat, ← Int.natCast_mul, UInt64.toNat_ofNat']
  exact emod_nat _ _
theorem shr_u64 (x : UInt64) (s : Nat) : (x.toNat : Int).fdiv (2 ^ s) = ((UInt64.ofNat (x.toNat / 2 ^ s)).toNat : Int) := by
  rw [pow_nat, fdiv_nat, UInt64.toNat_ofNat']
  have h1 := lt_u64 x
  have h2 : x.toNat / 2 ^ s ≤ x.toNat := Nat.div_le_self _ _
  rw [Nat.mod_eq_of_lt (by omega)]
theorem quo_u64 (x y : UInt64) : IntKind.wrap .u64 ((x.toNat : Int).tdiv y.toNat) = ((x / y).toNat : Int) := by
  rw [← Int.ofNat_tdiv, ← UInt64.toNat_div]; exact wrapId_u64 _
theorem rem_u64 (x y : UInt64) : (x.toNat : Int).tmod y.toNat = ((x % y).toNat : Int) := by
  rw [← Int.ofNat_tmod, ← UInt64.toNat_mod]
theorem eq_u64 (x y : UInt64) : ((x.toNat : Int) == (y.toNat : Int)) = (x == y) := by
  rw [Bool.eq_iff_iff]; simp [← UInt64.toNat_inj]; omega
theorem ofI_u64 (a : Int) : IntKind.wrap .u64 a = ((UInt64.ofNat (a % 2 ^ 64).toNat).toNat : Int) := by
  rw [wrap_u64, UInt64.toNat_ofNat']
  omega

theorem intBits_real (op : BinOp) (a b : Int) (h : op = .and ∨ op = .or ∨ op = .xor ∨ op = .andNot) (P : Program) (w : World) :
    (Op.intBits op .i64 a b).run P w = .ok (.int .i64 (ibits op a b)) w := by
  rcases h with rfl | rfl | rfl | rfl <;> rfl
end Go.Vc