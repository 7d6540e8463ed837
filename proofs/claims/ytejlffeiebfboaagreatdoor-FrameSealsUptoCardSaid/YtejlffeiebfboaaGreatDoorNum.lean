/- Numbers of 32 bits and bytes as the walk has them: the model's operations on whole numbers are those on words. -/
import Derived.WalkKit
import Derived.Test.YtejlffeiebfboaaGreatDoorSha
set_option linter.unusedVariables false
set_option linter.unusedSimpArgs false
namespace Go.Proofs.YtejlffeiebfboaaGreatDoor.Num
open Go Go.RowKit Go.Proofs.YtejlffeiebfboaaGreatDoor.Sha

/-- A word as a whole number. -/
def n32 (x : W32) : Int := (x.toNat : Int)

theorem ofInt32 (x : W32) : BitVec.ofInt (IntKind.bits .u32) (n32 x) = x := by
  unfold n32; apply BitVec.eq_of_toNat_eq; simp [IntKind.bits]
theorem wrap32_nat (n : Nat) : IntKind.wrap .u32 (n : Int) = n32 (BitVec.ofNat 32 n) := by
  unfold n32; simp [IntKind.wrap, IntKind.bits, IntKind.signed]
theorem wrap_n32 (x : W32) : IntKind.wrap .u32 (x.toNat : Int) = n32 x := by
  rw [wrap32_nat]; simp
theorem bits_xor32 (x y : W32) : bits .xor .u32 (n32 x) (n32 y) = n32 (x ^^^ y) := by
  unfold bits; simp only [ofInt32]; exact wrap_n32 _
theorem bits_or32 (x y : W32) : bits .or .u32 (n32 x) (n32 y) = n32 (x ||| y) := by
  unfold bits; simp only [ofInt32]; exact wrap_n32 _
theorem bits_and32 (x y : W32) : bits .and .u32 (n32 x) (n32 y) = n32 (x &&& y) := by
  unfold bits; simp only [ofInt32]; exact wrap_n32 _
theorem wrap_add32 (x y : W32) : IntKind.wrap .u32 (n32 x + n32 y) = n32 (x + y) := by
  unfold n32
  rw [show (x.toNat : Int) + (y.toNat : Int) = ((x.toNat + y.toNat : Nat) : Int) by omega, wrap32_nat]; simp [n32]
theorem shl32 (x : W32) (m : Nat) (hm : m < 32) : IntKind.wrap .u32 (n32 x * 2 ^ min ((m : Int).toNat) (IntKind.bits .u32)) = n32 (x <<< m) := by
  have : min ((m : Int).toNat) (IntKind.bits .u32) = m := by simp [IntKind.bits]; omega
  unfold n32
  rw [this, show (x.toNat : Int) * 2 ^ m = ((x.toNat * 2 ^ m : Nat) : Int) by simp, wrap32_nat]
  simp [n32, BitVec.toNat_shiftLeft, Nat.shiftLeft_eq]
theorem shr32 (x : W32) (m : Nat) (hm : m < 32) : (n32 x / 2 ^ min ((m : Int).toNat) (IntKind.bits .u32)) = n32 (x >>> m) := by
  have : min ((m : Int).toNat) (IntKind.bits .u32) = m := by simp [IntKind.bits]; omega
  unfold n32
  rw [this, BitVec.toNat_ushiftRight, Nat.shiftRight_eq_div_pow]
  simp
theorem shl32' (x : W32) (m : Nat) (hm : m < 32) : n32 x * 2 ^ min m 32 % 4294967296 = n32 (x <<< m) := by
  rw [← shl32 x m hm]; simp [IntKind.wrap, IntKind.bits, IntKind.signed]
theorem shr32' (x : W32) (m : Nat) (hm : m < 32) : n32 x / 2 ^ m = n32 (x >>> m) := by
  rw [← shr32 x m hm]
  have : min ((m : Int).toNat) (IntKind.bits .u32) = m := by simp [IntKind.bits]; omega
  rw [this]
theorem n32_range (x : W32) : 0 ≤ n32 x ∧ n32 x < 4294967296 := by
  unfold n32; have := x.isLt; omega

theorem wrap_u8_32 (p : UInt8) : IntKind.wrap .u32 (p.toNat : Int) = n32 (BitVec.ofNat 32 p.toNat) := wrap32_nat _
theorem shl32_24 (x : W32) : IntKind.wrap .u32 (n32 x * 16777216) = n32 (x <<< 24) := by
  have := shl32 x 24 (by decide); simpa [IntKind.bits] using this
theorem shl32_16 (x : W32) : IntKind.wrap .u32 (n32 x * 65536) = n32 (x <<< 16) := by
  have := shl32 x 16 (by decide); simpa [IntKind.bits] using this
theorem shl32_8 (x : W32) : IntKind.wrap .u32 (n32 x * 256) = n32 (x <<< 8) := by
  have := shl32 x 8 (by decide); simpa [IntKind.bits] using this
theorem shr32_3 (x : W32) : n32 x / (8 : Int) = n32 (x >>> 3) := shr32' x 3 (by decide)
theorem shr32_10 (x : W32) : n32 x / (1024 : Int) = n32 (x >>> 10) := shr32' x 10 (by decide)
theorem mod_u8_32 (p : UInt8) : (p.toNat : Int) % (4294967296 : Int) = n32 (BitVec.ofNat 32 p.toNat) := by
  rw [← wrap_u8_32]; simp [IntKind.wrap, IntKind.bits, IntKind.signed]
theorem shl32_24' (x : W32) : (n32 x * (16777216 : Int)) % (4294967296 : Int) = n32 (x <<< 24) := by
  rw [← shl32_24]; simp [IntKind.wrap, IntKind.bits, IntKind.signed]
theorem shl32_16' (x : W32) : (n32 x * (65536 : Int)) % (4294967296 : Int) = n32 (x <<< 16) := by
  rw [← shl32_16]; simp [IntKind.wrap, IntKind.bits, IntKind.signed]
theorem shl32_8' (x : W32) : (n32 x * (256 : Int)) % (4294967296 : Int) = n32 (x <<< 8) := by
  rw [← shl32_8]; simp [IntKind.wrap, IntKind.bits, IntKind.signed]
theorem add32' (x y : W32) : (n32 x + n32 y) % (4294967296 : Int) = n32 (x + y) := by
  rw [← wrap_add32]; simp [IntKind.wrap, IntKind.bits, IntKind.signed]
theorem add32_2 (a b : W32) : (n32 a + n32 b) % (4294967296 : Int) = n32 (a + b) := add32' a b
theorem add32_3 (a b c : W32) : (n32 a + n32 b + n32 c) % (4294967296 : Int) = n32 (a + b + c) := by
  rw [← add32_2, ← add32_2, Int.emod_add_emod]
theorem add32_4 (a b c d : W32) : (n32 a + n32 b + n32 c + n32 d) % (4294967296 : Int) = n32 (a + b + c + d) := by
  rw [← add32_2, ← add32_3, Int.emod_add_emod]
theorem add32_5 (a b c d e : W32) : (n32 a + n32 b + n32 c + n32 d + n32 e) % (4294967296 : Int) = n32 (a + b + c + d + e) := by
  rw [← add32_2, ← add32_4, Int.emod_add_emod]
theorem sched_bits (x y p q : W32) : (bits BinOp.xor IntKind.u32 (bits BinOp.xor IntKind.u32 (n32 (rotr y 17)) (n32 (rotr y 19))) (n32 y / 1024) + n32 p + bits BinOp.xor IntKind.u32 (bits BinOp.xor IntKind.u32 (n32 (rotr x 7)) (n32 (rotr x 18))) (n32 x / 8) + n32 q) % (4294967296 : Int) =
    n32 (((((rotr y 17 ^^^ rotr y 19) ^^^ (y >>> 10)) + p) + ((rotr x 7 ^^^ rotr x 18) ^^^ (x >>> 3))) + q) := by
  rw [shr32_10, shr32_3, bits_xor32, bits_xor32, bits_xor32, bits_xor32, add32_4]
theorem not32 (x : W32) : bits .xor .u32 (if IntKind.signed .u32 = true then -1 else IntKind.max .u32) (n32 x) = n32 (~~~ x) := by
  have e : (if IntKind.signed .u32 = true then (-1 : Int) else IntKind.max .u32) = n32 (BitVec.allOnes 32) := by decide
  rw [e, bits_xor32, BitVec.allOnes_xor]
theorem not32' (x : W32) : bits .xor .u32 4294967295 (n32 x) = n32 (~~~ x) := by
  rw [← not32]; rfl
theorem word_bits (p q r s : UInt8) : bits .or .u32 (bits .or .u32 (bits .or .u32 ((p.toNat : Int) % 4294967296 * 16777216 % 4294967296) ((q.toNat : Int) % 4294967296 * 65536 % 4294967296)) ((r.toNat : Int) % 4294967296 * 256 % 4294967296)) ((s.toNat : Int) % 4294967296) = n32 (be p q r s) := by
  rw [mod_u8_32, mod_u8_32, mod_u8_32, mod_u8_32, shl32_24', shl32_16', shl32_8', bits_or32, bits_or32, bits_or32]; rfl
section
variable {P : Program}
theorem run_shl32 (x : W32) (m : Nat) (hm : m < 32) (w : World) : (Op.shift BinOp.shl IntKind.u32 (n32 x) IntKind.u64 (m : Int)).run P w = .ok (.int .u32 (n32 (x <<< m))) w := by
  rw [shift_shl_any _ _ _ _ (by omega), shl32 x _ hm]; rfl
theorem run_shr32 (x : W32) (m : Nat) (hm : m < 32) (w : World) : (Op.shift BinOp.shr IntKind.u32 (n32 x) IntKind.u64 (m : Int)).run P w = .ok (.int .u32 (n32 (x >>> m))) w := by
  rw [shift_shr_any _ _ _ _ (by omega), shr32 x _ hm]; rfl
end
end Go.Proofs.YtejlffeiebfboaaGreatDoor.Num
