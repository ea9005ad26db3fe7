/- Plain facts on bits of words. -/
import Derived.WalkKit
import Derived.Laws.BitsAllLaws
import Derived.Laws.Bits64b
namespace Go.Proofs.YtifcibbhblhfiaaGreatDoor.Pl
open Go Go.RowKit

theorem u32max : IntKind.u32.max = 4294967295 := by decide

theorem top32 (x : Nat) (h : x < 4294967296) : x.testBit 31 = decide (2147483648 ≤ x) := by
  rw [Nat.testBit_eq_decide_div_mod_eq]
  by_cases h1 : 2147483648 ≤ x
  · rw [decide_eq_true h1, decide_eq_true]; omega
  · rw [decide_eq_false h1, decide_eq_false]; omega

theorem top32_div (x : Nat) (h : x < 4294967296) : x / 2147483648 = if x.testBit 31 then 1 else 0 := by
  rw [top32 x h]
  by_cases h1 : 2147483648 ≤ x
  · rw [decide_eq_true h1]; simp; omega
  · rw [decide_eq_false h1]; simp; omega

theorem not32 (x : Nat) (h : x < 4294967296) : 4294967295 ^^^ x = 4294967295 - x := by
  apply Nat.eq_of_testBit_eq
  intro i
  have e : 4294967295 - x = 2 ^ 32 - (x + 1) := by omega
  rw [Nat.testBit_xor, e, Nat.testBit_two_pow_sub_succ (by omega)]
  have e2 : (4294967295 : Nat) = 2 ^ 32 - 1 := by decide
  rw [e2, Nat.testBit_two_pow_sub_one]
  by_cases hi : i < 32
  · simp [hi]
  · have : x.testBit i = false := Nat.testBit_lt_two_pow (Nat.lt_of_lt_of_le h (by have := Nat.pow_le_pow_right (show 0 < 2 by decide) (show 32 ≤ i by omega); omega))
    simp [hi, this]

def borrow (x y b : Nat) : Nat := if x < y + b then 1 else 0
theorem borrow_le (x y b : Nat) : borrow x y b ≤ 1 := by unfold borrow; split <;> omega
def sub32 (x y b : Nat) : Nat := (x + 8589934592 - y - b) % 4294967296
theorem sub32_lt (x y b : Nat) : sub32 x y b < 4294967296 := Nat.mod_lt _ (by decide)
theorem sub32_eq (x y b : Nat) (hx : x < 4294967296) (hy : y < 4294967296) (hb : b ≤ 1) : sub32 x y b + y + b = x + 4294967296 * borrow x y b := by
  unfold sub32 borrow; split <;> omega

theorem sub32_int (x y b : Nat) (hx : x < 4294967296) (hy : y < 4294967296) (hb : b ≤ 1) : ((x : Int) - y - b) % 4294967296 = (sub32 x y b : Int) := by
  unfold sub32; omega

theorem borrow_nat (x y b : Nat) (hx : x < 4294967296) (hy : y < 4294967296) (hb : b ≤ 1) :
    (((4294967295 ^^^ x) &&& y) ||| ((4294967295 ^^^ (x ^^^ y)) &&& sub32 x y b)) / 2147483648 = borrow x y b := by
  have hxy : x ^^^ y < 4294967296 := Nat.xor_lt_two_pow (n := 32) hx hy
  rw [not32 x hx, not32 _ hxy]
  have h1 : (4294967295 - x) &&& y < 4294967296 := Nat.lt_of_le_of_lt Nat.and_le_right hy
  have h2 : (4294967295 - (x ^^^ y)) &&& sub32 x y b < 4294967296 := Nat.lt_of_le_of_lt Nat.and_le_right (sub32_lt _ _ _)
  have h3 : ((4294967295 - x) &&& y) ||| ((4294967295 - (x ^^^ y)) &&& sub32 x y b) < 4294967296 := Nat.or_lt_two_pow (n := 32) h1 h2
  have nt : ∀ z, z < 4294967296 → (4294967295 - z).testBit 31 = !z.testBit 31 := by
    intro z hz
    have e : 4294967295 - z = 2 ^ 32 - (z + 1) := by omega
    rw [e, Nat.testBit_two_pow_sub_succ (by omega)]; simp
  rw [top32_div _ h3, Nat.testBit_or, Nat.testBit_and, Nat.testBit_and, nt x hx, nt _ hxy, Nat.testBit_xor, top32 x hx, top32 y hy, top32 _ (sub32_lt x y b)]
  have hs := sub32_eq x y b hx hy hb
  have hl := sub32_lt x y b
  generalize sub32 x y b = d at *
  unfold borrow at *
  by_cases a1 : 2147483648 ≤ x <;> by_cases a2 : 2147483648 ≤ y <;> by_cases a3 : 2147483648 ≤ d <;> simp only [a1, a2, a3, decide_true, decide_false] <;> by_cases a4 : x < y + b <;> simp only [a4, if_true, if_false] at hs ⊢ <;> simp <;> omega

theorem borrow_int (x y b : Nat) (hx : x < 4294967296) (hy : y < 4294967296) (hb : b ≤ 1) :
    bits BinOp.or IntKind.u32 (bits BinOp.and IntKind.u32 (bits BinOp.xor IntKind.u32 4294967295 ↑x) ↑y)
      (bits BinOp.and IntKind.u32 (bits BinOp.xor IntKind.u32 4294967295 (bits BinOp.xor IntKind.u32 ↑x ↑y)) (((x : Int) - y - b) % 4294967296)) / 2147483648 = (borrow x y b : Int) := by
  have hxy : x ^^^ y < 4294967296 := Nat.xor_lt_two_pow (n := 32) hx hy
  have hl := sub32_lt x y b
  rw [sub32_int x y b hx hy hb, u32_xor_nat x y hx hy, show (4294967295 : Int) = ((4294967295 : Nat) : Int) from rfl, u32_xor_nat _ x (by decide) hx, u32_xor_nat _ _ (by decide) hxy,
    u32_and_nat _ y (Nat.xor_lt_two_pow (n := 32) (by decide) hx) hy, u32_and_nat _ _ (Nat.xor_lt_two_pow (n := 32) (by decide) hxy) hl,
    u32_or_nat _ _ (Nat.lt_of_le_of_lt Nat.and_le_right hy) (Nat.lt_of_le_of_lt Nat.and_le_right hl)]
  rw [show (2147483648 : Int) = ((2147483648 : Nat) : Int) from rfl, ← Int.natCast_ediv, borrow_nat x y b hx hy hb]

theorem shl_or (hi lo : Nat) (h1 : hi < 4294967296) (h2 : lo < 4294967296) : bits BinOp.or IntKind.u64 ((hi : Int) * 4294967296) (lo : Int) = ((4294967296 * hi + lo : Nat) : Int) := by
  have := bits_or_u64_nat (hi * 4294967296) lo (by omega) (by omega)
  rw [nat_join 32 _ _ (by omega) (by omega)] at this
  rw [Int.natCast_mul, Int.cast_ofNat_Int] at this
  rw [this, Nat.mul_comm]

theorem div_small (hi lo y : Nat) (h : hi < y) (hlo : lo < 4294967296) : (4294967296 * hi + lo) / y < 4294967296 := by
  rw [Nat.div_lt_iff_lt_mul (by omega)]
  have : 4294967296 * (hi + 1) ≤ 4294967296 * y := Nat.mul_le_mul_left _ h
  omega


theorem u64_wrap_nat (a : Nat) (h : a < 18446744073709551616) : IntKind.u64.wrap (a : Int) = (a : Int) := by rw [IntKind.wrap_u64]; omega

theorem run_shl_u64 {P : Program} (t : TypeId) (yk : IntKind) (x r : Nat) (y : Int) (hy : y = (r : Int)) (hr : r ≤ 64) (hx : x * 2 ^ r < 18446744073709551616) (w : World) :
    (binOp .shl t (.int .u64 (x : Int)) (.int yk y)).run P w = .ok (.int .u64 ((x * 2 ^ r : Nat) : Int)) w := by
  subst hy
  have e : (x : Int) * 2 ^ r = ((x * 2 ^ r : Nat) : Int) := by rw [Int.natCast_mul, Int.natCast_pow]; rfl
  have h0 : ¬ ((r : Int) < 0) := by omega
  simp only [binOp, Op.shift, if_neg h0, Int.toNat_natCast]
  rw [show min r IntKind.u64.bits = r from Nat.min_eq_left hr, e, u64_wrap_nat _ hx]
  rfl

theorem run_shr_u64 {P : Program} (t : TypeId) (yk : IntKind) (x r : Nat) (y : Int) (hy : y = (r : Int)) (hr : r ≤ 64) (w : World) :
    (binOp .shr t (.int .u64 (x : Int)) (.int yk y)).run P w = .ok (.int .u64 ((x / 2 ^ r : Nat) : Int)) w := by
  subst hy
  have e : (x : Int).fdiv (2 ^ r) = ((x / 2 ^ r : Nat) : Int) := by
    rw [Int.fdiv_eq_ediv_of_nonneg _ (Int.le_of_lt (Int.pow_pos (by decide))), Int.natCast_ediv, Int.natCast_pow]; rfl
  have h0 : ¬ ((r : Int) < 0) := by omega
  simp only [binOp, Op.shift, if_neg h0, Int.toNat_natCast]
  rw [show min r IntKind.u64.bits = r from Nat.min_eq_left hr, e]
  rfl


theorem bit_int (x r : Nat) (hx : x < 4294967296) : bits BinOp.and IntKind.u32 ((x : Int) / 2 ^ r) 1 = ((x / 2 ^ r % 2 : Nat) : Int) := by
  have e : (x : Int) / 2 ^ r = ((x / 2 ^ r : Nat) : Int) := by rw [Int.natCast_ediv, Int.natCast_pow]; rfl
  rw [e, show (1 : Int) = ((1 : Nat) : Int) from rfl, u32_and_nat _ 1 (Nat.lt_of_le_of_lt (Nat.div_le_self _ _) hx) (by decide), nat_mask1]

theorem dbl_or (x b : Nat) (hb : b ≤ 1) : bits BinOp.or IntKind.u32 (((x * 2 : Nat) : Int) % 4294967296) (b : Int) = ((x * 2 % 4294967296 + b : Nat) : Int) := by
  rw [show ((x * 2 : Nat) : Int) % 4294967296 = ((x * 2 % 4294967296 : Nat) : Int) by omega, u32_or_nat _ _ (Nat.mod_lt _ (by decide)) (by omega), nat_join 1 _ _ (by omega) (by omega)]


theorem set_or (x r : Nat) (hx : x < 4294967296) (hr : r < 32) (h : x % 2 ^ (r + 1) = 0) : bits BinOp.or IntKind.u32 (x : Int) ((2 : Int) ^ r % 4294967296) = ((x + 2 ^ r : Nat) : Int) := by
  have hp : 2 ^ r < 4294967296 := Nat.lt_of_lt_of_le (Nat.pow_lt_pow_right (by decide) hr) (by decide)
  have hp2 : (2 : Nat) ^ r < 2 ^ (r + 1) := Nat.pow_lt_pow_right (by decide) (by omega)
  have e : (2 : Int) ^ r % 4294967296 = ((2 ^ r : Nat) : Int) := by
    rw [show (2 : Int) ^ r = ((2 ^ r : Nat) : Int) by rw [Int.natCast_pow]; rfl]; omega
  rw [e, u32_or_nat _ _ hx hp, nat_join (r + 1) _ _ h hp2]

end Go.Proofs.YtifcibbhblhfiaaGreatDoor.Pl
