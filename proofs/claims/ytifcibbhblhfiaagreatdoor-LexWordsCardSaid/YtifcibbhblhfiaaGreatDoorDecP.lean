/- Plain: the float nearest to a fraction, as the program finds it. -/
import Derived.Test.YtifcibbhblhfiaaGreatDoorDecA
namespace Go.Proofs.YtifcibbhblhfiaaGreatDoor.Pl
open Go.Proofs.YtifcibbhblhfiaaGreatDoor

def qAt (num den : Nat) (e : Int) : Nat := num * 2 ^ (-e).toNat / (den * 2 ^ e.toNat)
def eBeg (num den : Nat) : Int := max ((blen num : Int) - blen den - 54) (-1074)
def eEnd (num den : Nat) : Int := eBeg num den + ((blen (qAt num den (eBeg num den)) - 53 : Nat) : Int)
def nearestBits (num den : Nat) : Nat :=
  min ((eEnd num den + 1074).toNat * 4503599627370496 + rnd (num * 2 ^ (-eEnd num den).toNat) (den * 2 ^ (eEnd num den).toNat)) 9218868437227405312

theorem qAt_succ (num den : Nat) (e : Int) : qAt num den (e + 1) = qAt num den e / 2 := by
  unfold qAt
  by_cases h : 0 ≤ e
  · rw [show (-(e + 1)).toNat = 0 by omega, show (-e).toNat = 0 by omega, show (e + 1).toNat = e.toNat + 1 by omega, Nat.pow_succ, Nat.div_div_eq_div_mul, Nat.mul_assoc]
  · rw [show (e + 1).toNat = 0 by omega, show e.toNat = 0 by omega, show (-e).toNat = (-(e + 1)).toNat + 1 by omega, Nat.pow_succ, ← Nat.mul_assoc, Nat.div_div_eq_div_mul]
    rw [Nat.mul_div_mul_right _ _ (by decide)]

theorem blen_half (x : Nat) : blen (x / 2) = blen x - 1 := by
  unfold blen
  by_cases h0 : x = 0
  · subst h0; rfl
  · by_cases h1 : x / 2 = 0
    · rw [if_pos h1, if_neg h0]
      have : x = 1 := by omega
      subst this; decide
    · rw [if_neg h1, if_neg h0, Nat.log2_def x, if_pos (by omega)]; omega

theorem qAt_blen (num den : Nat) (j : Nat) : blen (qAt num den (eBeg num den + j)) = blen (qAt num den (eBeg num den)) - j := by
  induction j with
  | zero => rw [Int.natCast_zero, Int.add_zero, Nat.sub_zero]
  | succ j ih =>
    rw [show eBeg num den + ((j + 1 : Nat) : Int) = eBeg num den + (j : Int) + 1 by omega, qAt_succ, blen_half, ih]; omega

theorem blen_le_of_lt {x k : Nat} (h : x < 2 ^ k) : blen x ≤ k := by
  unfold blen
  split
  · omega
  · rename_i h0
    have := (Nat.log2_lt (k := k) h0).2 h; omega

theorem blen_ge {x : Nat} (h : x ≠ 0) : 2 ^ (blen x - 1) ≤ x := by
  unfold blen
  rw [if_neg h, Nat.add_sub_cancel]
  exact Nat.log2_self_le h

theorem blen_lt_pow (x : Nat) : x < 2 ^ blen x := lt_two_blen x

theorem qAt_beg (num den : Nat) (hd : den ≠ 0) : blen (qAt num den (eBeg num den)) ≤ 55 := by
  apply blen_le_of_lt
  unfold qAt
  have h1 := blen_lt_pow num
  have h2 := blen_ge hd
  have h3 : 1 ≤ blen den := by unfold blen; rw [if_neg hd]; omega
  have he : (blen num : Int) - blen den - 54 ≤ eBeg num den := by unfold eBeg; omega
  generalize eBeg num den = e at *
  rw [Nat.div_lt_iff_lt_mul (Nat.mul_pos (Nat.pos_of_ne_zero hd) (Nat.two_pow_pos _))]
  have h4 : num * 2 ^ (-e).toNat < 2 ^ (blen num + (-e).toNat) := by
    rw [Nat.pow_add]; exact Nat.mul_lt_mul_of_pos_right h1 (Nat.two_pow_pos _)
  have h5 : 2 ^ (blen den - 1 + e.toNat + 55) ≤ 2 ^ 55 * (den * 2 ^ e.toNat) := by
    rw [Nat.pow_add, Nat.pow_add, Nat.mul_comm]
    exact Nat.mul_le_mul_left _ (Nat.mul_le_mul_right _ h2)
  have h6 : 2 ^ (blen num + (-e).toNat) ≤ 2 ^ (blen den - 1 + e.toNat + 55) := Nat.pow_le_pow_right (by decide) (by omega)
  omega

theorem qAt_end (num den : Nat) : qAt num den (eEnd num den) < 9007199254740992 := by
  have h := qAt_blen num den (blen (qAt num den (eBeg num den)) - 53)
  have h2 : blen (qAt num den (eEnd num den)) ≤ 53 := by unfold eEnd; rw [h]; omega
  have h3 := blen_lt_pow (qAt num den (eEnd num den))
  have h4 : 2 ^ blen (qAt num den (eEnd num den)) ≤ 2 ^ 53 := Nat.pow_le_pow_right (by decide) h2
  omega

theorem rnd_le (a b : Nat) : rnd a b ≤ a / b + 1 := by unfold rnd; split <;> omega

theorem rnd_end (num den : Nat) : rnd (num * 2 ^ (-eEnd num den).toNat) (den * 2 ^ (eEnd num den).toNat) ≤ 9007199254740992 := by
  have h1 := rnd_le (num * 2 ^ (-eEnd num den).toNat) (den * 2 ^ (eEnd num den).toNat)
  have h2 := qAt_end num den
  unfold qAt at h2
  omega

end Go.Proofs.YtifcibbhblhfiaaGreatDoor.Pl
