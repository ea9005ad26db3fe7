/- Walks of package nat: comparing, counting bits. -/
import Derived.Test.YtifcibbhblhfiaaGreatDoorNatA
namespace Go.Proofs.YtifcibbhblhfiaaGreatDoor
open Go.RowKit Pl
set_option linter.unusedVariables false

set_option maxHeartbeats 400000 in
theorem cmp_any (A B : Option Addr) (c d : Nat) (a b : Nat) (w : World) (h : Rd w A (limbs a)) (hm : Rd w B (limbs b)) (hn : (limbs a).length ≤ 65535) (hk : (limbs b).length ≤ 65535) :
    Calls Tryz.prog 99 #[.slice A (limbs a).length c, .slice B (limbs b).length d] w fun e w' => e = .returned (.int .i64 (cmpN a b)) ∧ ∃ n, w' = w.drewN n := by
  have HA := Lib.hid h; have HB := Lib.hid hm; clear h hm
  have la := Lib.hid (val_limbs a); have lb := Lib.hid (val_limbs b)
  have ga := Lib.hid (limbs_good a); have gb := Lib.hid (limbs_good b)
  by_cases hlen : (limbs a).length = (limbs b).length
  · have hlen' : (((limbs a).length : Int) != ((limbs b).length : Int)) = false := by simp [hlen]
    have HL := Lib.hid hlen; clear hlen
    generalize limbs a = l at *
    generalize limbs b = m at *
    go_enter Tryz.func99, Tryz.ntmps99
    go_wp2
    go_loopw [5] (fun v wr => ∃ k : Nat, k ≤ l.length ∧ v = .int .i64 ((k : Int) - 1) ∧ Hid (∀ j, k ≤ j → j < l.length → rd l j = rd m j) ∧ Hid (∃ n, wr = w.drewN n)) (fun v _ => (intOf v + 1).toNat)
    case atStart => exact ⟨_, Nat.le_refl _, rfl, fun j h1 h2 => absurd h2 (by omega), ⟨0, rfl⟩⟩
    case round =>
      obtain ⟨k, hk, rfl, hz, hw⟩ := hrel
      obtain ⟨n, rfl⟩ := hw.out
      by_cases h0 : k = 0
      · subst h0
        have he : cmpN a b = 0 := cmpN_eq (by rw [← la.out, ← lb.out]; have := drop_same HL.out 0 hz.out; simpa using congrArg val this)
        have HE := Lib.hid he; clear he
        go_wp2
        go_ret
        exact ⟨by rw [HE.out]; rfl, _, rfl⟩
      · obtain ⟨k, rfl⟩ : ∃ j, k = j + 1 := ⟨k - 1, by omega⟩
        rw [show (((k + 1 : Nat) : Int) - 1) = (k : Int) by omega]
        obtain ⟨b1, o1, rfl, hb1, hc1⟩ := HA.out k (by omega)
        obtain ⟨b2, o2, rfl, hb2, hc2⟩ := HB.out k (by rw [← HL.out]; omega)
        have hk' : k < l.length := by omega
        have hk2 : k < m.length := by rw [← HL.out]; omega
        have HX1 := Lib.hid hb1; have HX2 := Lib.hid hb2; clear hb1 hb2
        by_cases hr : rd l k = rd m k
        · have hr' : ((rd l k : Int) != (rd m k : Int)) = false := by rw [hr]; simp
          have HR := Lib.hid hr; clear hr
          go_wp2
          go_quiet (fail)
          go_wp2
          go_roundw
          case rel => exact ⟨k, by omega, rfl, fun j h1 h2 => by
                              by_cases hj : j = k
                              · subst hj; exact HR.out
                              · exact hz.out j (by omega) h2, ⟨_, rfl⟩⟩
          case measure => simp [intOf]
        · have hr' : ((rd l k : Int) != (rd m k : Int)) = true := by simp; omega
          have hab : ∀ j, k + 1 ≤ j → j < l.length → rd l j = rd m j := fun j h1 h2 => hz.out j (by omega) h2
          by_cases hlt : rd l k < rd m k
          · have he : cmpN a b = -1 := cmpN_lt (by have := cmp_at ga.out HL.out k (by omega) hab hlt; rwa [la.out, lb.out] at this)
            have HE := Lib.hid he; clear he hab
            go_wp2
            go_quiet (fail)
            go_wp2
            go_quiet (fail)
            go_wp2
            go_ret
            exact ⟨by rw [HE.out]; rfl, _, by rw [World.drewN_drewN, World.drewN_drewN]⟩
          · have he : cmpN a b = 1 := cmpN_gt (by have := cmp_at gb.out HL.out.symm k (by rw [← HL.out]; omega) (fun j h1 h2 => (hab j h1 (by rw [HL.out]; exact h2)).symm) (by omega); rwa [la.out, lb.out] at this)
            have HE := Lib.hid he; clear he hab
            go_wp2
            go_quiet (fail)
            go_wp2
            go_quiet (fail)
            go_wp2
            go_ret
            exact ⟨by rw [HE.out]; rfl, _, by rw [World.drewN_drewN, World.drewN_drewN]⟩
  · have hlen' : (((limbs a).length : Int) != ((limbs b).length : Int)) = true := by simp; omega
    have he : cmpN a b = if (limbs a).length < (limbs b).length then -1 else 1 := by
      split
      · exact cmpN_lt (limbs_length_lt_lt ‹_›)
      · exact cmpN_gt (limbs_length_lt_lt (by omega))
    have HE := Lib.hid he; clear he
    generalize limbs a = l at *
    generalize limbs b = m at *
    by_cases hlt : l.length < m.length
    all_goals
      go_enter Tryz.func99, Tryz.ntmps99
      go_wp2
      go_ret
      refine ⟨?_, 0, rfl⟩
      rw [HE.out]
      first | rw [if_pos hlt] | rw [if_neg hlt]
      rfl



/-- How many bits a natural has. -/
def blen (n : Nat) : Nat := if n = 0 then 0 else n.log2 + 1

theorem bitLen_blen (n : Nat) (h : n < 4294967296) : Lib.bitLen n = blen n := by
  induction n using Nat.strongRecOn with
  | _ n ih =>
    by_cases h0 : n = 0
    · subst h0; decide
    · rw [Lib.bitLen_half n h0 (by omega), ih (n / 2) (by omega) (by omega)]
      unfold blen
      rw [if_neg h0]
      by_cases h1 : n / 2 = 0
      · have : n = 1 := by omega
        subst this; decide
      · rw [if_neg h1, Nat.log2_def n, if_pos (by omega)]; omega

theorem blen_le_32 {x : Nat} (hx : x < 4294967296) : blen x ≤ 32 := by
  unfold blen
  split
  · omega
  · rename_i h
    have := (Nat.log2_lt (k := 32) h).2 (by omega); omega

theorem blen_add (hi lo k : Nat) (hh : hi ≠ 0) (hl : lo < 2 ^ k) : blen (lo + 2 ^ k * hi) = k + blen hi := by
  have hp : 0 < 2 ^ k := Nat.two_pow_pos k
  have hne : lo + 2 ^ k * hi ≠ 0 := by
    have : 0 < 2 ^ k * hi := Nat.mul_pos hp (by omega)
    omega
  unfold blen
  rw [if_neg hne, if_neg hh]
  have : (lo + 2 ^ k * hi).log2 = k + hi.log2 := by
    rw [Nat.log2_eq_iff hne]
    have h1 := Nat.log2_self_le hh
    have h2 := @Nat.lt_log2_self hi
    constructor
    · rw [Nat.pow_add]
      exact Nat.le_trans (Nat.mul_le_mul_left _ h1) (Nat.le_add_left _ _)
    · rw [Nat.add_assoc, Nat.pow_add]
      have : 2 ^ k * (hi + 1) ≤ 2 ^ k * 2 ^ (hi.log2 + 1) := Nat.mul_le_mul_left _ h2
      rw [Nat.mul_add] at this
      omega
  omega

theorem two_pow_32 (k : Nat) : 4294967296 ^ k = 2 ^ (32 * k) := by rw [Nat.pow_mul]

theorem blen_limbs (n : Nat) (h : (limbs n).length ≠ 0) : blen n = 32 * ((limbs n).length - 1) + blen (rd (limbs n) ((limbs n).length - 1)) := by
  have hne : limbs n ≠ [] := fun e => h (by rw [e]; rfl)
  have h1 := split_at (limbs n) ((limbs n).length - 1) (by omega)
  have hr : rd (limbs n) ((limbs n).length - 1) ≠ 0 := by
    rw [rd_eq _ _ (by omega), ← List.getLast_eq_getElem hne]; exact limbs_last n hne
  have h2 := val_lt ((limbs_good n).take ((limbs n).length - 1))
  rw [List.length_take, Nat.min_eq_left (by omega)] at h2
  rw [val_limbs, show (limbs n).length - 1 + 1 = (limbs n).length by omega, List.drop_length, val, Nat.mul_zero, Nat.add_zero] at h1
  generalize rd (limbs n) ((limbs n).length - 1) = hi at *
  generalize val (List.take ((limbs n).length - 1) (limbs n)) = lo at *
  generalize (limbs n).length - 1 = k at *
  rw [two_pow_32] at h1 h2
  rw [h1, blen_add hi lo _ hr h2]

set_option maxHeartbeats 400000 in
theorem bits_any (A : Option Addr) (c n : Nat) (w : World) (h : Rd w A (limbs n)) (hn : (limbs n).length ≤ 65535) :
    Calls Tryz.prog 88 #[.slice A (limbs n).length c] w fun e w' => e = .returned (.int .i64 (blen n)) ∧ w = w' := by
  by_cases h0 : (limbs n).length = 0
  · have he : blen n = 0 := by
      have := (limbs_nil_iff n).1 (List.eq_nil_of_length_eq_zero h0)
      subst this; rfl
    have HE := Lib.hid he; clear he
    rw [h0]; clear h hn h0
    go_enter Tryz.func88, Tryz.ntmps88
    go_wp2
    go_ret
    exact ⟨by rw [HE.out]; rfl, rfl⟩
  · obtain ⟨b, o, rfl, hb, hcell⟩ := h ((limbs n).length - 1) (by omega)
    have he := blen_limbs n h0
    have hx := rd_lt (limbs_good n) ((limbs n).length - 1)
    have h0' : (((limbs n).length : Int) == 0) = false := beq_eq_false_iff_ne.2 (by omega)
    have hxb : blen (rd (limbs n) ((limbs n).length - 1)) ≤ 32 := by
      exact blen_le_32 hx
    have HL := Lib.hid (Tryz.bits_Len32 (rd (limbs n) ((limbs n).length - 1) : Int) w (by omega) (by omega))
    have HB := Lib.hid (bitLen_blen _ hx)
    have HE := Lib.hid he; clear he h hb
    generalize rd (limbs n) ((limbs n).length - 1) = x at *
    generalize (limbs n).length = k at *
    go_enter Tryz.func88, Tryz.ntmps88
    go_wp2_with fail
    refine HL.out.mono ?_
    rintro e w' ⟨rfl, rfl⟩
    rw [Int.toNat_natCast, HB.out]
    go_wp2
    go_ret
    refine ⟨ret_int ?_, rfl⟩
    rw [HE.out]
    omega

end Go.Proofs.YtifcibbhblhfiaaGreatDoor
