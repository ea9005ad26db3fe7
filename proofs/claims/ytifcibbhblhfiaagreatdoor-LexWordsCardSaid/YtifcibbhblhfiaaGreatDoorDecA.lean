/- Walks of package dec: powers of ten, shifting, rounding. -/
import Derived.Test.YtifcibbhblhfiaaGreatDoorNatJ
namespace Go.Proofs.YtifcibbhblhfiaaGreatDoor
open Go.RowKit Pl
set_option linter.unusedVariables false

def NatPost (w : World) (r : Nat) (e : Ending) (w' : World) : Prop :=
  ∃ A c, e = .returned (.slice A (limbs r).length c) ∧ Rd w' A (limbs r) ∧ Below w.heap.size w w'

set_option maxRecDepth 100000 in
set_option maxHeartbeats 400000 in
theorem pow10_any (K : Nat) (w : World) (hK : K ≤ 100000) (hn : (limbs (10 ^ K)).length ≤ 256) :
    Calls Tryz.prog 78 #[.int .i64 (K : Int)] w (NatPost w (10 ^ K)) := by
  have hsub : ∀ j, j ≤ K → (limbs (10 ^ (K - j))).length ≤ 256 := fun j hj => Nat.le_trans (limbs_length_mono (Nat.pow_le_pow_right (by decide) (by omega))) hn
  have HS := Lib.hid hsub
  clear hsub hn
  have h9 : (limbs 1000000000).length ≤ 256 := Nat.le_trans (limbs_length_le (k := 1) (by decide)) (by decide)
  have hten : (limbs 10).length ≤ 256 := Nat.le_trans (limbs_length_le (k := 1) (by decide)) (by decide)
  have H9 := Lib.hid h9; have HTEN := Lib.hid hten
  clear h9 hten
  have hf := Lib.hid (from_any 1 w (by decide))
  go_enter Tryz.func78, Tryz.ntmps78
  go_wp2_with fail
  refine hf.out.mono ?_
  rintro e w1 ⟨rfl, hr1, hb1⟩
  have HR1 := Lib.hid hr1; have HB1 := Lib.hid hb1
  clear hr1 hb1
  go_wp2
  go_loopw [0, 3] (fun vk vo wr => ∃ (j : Nat) (A : Option Addr) (c : Nat), j ≤ K ∧ vk = .int .i64 (j : Int) ∧ vo = .slice A (limbs (10 ^ (K - j))).length c ∧ Hid (Rd wr A (limbs (10 ^ (K - j)))) ∧ Hid (Below w.heap.size w wr)) (fun vk _ _ => (intOf vk).toNat)
  case atStart => exact ⟨K, _, _, Nat.le_refl _, rfl, by rw [Nat.sub_self, Nat.pow_zero], by rw [Nat.sub_self, Nat.pow_zero]; exact HR1.out, HB1.out⟩
  case round =>
    obtain ⟨j, A, c, hj, rfl, rfl, hr, hb⟩ := hrel
    by_cases h9 : 9 ≤ j
    · have hF := Lib.hid (from_any 1000000000 wr (by decide))
      have he : 10 ^ (K - j) * 1000000000 = 10 ^ (K - (j - 9)) := by
        rw [show K - (j - 9) = (K - j) + 9 by omega, Nat.pow_add]
      have HE := Lib.hid he; clear he
      go_wp2_with fail
      refine hF.out.mono ?_
      rintro e w2 ⟨rfl, hr2, hb2⟩
      have hm := mul_any A (some ⟨wr.heap.size, 0, none⟩) c 2 (10 ^ (K - j)) 1000000000 w2 (hr.out.below hb2) hr2 (HS.out j hj) H9.out (by rw [HE.out]; exact HS.out (j - 9) (by omega))
      rw [HE.out] at hm
      have HM := Lib.hid hm; have HB2 := Lib.hid hb2
      clear hm hr2 hb2
      go_wp2_with fail
      refine HM.out.mono ?_
      rintro e w3 ⟨A3, c3, rfl, _, hr3, hb3⟩
      have HR3 := Lib.hid hr3; have HBB := Lib.hid (hb.out.trans ((HB2.out.mono hb.out.size).trans (hb3.mono (Nat.le_trans hb.out.size HB2.out.size))))
      clear hr3 hb3
      go_wp2
      go_roundw
      case rel => exact ⟨j - 9, A3, c3, by omega, by rw [show ((j - 9 : Nat) : Int) = (j : Int) - 9 by omega], rfl, HR3.out, HBB.out⟩
      case measure => simp [intOf]; omega
    · go_wp2
      go_loopw [0, 3] (fun vk vo wr => ∃ (j : Nat) (A : Option Addr) (c : Nat), j ≤ K ∧ vk = .int .i64 (j : Int) ∧ vo = .slice A (limbs (10 ^ (K - j))).length c ∧ Hid (Rd wr A (limbs (10 ^ (K - j)))) ∧ Hid (Below w.heap.size w wr)) (fun vk _ _ => (intOf vk).toNat)
      case atStart => exact ⟨j, _, _, hj, rfl, rfl, hr, hb⟩
      case round =>
        clear hj hr hb h9
        obtain ⟨j, A, c, hj, rfl, rfl, hr, hb⟩ := hrel
        by_cases h0 : 0 < j
        · have hF := Lib.hid (from_any 10 wr (by decide))
          have he : 10 ^ (K - j) * 10 = 10 ^ (K - (j - 1)) := by
            rw [show K - (j - 1) = (K - j) + 1 by omega, Nat.pow_succ]
          have HE := Lib.hid he; clear he
          go_wp2_with fail
          refine hF.out.mono ?_
          rintro e w2 ⟨rfl, hr2, hb2⟩
          have hm := mul_any A (some ⟨wr.heap.size, 0, none⟩) c 2 (10 ^ (K - j)) 10 w2 (hr.out.below hb2) hr2 (HS.out j hj) HTEN.out (by rw [HE.out]; exact HS.out (j - 1) (by omega))
          rw [HE.out] at hm
          have HM := Lib.hid hm; have HB2 := Lib.hid hb2
          clear hm hr2 hb2
          go_wp2_with fail
          refine HM.out.mono ?_
          rintro e w3 ⟨A3, c3, rfl, _, hr3, hb3⟩
          have HR3 := Lib.hid hr3; have HBB := Lib.hid (hb.out.trans ((HB2.out.mono hb.out.size).trans (hb3.mono (Nat.le_trans hb.out.size HB2.out.size))))
          clear hr3 hb3
          go_wp2
          go_roundw
          case rel => exact ⟨j - 1, A3, c3, by omega, by rw [show ((j - 1 : Nat) : Int) = (j : Int) - 1 by omega], rfl, HR3.out, HBB.out⟩
          case measure => simp [intOf]; omega
        · obtain rfl : j = 0 := by omega
          have hr' := hr.out
          rw [Nat.sub_zero] at hr'
          have HRR := Lib.hid hr'; clear hr'
          go_wp2
          go_ret
          exact ⟨A, c, rfl, HRR.out, hb.out⟩

set_option maxHeartbeats 400000 in
theorem shifted_any (A : Option Addr) (c n : Nat) (k : Int) (w : World) (h : Rd w A (limbs n)) (h1 : (limbs n).length ≤ 256) (hk : k ≤ 8192) (hk2 : -8192 ≤ k) (hn : (limbs (n * 2 ^ k.toNat)).length ≤ 256) :
    Calls Tryz.prog 90 #[.slice A (limbs n).length c, .int .i64 k] w (NatPost w (n * 2 ^ k.toNat)) := by
  have hs := Lib.hid (shl_any A c n k.toNat w h h1 (by omega) hn)
  have hm : Hid (max k 0 = (k.toNat : Int)) := by show _ = _; omega
  go_enter Tryz.func90, Tryz.ntmps90
  go_wp2_with fail
  rw [hm.out]
  refine hs.out.mono ?_
  rintro e w' ⟨A', c', rfl, _, hr, hb⟩
  have HR := Lib.hid hr; have HB := Lib.hid hb
  clear hr hb
  go_wp2
  go_ret
  exact ⟨A', c', rfl, HR.out, HB.out⟩

/-- The quotient to the nearest, ties to the even one. -/
def rnd (a b : Nat) : Nat := if b < a % b * 2 ∨ (a % b * 2 = b ∧ a / b % 2 = 1) then a / b + 1 else a / b

theorem and_one_int (x : Nat) (hx : x < 4294967296) : bits BinOp.and IntKind.u32 (x : Int) 1 = ((x % 2 : Nat) : Int) := by
  rw [show (1 : Int) = ((1 : Nat) : Int) from rfl, u32_and_nat _ 1 hx (by decide), nat_mask1]

theorem rd_zero_limbs (n : Nat) : rd (limbs n) 0 = n % 4294967296 := by
  by_cases h : n = 0
  · subst h; rw [limbs_zero]; rfl
  · rw [limbs_pos h]; rfl

set_option maxRecDepth 100000 in
set_option maxHeartbeats 2000000 in
theorem rounded_any (A B : Option Addr) (c d n m : Nat) (w : World) (h : Rd w A (limbs n)) (hm : Rd w B (limbs m)) (h1 : (limbs (n + 1)).length ≤ 256) (h2 : (limbs (m * 2)).length ≤ 256) (hm0 : m ≠ 0) :
    Calls Tryz.prog 92 #[.slice A (limbs n).length c, .slice B (limbs m).length d] w (NatPost w (rnd n m)) := by
  have hdv := Lib.hid (div_any A B c d n m w h hm (Nat.le_trans (limbs_length_mono (by omega)) h1) (Nat.le_trans (limbs_length_mono (by omega)) h2) hm0)
  have hrl : (limbs (n % m)).length ≤ 256 := Nat.le_trans (limbs_length_mono (by have := Nat.mod_lt n (Nat.pos_of_ne_zero hm0); omega)) h2
  have htl : (limbs (n % m * 2 ^ (1 : Int).toNat)).length ≤ 256 := Nat.le_trans (limbs_length_mono (by have := Nat.mod_lt n (Nat.pos_of_ne_zero hm0); show n % m * 2 ^ 1 ≤ _; omega)) h2
  have hql : (limbs (n / m + 1)).length ≤ 256 := Nat.le_trans (limbs_length_mono (by have := Nat.div_le_self n m; omega)) h1
  have hml : (limbs m).length ≤ 65535 := Nat.le_trans (limbs_length_mono (show m ≤ m * 2 by omega)) (by omega)
  have hB := Lib.hid hm
  have HRL := Lib.hid hrl; have HTL := Lib.hid htl; have HQL := Lib.hid hql; have HML := Lib.hid hml
  have hpar : (limbs (n / m)).length = 0 ∧ n / m % 2 = 0 ∨ 0 < (limbs (n / m)).length ∧ n / m % 2 = 0 ∨ 0 < (limbs (n / m)).length ∧ n / m % 2 = 1 := by
    by_cases hz : (limbs (n / m)).length = 0
    · have := (limbs_nil_iff (n / m)).1 (List.eq_nil_of_length_eq_zero hz); omega
    · omega
  have hd0 : rd (limbs (n / m)) 0 % 2 = n / m % 2 := by rw [rd_zero_limbs]; omega
  have HD0 := Lib.hid hd0
  have hrd := rd_lt (limbs_good (n / m)) 0
  clear h hm h1 h2 hrl htl hql hml hd0
  go_enter Tryz.func92, Tryz.ntmps92
  go_wp2_with fail
  refine hdv.out.mono ?_
  rintro e w1 ⟨A1, c1, B1, d1, rfl, hr1, hr2, hb1⟩
  have HR1 := Lib.hid hr1; have HB1 := Lib.hid hb1; have HR2 := Lib.hid hr2
  clear hr1 hb1 hr2
  go_wp2_with fail
  refine (shifted_any B1 d1 (n % m) 1 w1 HR2.out HRL.out (by omega) (by omega) HTL.out).mono ?_
  rintro e w2 ⟨A2, c2, rfl, hr3, hb3⟩
  have HR3 := Lib.hid hr3; have HB3 := Lib.hid hb3
  have HQ2 := Lib.hid (HR1.out.below hb3)
  have HM2 := Lib.hid ((hB.out.below HB1.out).below hb3)
  have HBB := Lib.hid (HB1.out.trans (hb3.mono HB1.out.size))
  clear hr3 hb3
  have hcmp := Lib.hid (cmp_any A2 B c2 d (n % m * 2 ^ (1 : Int).toNat) m w2 HR3.out HM2.out (Nat.le_trans HTL.out (by decide)) HML.out)
  have e2 : Hid (n % m * 2 ^ (1 : Int).toNat = n % m * 2) := rfl
  have hadd : ∀ w3, Below w2.heap.size w2 w3 → Hid (∀ w4, Below w3.heap.size w3 w4 → ∀ ad, Rd w4 ad (limbs 1) → Calls Tryz.prog 102 #[.slice A1 (limbs (n / m)).length c1, .slice ad (limbs 1).length 2] w4 (AddPost w4 (n / m + 1))) :=
    fun w3 h3 w4 h4 ad hr => add_any A1 ad c1 2 (n / m) 1 w4 ((HQ2.out.below h3).below h4) hr HQL.out
  have HADD := Lib.hid hadd; clear hadd
  rcases hpar with ⟨p1, p2⟩ | ⟨p1, p2⟩ | ⟨p1, p2⟩
  · have HP2 := Lib.hid p2
    have HZ := Lib.hid p1
    rw [p1]
    clear p2
    go_wp2_with fail
    refine hcmp.out.mono ?_
    rintro e w3 ⟨rfl, nq, rfl⟩
    rw [e2.out]
    rcases Nat.lt_trichotomy m (n % m * 2) with hl | hl | hl
    · rw [cmpN_gt hl]
      have HL := Lib.hid hl; clear hl
      go_wp2_with fail
      refine (from_any 1 (w2.drewN nq) (by decide)).mono ?_
      rintro e w4 ⟨rfl, hr4, hb4⟩
      have hr4' : Rd w4 (some ⟨w2.heap.size, 0, none⟩) (limbs 1) := hr4
      have ha := HADD.out (w2.drewN nq) (below_drewN (Below.refl _ _) nq) w4 hb4 (some ⟨w2.heap.size, 0, none⟩) hr4'
      rw [HZ.out] at ha
      have HA := Lib.hid ha; have HB4 := Lib.hid hb4
      clear ha hr4 hr4' hb4
      go_wp2_with fail
      refine HA.out.mono ?_
      rintro e w5 ⟨A5, c5, rfl, _, hr5, hb5⟩
      have HR5 := Lib.hid hr5
      have HB5 := Lib.hid (HBB.out.trans (((below_drewN (Below.refl w2.heap.size w2) nq).trans (HB4.out.trans (hb5.mono HB4.out.size))).mono HBB.out.size))
      clear hr5 hb5
      go_wp2
      go_ret
      have e : rnd n m = n / m + 1 := by unfold rnd; rw [if_pos (Or.inl HL.out)]
      unfold NatPost
      rw [e]
      exact ⟨A5, c5, rfl, HR5.out, HB5.out⟩
    · rw [cmpN_eq hl.symm]
      have HL := Lib.hid hl; clear hl
      go_wp2
      go_ret
      have e : rnd n m = n / m := by unfold rnd; rw [if_neg (by have := HP2.out; have := HL.out; omega)]
      unfold NatPost
      rw [e, HZ.out]
      exact ⟨_, c1, rfl, HQ2.out.below (below_drewN (Below.refl _ _) nq), below_drewN HBB.out nq⟩
    · rw [cmpN_lt hl]
      have HL := Lib.hid hl; clear hl
      go_wp2
      go_ret
      have e : rnd n m = n / m := by unfold rnd; rw [if_neg (by have := HP2.out; have := HL.out; omega)]
      unfold NatPost
      rw [e, HZ.out]
      exact ⟨_, c1, rfl, HQ2.out.below (below_drewN (Below.refl _ _) nq), below_drewN HBB.out nq⟩
  · have HP2 := Lib.hid p2
    have hbq := and_one_int _ hrd
    rw [HD0.out, p2] at hbq
    obtain ⟨qb, qo, rfl, hqlt, hqc⟩ := HQ2.out 0 p1
    rw [Nat.add_zero] at hqc
    have HX := Lib.hid hqlt; clear hqlt
    clear p2
    go_wp2_with fail
    refine hcmp.out.mono ?_
    rintro e w3 ⟨rfl, nq, rfl⟩
    rw [e2.out]
    rcases Nat.lt_trichotomy m (n % m * 2) with hl | hl | hl
    · rw [cmpN_gt hl]
      have HL := Lib.hid hl; clear hl
      go_wp2_with fail
      refine (from_any 1 (w2.drewN nq) (by decide)).mono ?_
      rintro e w4 ⟨rfl, hr4, hb4⟩
      have hr4' : Rd w4 (some ⟨w2.heap.size, 0, none⟩) (limbs 1) := hr4
      have ha := HADD.out (w2.drewN nq) (below_drewN (Below.refl _ _) nq) w4 hb4 (some ⟨w2.heap.size, 0, none⟩) hr4'
      have HA := Lib.hid ha; have HB4 := Lib.hid hb4
      clear ha hr4 hr4' hb4
      go_wp2_with fail
      refine HA.out.mono ?_
      rintro e w5 ⟨A5, c5, rfl, _, hr5, hb5⟩
      have HR5 := Lib.hid hr5
      have HB5 := Lib.hid (HBB.out.trans (((below_drewN (Below.refl w2.heap.size w2) nq).trans (HB4.out.trans (hb5.mono HB4.out.size))).mono HBB.out.size))
      clear hr5 hb5
      go_wp2
      go_ret
      have e : rnd n m = n / m + 1 := by unfold rnd; rw [if_pos (Or.inl HL.out)]
      unfold NatPost
      rw [e]
      exact ⟨A5, c5, rfl, HR5.out, HB5.out⟩
    · rw [cmpN_eq hl.symm]
      have HL := Lib.hid hl; clear hl
      go_wp2
      go_ret
      have e : rnd n m = n / m := by unfold rnd; rw [if_neg (by have := HP2.out; have := HL.out; omega)]
      unfold NatPost
      rw [e]
      exact ⟨_, c1, rfl, HQ2.out.below (below_drewN (Below.refl _ _) nq), below_drewN HBB.out nq⟩
    · rw [cmpN_lt hl]
      have HL := Lib.hid hl; clear hl
      go_wp2
      go_ret
      have e : rnd n m = n / m := by unfold rnd; rw [if_neg (by have := HP2.out; have := HL.out; omega)]
      unfold NatPost
      rw [e]
      exact ⟨_, c1, rfl, HQ2.out.below (below_drewN (Below.refl _ _) nq), below_drewN HBB.out nq⟩
  · have HP2 := Lib.hid p2
    have hbq := and_one_int _ hrd
    rw [HD0.out, p2] at hbq
    obtain ⟨qb, qo, rfl, hqlt, hqc⟩ := HQ2.out 0 p1
    rw [Nat.add_zero] at hqc
    have HX := Lib.hid hqlt; clear hqlt
    clear p2
    go_wp2_with fail
    refine hcmp.out.mono ?_
    rintro e w3 ⟨rfl, nq, rfl⟩
    rw [e2.out]
    rcases Nat.lt_trichotomy m (n % m * 2) with hl | hl | hl
    · rw [cmpN_gt hl]
      have HL := Lib.hid hl; clear hl
      go_wp2_with fail
      refine (from_any 1 (w2.drewN nq) (by decide)).mono ?_
      rintro e w4 ⟨rfl, hr4, hb4⟩
      have hr4' : Rd w4 (some ⟨w2.heap.size, 0, none⟩) (limbs 1) := hr4
      have ha := HADD.out (w2.drewN nq) (below_drewN (Below.refl _ _) nq) w4 hb4 (some ⟨w2.heap.size, 0, none⟩) hr4'
      have HA := Lib.hid ha; have HB4 := Lib.hid hb4
      clear ha hr4 hr4' hb4
      go_wp2_with fail
      refine HA.out.mono ?_
      rintro e w5 ⟨A5, c5, rfl, _, hr5, hb5⟩
      have HR5 := Lib.hid hr5
      have HB5 := Lib.hid (HBB.out.trans (((below_drewN (Below.refl w2.heap.size w2) nq).trans (HB4.out.trans (hb5.mono HB4.out.size))).mono HBB.out.size))
      clear hr5 hb5
      go_wp2
      go_ret
      have e : rnd n m = n / m + 1 := by unfold rnd; rw [if_pos (Or.inl HL.out)]
      unfold NatPost
      rw [e]
      exact ⟨A5, c5, rfl, HR5.out, HB5.out⟩
    · rw [cmpN_eq hl.symm]
      have HL := Lib.hid hl; clear hl
      go_wp2_with fail
      refine (from_any 1 (w2.drewN nq) (by decide)).mono ?_
      rintro e w4 ⟨rfl, hr4, hb4⟩
      have hr4' : Rd w4 (some ⟨w2.heap.size, 0, none⟩) (limbs 1) := hr4
      have ha := HADD.out (w2.drewN nq) (below_drewN (Below.refl _ _) nq) w4 hb4 (some ⟨w2.heap.size, 0, none⟩) hr4'
      have HA := Lib.hid ha; have HB4 := Lib.hid hb4
      clear ha hr4 hr4' hb4
      go_wp2_with fail
      refine HA.out.mono ?_
      rintro e w5 ⟨A5, c5, rfl, _, hr5, hb5⟩
      have HR5 := Lib.hid hr5
      have HB5 := Lib.hid (HBB.out.trans (((below_drewN (Below.refl w2.heap.size w2) nq).trans (HB4.out.trans (hb5.mono HB4.out.size))).mono HBB.out.size))
      clear hr5 hb5
      go_wp2
      go_ret
      have e : rnd n m = n / m + 1 := by unfold rnd; rw [if_pos (Or.inr ⟨HL.out.symm, HP2.out⟩)]
      unfold NatPost
      rw [e]
      exact ⟨A5, c5, rfl, HR5.out, HB5.out⟩
    · rw [cmpN_lt hl]
      have HL := Lib.hid hl; clear hl
      go_wp2
      go_ret
      have e : rnd n m = n / m := by unfold rnd; rw [if_neg (by have := HP2.out; have := HL.out; omega)]
      unfold NatPost
      rw [e]
      exact ⟨_, c1, rfl, HQ2.out.below (below_drewN (Below.refl _ _) nq), below_drewN HBB.out nq⟩

end Go.Proofs.YtifcibbhblhfiaaGreatDoor
