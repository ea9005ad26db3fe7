/- Walks of package dec: the nearest float. -/
import Derived.Test.YtifcibbhblhfiaaGreatDoorDecP
import Derived.Laws.Externs
namespace Go.Proofs.YtifcibbhblhfiaaGreatDoor
open Go.RowKit Pl
set_option linter.unusedVariables false

theorem frombits_run (n : Int) (w : World) : (callFunc 83 #[.int .u64 n]).run Tryz.prog w = .ok (.value (.float .f64 n.toNat)) w := by
  rw [run_callFunc_extern Tryz.func83 (by kernel_rfl) (by kernel_rfl) (by kernel_rfl) (e := Extern.MathFloatBits.float64frombits) (by kernel_rfl)]
  rfl

theorem bits_run (n : Nat) (w : World) : (callFunc 34 #[.float .f64 n]).run Tryz.prog w = .ok (.value (.int .u64 (n : Int))) w := by
  rw [run_callFunc_extern Tryz.func34 (by kernel_rfl) (by kernel_rfl) (by kernel_rfl) (e := Extern.MathFloatBits.float64bits) (by kernel_rfl)]
  rfl

set_option maxHeartbeats 400000 in
theorem inf_any (w : World) : Calls Tryz.prog 75 #[.int .i64 1] w fun e w' => e = .returned (.float .f64 9218868437227405312) ∧ w = w' := by
  have hf := frombits_run 9218868437227405312
  go_enter Tryz.func75, Tryz.ntmps75
  go_wp2
  go_ret
  exact ⟨rfl, rfl⟩


theorem frombits_nat (n : Nat) (w : World) : (callFunc 83 #[.int .u64 (n : Int)]).run Tryz.prog w = .ok (.value (.float .f64 n)) w := by
  have := frombits_run (n : Int) w
  rwa [Int.toNat_natCast] at this

theorem ret_float {a b : Nat} (h : a = b) : Ending.returned (.float .f64 a) = .returned (.float .f64 b) := by rw [h]

theorem min_big (E R : Nat) : (min ((E : Int) * 4503599627370496 + (R : Int)) 9218868437227405312).toNat = min (E * 4503599627370496 + R) 9218868437227405312 := by omega

set_option maxRecDepth 100000 in
set_option maxHeartbeats 2000000 in
theorem nearest_any (A B : Option Addr) (c d num den : Nat) (w : World) (h : Rd w A (limbs num)) (hm : Rd w B (limbs den)) (hb : blen num ≤ blen den + 1090) (hd0 : den ≠ 0)
    (h1 : ∀ k, k ≤ 1074 → (limbs (num * 2 ^ k + 1)).length ≤ 256) (h2 : ∀ k, k ≤ 1040 → (limbs (den * 2 ^ k)).length ≤ 256) :
    Calls Tryz.prog 79 #[.slice A (limbs num).length c, .slice B (limbs den).length d] w fun e w' => e = .returned (.float .f64 (nearestBits num den)) ∧ Below w.heap.size w w' := by
  have hnl : (limbs num).length ≤ 256 := Nat.le_trans (limbs_length_mono (by rw [Nat.pow_zero]; omega)) (h1 0 (by decide))
  have hdl : (limbs den).length ≤ 256 := Nat.le_trans (limbs_length_mono (by rw [Nat.pow_zero]; omega)) (h2 0 (by decide))
  have hb1 := Lib.hid (bits_any A c num w h (by omega))
  have hb2 := Lib.hid (bits_any B d den w hm (by omega))
  have hbl1 : blen num ≤ 8192 := Nat.le_trans (blen_le num) (by omega)
  have hbl2 : blen den ≤ 8192 := Nat.le_trans (blen_le den) (by omega)
  have he0 : max ((blen num : Int) - blen den - 54) (-1074) = eBeg num den := rfl
  have hE1 : -1074 ≤ eBeg num den := by unfold eBeg; omega
  have hE2 : eBeg num den ≤ 1036 := by unfold eBeg; omega
  have hq := qAt_beg num den hd0
  have hF1 : eBeg num den ≤ eEnd num den := by unfold eEnd; omega
  have hF2 : eEnd num den ≤ 1038 := by unfold eEnd; omega
  have hup : ∀ e : Int, -1074 ≤ e → (limbs (num * 2 ^ (-e).toNat + 1)).length ≤ 256 := fun e he => h1 _ (by omega)
  have hdn : ∀ e : Int, e ≤ 1038 → (limbs (den * 2 ^ e.toNat * 2)).length ≤ 256 := fun e he => by
    rw [Nat.mul_assoc, ← Nat.pow_succ]; exact h2 _ (by omega)
  have HUP := Lib.hid hup; have HDN := Lib.hid hdn; have HA := Lib.hid h; have HB := Lib.hid hm; have HQ := Lib.hid hq
  have HE0 := Lib.hid he0
  clear hup hdn h1 h2 h hm hq he0
  go_enter Tryz.func79, Tryz.ntmps79
  go_wp2_with fail
  refine hb1.out.mono ?_
  rintro e w' ⟨rfl, rfl⟩
  go_wp2_with fail
  refine hb2.out.mono ?_
  rintro e w' ⟨rfl, rfl⟩
  go_wp2_with fail
  rw [HE0.out]
  refine (shifted_any A c num (-(eBeg num den)) w (HA.out.below (Below.refl w.heap.size w)) hnl (by omega) (by omega) (Nat.le_trans (limbs_length_mono (Nat.le_succ _)) (HUP.out (eBeg num den) (by omega)))).mono ?_
  rintro e w1a ⟨A1, c1, rfl, hr1a, hb1a⟩
  have HR1a := Lib.hid hr1a; have HB1a := Lib.hid hb1a
  clear hr1a hb1a
  go_wp2_with fail
  refine (shifted_any B d den (eBeg num den) w1a (HB.out.below HB1a.out) hdl (by omega) (by omega) (Nat.le_trans (limbs_length_mono (Nat.le_mul_of_pos_right _ (by decide))) (HDN.out (eBeg num den) (by omega)))).mono ?_
  rintro e w1b ⟨B1, d1, rfl, hr1b, hb1b⟩
  have HR1b := Lib.hid hr1b; have HB1b := Lib.hid (HB1a.out.trans (hb1b.mono HB1a.out.size)); have HR1c := Lib.hid (HR1a.out.below hb1b)
  clear hr1b hb1b
  go_wp2_with fail
  refine (div_any A1 B1 c1 d1 _ _ w1b HR1c.out HR1b.out (Nat.le_trans (limbs_length_mono (Nat.le_succ _)) (HUP.out (eBeg num den) (by omega))) (Nat.le_trans (limbs_length_mono (Nat.le_mul_of_pos_right _ (by decide))) (HDN.out (eBeg num den) (by omega))) (Nat.mul_ne_zero hd0 (Nat.ne_of_gt (Nat.two_pow_pos _)))).mono ?_
  rintro e w1c ⟨Aq1, cq1, Br1, dr1, rfl, hq1, _, hbd1⟩
  have HQ1 := Lib.hid hq1; have HBD1 := Lib.hid (HB1b.out.trans (hbd1.mono HB1b.out.size))
  clear hq1 hbd1
  go_wp2
  go_loopw [5, 6] (fun ve vq wr => ∃ (e : Int) (A' : Option Addr) (c' : Nat), ve = .int .i64 e ∧ eBeg num den ≤ e ∧ e ≤ eEnd num den ∧ vq = .slice A' (limbs (qAt num den e)).length c' ∧ Hid (Rd wr A' (limbs (qAt num den e))) ∧ Hid (Below w.heap.size w wr)) (fun ve _ _ => (eEnd num den - intOf ve).toNat)
  case atStart => exact ⟨eBeg num den, Aq1, cq1, rfl, Int.le_refl _, hF1, rfl, HQ1.out, HBD1.out⟩
  case round =>
    obtain ⟨e, A', c', rfl, he1, he2, rfl, hr, hbw⟩ := hrel
    have hql : (limbs (qAt num den e)).length ≤ 65535 := by
      have : qAt num den e ≤ num * 2 ^ (-e).toNat + 1 := Nat.le_trans (Nat.div_le_self _ _) (Nat.le_succ _)
      exact Nat.le_trans (limbs_length_mono this) (Nat.le_trans (HUP.out e (by omega)) (by decide))
    have hbq := Lib.hid (bits_any A' c' (qAt num den e) wr hr.out hql)
    have hbl := qAt_blen num den (e - eBeg num den).toNat
    rw [show eBeg num den + ((e - eBeg num den).toNat : Int) = e by omega] at hbl
    have hee : eEnd num den = eBeg num den + ((blen (qAt num den (eBeg num den)) - 53 : Nat) : Int) := rfl
    by_cases hlt : e < eEnd num den
    · have hgt : 53 < blen (qAt num den e) := by omega
      have hle55 : blen (qAt num den e) ≤ 55 := by have := HQ.out; omega
      clear hbl hee
      go_wp2_with fail
      refine hbq.out.mono ?_
      rintro e' w' ⟨rfl, rfl⟩
      go_wp2_with fail
      refine (shifted_any A c num (-(e + 1)) wr (HA.out.below hbw.out) hnl (by omega) (by omega) (Nat.le_trans (limbs_length_mono (Nat.le_succ _)) (HUP.out (e + 1) (by omega)))).mono ?_
      rintro e w2a ⟨A2, c2, rfl, hr2a, hb2a⟩
      have HR2a := Lib.hid hr2a; have HB2a := Lib.hid ((hbw.out).trans (hb2a.mono (hbw.out).size))
      clear hr2a hb2a
      go_wp2_with fail
      refine (shifted_any B d den (e + 1) w2a (HB.out.below HB2a.out) hdl (by omega) (by omega) (Nat.le_trans (limbs_length_mono (Nat.le_mul_of_pos_right _ (by decide))) (HDN.out (e + 1) (by omega)))).mono ?_
      rintro e w2b ⟨B2, d2, rfl, hr2b, hb2b⟩
      have HR2b := Lib.hid hr2b; have HB2b := Lib.hid (HB2a.out.trans (hb2b.mono HB2a.out.size)); have HR2c := Lib.hid (HR2a.out.below hb2b)
      clear hr2b hb2b
      go_wp2_with fail
      refine (div_any A2 B2 c2 d2 _ _ w2b HR2c.out HR2b.out (Nat.le_trans (limbs_length_mono (Nat.le_succ _)) (HUP.out (e + 1) (by omega))) (Nat.le_trans (limbs_length_mono (Nat.le_mul_of_pos_right _ (by decide))) (HDN.out (e + 1) (by omega))) (Nat.mul_ne_zero hd0 (Nat.ne_of_gt (Nat.two_pow_pos _)))).mono ?_
      rintro e w2c ⟨Aq2, cq2, Br2, dr2, rfl, hq2, _, hbd2⟩
      have HQ2 := Lib.hid hq2; have HBD2 := Lib.hid (HB2b.out.trans (hbd2.mono HB2b.out.size))
      clear hq2 hbd2
      go_wp2
      go_roundw
      case rel => exact ⟨e + 1, Aq2, cq2, rfl, by omega, by omega, rfl, HQ2.out, HBD2.out⟩
      case measure => simp [intOf]; omega
    · obtain rfl : e = eEnd num den := by omega
      have hle53 : blen (qAt num den (eEnd num den)) ≤ 53 := by omega
      clear hbl hee
      go_wp2_with fail
      refine hbq.out.mono ?_
      rintro e' w' ⟨rfl, rfl⟩
      go_wp2_with fail
      refine (shifted_any A c num (-(eEnd num den)) wr (HA.out.below hbw.out) hnl (by omega) (by omega) (Nat.le_trans (limbs_length_mono (Nat.le_succ _)) (HUP.out (eEnd num den) (by omega)))).mono ?_
      rintro e w2a ⟨A2, c2, rfl, hr2a, hb2a⟩
      have HR2a := Lib.hid hr2a; have HB2a := Lib.hid ((hbw.out).trans (hb2a.mono (hbw.out).size))
      clear hr2a hb2a
      go_wp2_with fail
      refine (shifted_any B d den (eEnd num den) w2a (HB.out.below HB2a.out) hdl (by omega) (by omega) (Nat.le_trans (limbs_length_mono (Nat.le_mul_of_pos_right _ (by decide))) (HDN.out (eEnd num den) (by omega)))).mono ?_
      rintro e w2b ⟨B2, d2, rfl, hr2b, hb2b⟩
      have HR2b := Lib.hid hr2b; have HB2b := Lib.hid (HB2a.out.trans (hb2b.mono HB2a.out.size)); have HR2c := Lib.hid (HR2a.out.below hb2b)
      clear hr2b hb2b
      have hrn := rnd_end num den
      have hro := rounded_any A2 B2 c2 d2 _ _ w2b HR2c.out HR2b.out (HUP.out _ (by omega)) (HDN.out _ (by omega)) (Nat.mul_ne_zero hd0 (Nat.ne_of_gt (Nat.two_pow_pos _)))
      have HRO := Lib.hid hro; clear hro
      have hnb : nearestBits num den = min ((eEnd num den + 1074).toNat * 4503599627370496 + rnd (num * 2 ^ (-eEnd num den).toNat) (den * 2 ^ (eEnd num den).toNat)) 9218868437227405312 := rfl
      have HNB := Lib.hid hnb; clear hnb
      go_wp2_with fail
      refine HRO.out.mono ?_
      rintro e' w3 ⟨A3, c3, rfl, hr3, hb3⟩
      have HR3 := Lib.hid hr3; have HB3 := Lib.hid (HB2b.out.trans (hb3.mono HB2b.out.size))
      clear hr3 hb3
      go_wp2_with fail
      refine (word_any A3 c3 _ w3 HR3.out (by omega)).mono ?_
      rintro e' w' ⟨rfl, rfl⟩
      generalize rnd (num * 2 ^ (-eEnd num den).toNat) (den * 2 ^ (eEnd num den).toNat) = R at *
      obtain ⟨E, hE⟩ : ∃ E : Nat, eEnd num den + 1074 = (E : Int) := ⟨(eEnd num den + 1074).toNat, by omega⟩
      have hfb := frombits_run
      go_wp2
      go_ret
      refine ⟨?_, HB3.out⟩
      rw [HNB.out, show (eEnd num den + 1074).toNat = E by omega]
      exact ret_float (min_big E R)

end Go.Proofs.YtifcibbhblhfiaaGreatDoor
