/- Walks of package nat: the quotient by more than one limb. -/
import Derived.Test.YtifcibbhblhfiaaGreatDoorNatI
namespace Go.Proofs.YtifcibbhblhfiaaGreatDoor
open Go.RowKit Pl
set_option linter.unusedVariables false

theorem lt_two_blen (n : Nat) : n < 2 ^ blen n := by
  unfold blen
  split
  · omega
  · exact Nat.lt_log2_self

theorem blen_le (n : Nat) : blen n ≤ 32 * (limbs n).length := by
  by_cases h : (limbs n).length = 0
  · have : n = 0 := (limbs_nil_iff n).1 (List.eq_nil_of_length_eq_zero h)
    subst this; decide
  · have h1 := blen_limbs n h
    have h2 := blen_le_32 (rd_lt (limbs_good n) ((limbs n).length - 1))
    omega

set_option maxRecDepth 100000 in
set_option maxHeartbeats 2000000 in
theorem div_many (A B : Option Addr) (c d : Nat) (n m : Nat) (w : World) (h : Rd w A (limbs n)) (hm : Rd w B (limbs m)) (h1 : (limbs n).length ≤ 256) (h2 : (limbs m).length ≤ 256) (h3 : 2 ≤ (limbs m).length) :
    Calls Tryz.prog 89 #[.slice A (limbs n).length c, .slice B (limbs m).length d] w (DivPost w (n / m) (n % m)) := by
  have hm0 : 0 < m := Nat.pos_of_ne_zero fun e => by subst e; rw [limbs_zero] at h3; cases h3
  have HV1 := Lib.hid (fun w h => valid_any A c n w h h1)
  have HV2 := Lib.hid (fun w h => valid_any B d m w h h2)
  have HBN := Lib.hid (fun w h => bits_any A c n w h (by omega))
  obtain ⟨bb, bo2, rfl, hbblt, _⟩ := hm 0 (by omega)
  have hA := Lib.hid h; have hB := Lib.hid hm
  have gm := Lib.hid (limbs_good m); have vm := Lib.hid (val_limbs m)
  have HCMP := Lib.hid (fun (A : Option Addr) (c v : Nat) (w : World) (h1 : Rd w A (limbs v)) (h2 : Rd w (some ⟨bb, bo2, none⟩) (limbs m)) (h3 : (limbs v).length ≤ 65535) => cmp_any A (some ⟨bb, bo2, none⟩) c d v m w h1 h2 h3 (by omega))
  have HLESS := Lib.hid (fun (g c : Nat) (l : List Nat) (w : World) (h : Ow w g c l) (hm : Rd w (some ⟨bb, bo2, none⟩) (limbs m)) (hne : bb ≠ g) (hg : Gd l) (hl : l.length ≤ 65535) (hml : (limbs m).length ≤ l.length) (hv : val (limbs m) ≤ val l) => less_any g c d (some ⟨bb, bo2, none⟩) l (limbs m) w h hm (by intro b o t e; cases e; exact hne) hg (limbs_good m) hl hml hv)
  have va := Lib.hid (val_limbs n)
  have ga := Lib.hid (limbs_good n)
  have hbl := blen_le n
  have hbn := Lib.hid (lt_two_blen n)
  have hmb := Lib.hid (limbs_lt m)
  have hz1 : (((limbs m).length : Int) == 0) = false := beq_eq_false_iff_ne.2 (by omega)
  have hz2 : (((limbs m).length : Int) == 1) = false := beq_eq_false_iff_ne.2 (by omega)
  clear h hm
  generalize hL : (limbs n).length = L at *
  generalize hM : (limbs m).length = M at *
  have HL := Lib.hid hL; have HM := Lib.hid hM
  clear hL hM
  go_enter Tryz.func89, Tryz.ntmps89
  go_wp2_with fail
  refine (HV1.out _ hA.out).mono ?_
  rintro e w' ⟨rfl, rfl⟩
  go_wp2_with fail
  refine (HV2.out _ hB.out).mono ?_
  rintro e w' ⟨rfl, rfl⟩
  go_wp2_with (at_make; go_must (refine wpList_make1 rfl _ _ 94 rfl 83 (.int .u32 0) 4 Tryz.underlying94 info32 rfl .i64 .i64 _ _ L L rfl rfl rfl rfl (Nat.le_refl _) (by omega) (by unfold maxLen; omega) ?_))
  intro w1 hown1 hbel1
  go_wp2_with (at_make; go_must (refine wpList_make1 rfl _ _ 94 rfl 83 (.int .u32 0) 4 Tryz.underlying94 info32 rfl .i64 .i64 _ _ (M + 1) (M + 1) rfl rfl (by omega) (by omega) (Nat.le_refl _) (by omega) (by unfold maxLen; omega) ?_))
  intro w2 hown2 hbel2
  obtain ⟨g1, hg1⟩ : ∃ g, g = w.heap.size := ⟨_, rfl⟩
  obtain ⟨g2, hg2⟩ : ∃ g, g = w1.heap.size := ⟨_, rfl⟩
  have hO1 : Ow w1 g1 L (List.replicate L 0) := by rw [hg1]; exact (Ow.of_owns (base := w.heap.size) (by simpa [e32] using hown1)).1
  have hO2 : Ow w2 g2 (M + 1) (List.replicate (M + 1) 0) := by rw [hg2]; exact (Ow.of_owns (base := w1.heap.size) (by simpa [e32] using hown2)).1
  have hlt12 : g1 < g2 := by rw [hg2]; exact hO1.lt
  have hbbg : bb < g1 := by rw [hg1]; exact hbblt
  have hO1' := hO1.below hbel2
  have hbw0 : Below g1 w w2 := by rw [hg1]; exact hbel1.trans (hbel2.mono hbel1.size)
  have HO1 := Lib.hid hO1'; have HO2 := Lib.hid hO2; have HBW := Lib.hid hbw0
  have hne12 : ¬ g1 = g2 := by omega
  have HG1 := Lib.hid hg1
  rw [← hg1, ← hg2]
  have hbits2 : Hid (Calls Tryz.prog 88 #[.slice A L c] w2 fun e w' => e = .returned (.int .i64 (blen n)) ∧ w2 = w') := HBN.out w2 (hA.out.below (by rw [← hg1]; exact hbw0))
  clear hown1 hbel1 hown2 hbel2 hO1 hO2 hO1' hbw0 hg1 hg2 HBN HV1 HV2
  go_wp2_with fail
  refine hbits2.out.mono ?_
  rintro e w' ⟨rfl, rfl⟩
  go_wp2
  go_loopw [11] (fun vi wr => ∃ (k : Nat) (q left : List Nat), k ≤ blen n ∧ vi = .int .i64 ((k : Int) - 1) ∧ q.length = L ∧ left.length = M + 1 ∧ Hid (Gd q) ∧ Hid (Gd left) ∧
    Hid (val q = n / 2 ^ k / m * 2 ^ k) ∧ Hid (val left = n / 2 ^ k % m) ∧ Hid (Ow wr g1 L q) ∧ Hid (Ow wr g2 (M + 1) left) ∧ Hid (Below g1 w wr)) (fun vi _ => (intOf vi + 1).toNat)
  case atStart =>
    have e0 : n / 2 ^ blen n = 0 := Nat.div_eq_of_lt hbn.out
    exact ⟨blen n, _, _, Nat.le_refl _, rfl, by simp, by simp, gd_zeros _, gd_zeros _, by show _ = _; rw [val_zeros, e0, Nat.zero_div, Nat.zero_mul], by show _ = _; rw [val_zeros, e0, Nat.zero_mod], HO1.out, HO2.out, HBW.out⟩
  case round =>
    obtain ⟨k, q, left, hk, rfl, hq, hleft, hgq, hgl, hvq, hvl, hO1, hO2, hbw⟩ := hrel
    by_cases h0 : k = 0
    · subst h0
      have hq2 : val q = n / m := by have := hvq.out; simpa using this
      have hl2 : val left = n % m := by have := hvl.out; simpa using this
      have hbw' : Below w.heap.size w wr := by have := hbw.out; rwa [HG1.out] at this
      have ht1 := trim_any (some ⟨g1, 0, none⟩) L q wr hO1.out.rd hO1.out.le hgq.out (by omega)
      have ht2 := trim_any (some ⟨g2, 0, none⟩) (M + 1) left wr hO2.out.rd hO2.out.le hgl.out (by omega)
      rw [hq2, hq] at ht1
      rw [hl2, hleft] at ht2
      have hle1 : (limbs (n / m)).length ≤ L := by have := limbs_length_le (val_lt hgq.out); rwa [hq2, hq] at this
      have hle2 : (limbs (n % m)).length ≤ M + 1 := by have := limbs_length_le (val_lt hgl.out); rwa [hl2, hleft] at this
      have HR1 := Lib.hid (hO1.out.rd.of_take hgq.out hq2)
      have HR2 := Lib.hid (hO2.out.rd.of_take hgl.out hl2)
      have HT1 := Lib.hid ht1; have HT2 := Lib.hid ht2; have HB := Lib.hid hbw'
      clear ht1 ht2 hbw' hq2 hl2
      go_wp2_with fail
      refine HT1.out.mono ?_
      rintro e w' ⟨rfl, rfl⟩
      go_wp2_with fail
      refine (clip_any _ _ _ _ hle1).mono ?_
      rintro e w' ⟨rfl, rfl⟩
      go_wp2_with fail
      refine HT2.out.mono ?_
      rintro e w' ⟨rfl, rfl⟩
      go_wp2_with fail
      refine (clip_any _ _ _ _ hle2).mono ?_
      rintro e w' ⟨rfl, rfl⟩
      go_wp2
      go_ret3
      exact ⟨some ⟨g1, 0, none⟩, (limbs (n / m)).length, some ⟨g2, 0, none⟩, (limbs (n % m)).length, rfl, HR1.out, HR2.out, HB.out⟩
    · obtain ⟨i, rfl⟩ : ∃ j, k = j + 1 := ⟨k - 1, by omega⟩
      rw [show (((i + 1 : Nat) : Int) - 1) = (i : Int) by omega]
      have hbw' : Hid (Below w.heap.size w wr) := by rw [HG1.out] at hbw; exact hbw
      have hiL : i / 32 < L := by omega
      obtain ⟨b1, o1, rfl, hb1, hc1⟩ := (hA.out.below hbw'.out) (i / 32) (by rw [HL.out]; exact hiL)
      have HX1 := Lib.hid hb1; clear hb1
      go_wp2
      have hbit := bit_of ga.out (i / 32) (i % 32) (by omega)
      rw [va.out, show 32 * (i / 32) + i % 32 = i by omega] at hbit
      rw [bit_int _ _ (rd_lt ga.out _), hbit]
      have hb1 : n / 2 ^ i % 2 ≤ 1 := by omega
      have HBIT := Lib.hid hbit; clear hbit
      obtain ⟨b, hbb⟩ : ∃ b, b = n / 2 ^ i % 2 := ⟨_, rfl⟩
      rw [← hbb] at hb1 ⊢
      have HBB := Lib.hid hbb; clear hbb
      go_loopw [69, 12] (fun vj vb wr => ∃ (j bo : Nat) (r : List Nat), j ≤ M + 1 ∧ vj = .int .i64 (j : Int) ∧ vb = .int .u32 (bo : Int) ∧ bo ≤ 1 ∧ r.length = j ∧ Hid (Gd r) ∧
        Hid (val r + bo * 4294967296 ^ j = val (left.take j) * 2 + b) ∧ Hid (Ow wr g1 L q) ∧ Hid (Ow wr g2 (M + 1) (r ++ left.drop j)) ∧ Hid (Below g1 w wr)) (fun vj _ _ => (M + 1 - intOf vj).toNat)
      case atStart => exact ⟨0, b, [], Nat.zero_le _, rfl, rfl, hb1, rfl, good_nil, by simp [Hid, val], hO1, by simpa [Hid] using hO2, hbw⟩
      case round =>
        obtain ⟨j, bo, r, hj, rfl, rfl, hbo, hr, hgr, hvr, hP1, hP2, hbr⟩ := hrel
        by_cases hjl : j < M + 1
        · have hc := hP2.out.cell j (by simp; omega)
          have hf := hP2.out.free j
          rw [app_rd r left j hr] at hc
          have hx := rd_lt hgl.out j
          go_wp2
          go_region
          all_goals
            go_wp2
            rw [show ((rd left j : Int) * 2) = ((rd left j * 2 : Nat) : Int) by omega, dbl_or _ _ hbo,
              show ((rd left j : Int) / 2147483648) = ((rd left j * 2 / 4294967296 : Nat) : Int) by omega]
            refine ⟨⟨j + 1, _, r ++ [rd left j * 2 % 4294967296 + bo], by omega, by go_num, rfl, by omega, by simp; omega, gd_snoc hgr.out (by omega), ?_, ?_, ?_, ?_⟩, by simp [intOf]; omega⟩
            · show _ = _
              rw [val_snoc, val_take_succ, hr, Nat.pow_succ]
              exact dbl_step hvr.out (by omega)
            · exact hP1.out.kept (heap_setCell_other wr ⟨g2, j, none⟩ g1 _ (by omega))
            · have := hP2.out.set j (rd left j * 2 % 4294967296 + bo)
              rw [app_set r left j _ hr (by omega)] at this
              exact this
            · exact (hbr.out.setCell (p := ⟨g2, j, none⟩) (Nat.le_of_lt hlt12) _).drew
        · obtain rfl : j = M + 1 := by omega
          have hv : val r = 2 * (n / 2 ^ (i + 1) % m) + b := by
            have h1 := hvr.out
            rw [List.take_of_length_le (Nat.le_of_eq hleft), hvl.out] at h1
            have h2 := Nat.mod_lt (n / 2 ^ (i + 1)) hm0
            have h3 := hmb.out
            have h4 : 4294967296 ^ (M + 1) = 4294967296 ^ M * 4294967296 := Nat.pow_succ ..
            have h5 : bo = 0 := by
              cases bo with
              | zero => rfl
              | succ bo =>
                exfalso
                obtain rfl : bo = 0 := by omega
                omega
            subst h5
            omega
          have hP2' := hP2.out
          rw [List.drop_of_length_le (Nat.le_of_eq hleft), List.append_nil] at hP2'
          have ht := trim_any (some ⟨g2, 0, none⟩) (M + 1) r wr hP2'.rd hP2'.le hgr.out (by omega)
          rw [hr] at ht
          have hbr' : Below w.heap.size w wr := by have := hbr.out; rwa [HG1.out] at this
          have hrv := hP2'.rd.of_take hgr.out rfl
          have hlv : (limbs (val r)).length ≤ M + 1 := by have := limbs_length_le (val_lt hgr.out); rwa [hr] at this
          have hc := HCMP.out (some ⟨g2, 0, none⟩) (M + 1) (val r) wr hrv (hB.out.below hbr') (by omega)
          have HT := Lib.hid ht; have HC := Lib.hid hc; have HV := Lib.hid hv; have HBR := Lib.hid hbr'; have HP2 := Lib.hid hP2'
          clear ht hc hbr' hrv hP2'
          have hhalf := half_step n i
          rw [← HBB.out] at hhalf
          have HH := Lib.hid hhalf
          clear hhalf hv
          by_cases hge : m ≤ val r
          · have hcmp : 0 ≤ cmpN (val r) m := by unfold cmpN; rw [if_neg (by omega)]; split <;> decide
            have hdm := div_ge hm0 hb1 (N := n / 2 ^ (i + 1)) (by rw [← HV.out]; exact hge)
            rw [← HH.out, ← HV.out] at hdm
            have HDM := Lib.hid hdm
            clear hdm
            go_wp2_with fail
            refine HT.out.mono ?_
            rintro e w' ⟨rfl, rfl⟩
            go_wp2_with fail
            refine HC.out.mono ?_
            rintro e w' ⟨rfl, nq, rfl⟩
            have hls := HLESS.out g2 (M + 1) r (wr.drewN nq) (HP2.out.drewN nq) (hB.out.below (below_drewN HBR.out nq)) (by omega) hgr.out (by omega) (by omega) (by rw [vm.out]; exact hge)
            rw [vm.out, hr] at hls
            have HLS := Lib.hid hls
            clear hls
            go_wp2_with fail
            refine HLS.out.mono ?_
            rintro e w3 ⟨r3, rfl, hr3, hgr3, hvr3, hO3, hbut3⟩
            have hP13 : Ow w3 g1 L q := (hP1.out.drewN nq).kept (hbut3.block g1 hP1.out.lt (by simp; omega))
            have hqc := hP13.cell (i / 32) (by omega)
            have hqf := hP13.free (i / 32)
            have hlow : rd q (i / 32) % 2 ^ (i % 32 + 1) = 0 := low_of hgq.out (i / 32) (i % 32) (by omega) (by rw [hvq.out, show 32 * (i / 32) + i % 32 + 1 = i + 1 by omega, Nat.mul_mod_left])
            have hset := val_set q (i / 32) (rd q (i / 32) + 2 ^ (i % 32)) (by omega)
            have hso := Lib.hid (set_or (rd q (i / 32)) (i % 32) (rd_lt hgq.out _) (by omega) hlow)
            have H3 := Lib.hid hP13; have HO3 := Lib.hid hO3; have HGR3 := Lib.hid hgr3; have HVR3 := Lib.hid hvr3; have HR3 := Lib.hid hr3; have HBUT := Lib.hid hbut3; have HLOW := Lib.hid hlow; have HSET := Lib.hid hset
            clear hP13 hO3 hgr3 hvr3 hr3 hbut3 hlow hset
            go_wp2
            go_region
            all_goals
              go_wp2
              have hgd := hgq.out.set (i / 32) (rd q (i / 32) + 2 ^ (i % 32)) (by
                have h1 : rd q (i / 32) + 2 ^ (i % 32) < 4294967296 := by
                  have e : (4294967296 : Nat) = 2 ^ (i % 32 + 1) * 2 ^ (31 - i % 32) := by rw [← Nat.pow_add, show i % 32 + 1 + (31 - i % 32) = 32 by omega]
                  obtain ⟨t, ht⟩ := Nat.dvd_of_mod_eq_zero HLOW.out
                  have h2 := rd_lt hgq.out (i / 32)
                  rw [ht] at h2 ⊢
                  rw [e] at h2 ⊢
                  have h3 : t < 2 ^ (31 - i % 32) := Nat.lt_of_mul_lt_mul_left h2
                  have h4 : 2 ^ (i % 32 + 1) * (t + 1) ≤ 2 ^ (i % 32 + 1) * 2 ^ (31 - i % 32) := Nat.mul_le_mul_left _ h3
                  rw [Nat.mul_add, Nat.mul_one] at h4
                  have h5 : (2 : Nat) ^ (i % 32) < 2 ^ (i % 32 + 1) := Nat.pow_lt_pow_right (by decide) (by omega)
                  omega
                exact h1)
              rw [hso.out]
              refine ⟨⟨i, q.set (i / 32) (rd q (i / 32) + 2 ^ (i % 32)), r3, by omega, rfl, by simpa using hq, HR3.out, hgd, HGR3.out, ?_, ?_, ?_, ?_, ?_⟩, by simp [intOf]⟩
              · show _ = _
                have h1 := HSET.out
                rw [Nat.mul_add, pow32, ← Nat.pow_add, show 32 * (i / 32) + i % 32 = i by omega, hvq.out] at h1
                rw [HDM.out.1, Nat.add_mul, Nat.one_mul]
                have h2 := dbl_pow (n / 2 ^ (i + 1) / m) i
                omega
              · show _ = _
                rw [HVR3.out, HDM.out.2]
              · exact H3.out.set _ _
              · exact HO3.out.kept (heap_setCell_other w3 ⟨g1, i / 32, none⟩ g2 _ (by show g2 ≠ g1; omega))
              · have h1 : Below g1 w w3 := (below_drewN hbr.out nq).trans (HBUT.out.below (Nat.le_of_lt hlt12) (by have := hP1.out.lt; simp; omega))
                exact (h1.setCell (p := ⟨g1, i / 32, none⟩) (Nat.le_refl _) _).drew
          · have hcmp : cmpN (val r) m < 0 := by rw [cmpN_lt (by omega)]; decide
            have hdm := div_lt' hm0 (N := n / 2 ^ (i + 1)) (b := b) (by rw [← HV.out]; omega)
            rw [← HH.out, ← HV.out] at hdm
            have HDM := Lib.hid hdm
            clear hdm
            go_wp2_with fail
            refine HT.out.mono ?_
            rintro e w' ⟨rfl, rfl⟩
            go_wp2_with fail
            refine HC.out.mono ?_
            rintro e w' ⟨rfl, nq, rfl⟩
            go_wp2
            refine ⟨⟨i, q, r, by omega, rfl, hq, hr, hgq, hgr, ?_, ?_, hP1.out.drewN nq, HP2.out.drewN nq, below_drewN hbr.out nq⟩, by simp [intOf]⟩
            · show _ = _
              rw [hvq.out, HDM.out.1, dbl_pow]
            · show _ = _
              rw [HDM.out.2]

theorem div_any (A B : Option Addr) (c d : Nat) (n m : Nat) (w : World) (h : Rd w A (limbs n)) (hm : Rd w B (limbs m)) (h1 : (limbs n).length ≤ 256) (h2 : (limbs m).length ≤ 256) (hm0 : m ≠ 0) :
    Calls Tryz.prog 89 #[.slice A (limbs n).length c, .slice B (limbs m).length d] w (DivPost w (n / m) (n % m)) := by
  by_cases h3 : (limbs m).length = 1
  · exact div_one A B c d n m w h hm h1 h3
  · have h4 : (limbs m).length ≠ 0 := fun e => hm0 ((limbs_nil_iff m).1 (List.eq_nil_of_length_eq_zero e))
    exact div_many A B c d n m w h hm h1 h2 (by omega)

end Go.Proofs.YtifcibbhblhfiaaGreatDoor
