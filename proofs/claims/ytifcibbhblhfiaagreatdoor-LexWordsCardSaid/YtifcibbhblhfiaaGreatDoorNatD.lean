/- Walks of package nat: the sum. -/
import Derived.Test.YtifcibbhblhfiaaGreatDoorNatC
namespace Go.Proofs.YtifcibbhblhfiaaGreatDoor
open Go.RowKit Pl
set_option linter.unusedVariables false

theorem info32 : (Tryz.prog.info? 83).map (fun i => (i.zero, i.size, i.bytes)) = some (some (.int .u32 0), 1, 4) := by kernel_rfl

/-- A slice that is nil or the call's own (its block from base on) and holds l. -/
def Own (w : World) (base : Nat) (v : Value) (l : List Nat) : Prop := w.ownsRow base 83 1 v l.length (l.map e32)

theorem Own.app {w : World} {base g c n : Nat} {l : List Nat} {x : Nat} (hn : n = l.length + 1) (h : w.ownsRow base 83 1 (.slice (some ⟨g, 0, none⟩) n c) n (l.map e32 ++ [e32 x])) :
    Own w base (.slice (some ⟨g, 0, none⟩) n c) (l ++ [x]) := by
  unfold Own
  rw [List.length_append, List.length_singleton, ← hn, List.map_append]; exact h

theorem Ow.app {w : World} {base g c n : Nat} {l : List Nat} {x : Nat} (h : w.ownsRow base 83 1 (.slice (some ⟨g, 0, none⟩) n c) n (l.map e32 ++ [e32 x])) :
    Ow w g c (l ++ [x]) ∧ n = (l ++ [x]).length ∧ base ≤ g :=
  Ow.of_owns (by rw [List.map_append]; exact h)

theorem add_step {Q P L M c x y s c' : Nat} (h : Q + c * P = L + M) (hs : c + x + y = s + 4294967296 * c') :
    Q + P * s + c' * (P * 4294967296) = L + P * x + (M + P * y) := by
  have := congrArg (P * ·) hs
  simp only [Nat.mul_add] at this
  rw [Nat.mul_comm c P] at h
  rw [show c' * (P * 4294967296) = P * (4294967296 * c') by rw [Nat.mul_comm c', Nat.mul_assoc]]
  omega

theorem add_low {c x y : Nat} : c + x + y = (c + x + y) % 4294967296 + 4294967296 * ((c + x + y) / 4294967296) := by omega

def AddPost (w : World) (r : Nat) (e : Ending) (w' : World) : Prop :=
  ∃ A c, e = .returned (.tuple #[.slice A (limbs r).length c, .int .i64 0]) ∧ (limbs r).length ≤ c ∧ Rd w' A (limbs r) ∧ Below w.heap.size w w'

set_option maxHeartbeats 1000000 in
theorem add_keep (A B : Option Addr) (c d : Nat) (l m : List Nat) (w : World) (HLR : Hid (Rd w A l)) (HMR : Hid (Rd w B m)) (HLG : Hid (Gd l)) (HMG : Hid (Gd m)) (hlt : ¬ l.length < m.length) (hml : m.length ≤ l.length)
    (HV1 : Hid (∀ w, Rd w A l → Calls Tryz.prog 85 #[.slice A l.length c] w fun e w' => e = .returned (.bool true) ∧ w = w'))
    (HV2 : Hid (∀ w, Rd w B m → Calls Tryz.prog 85 #[.slice B m.length d] w fun e w' => e = .returned (.bool true) ∧ w = w'))
    (l1 : l.length ≤ 256) (s : Nat) (HS : Hid (val l + val m = s)) (HN : Hid ((limbs s).length ≤ 256)) :
    Calls Tryz.prog 102 #[.slice A l.length c, .slice B m.length d] w (AddPost w s) := by
  obtain ⟨i0, hi, hz0, hz1, hz2⟩ := info_parts info32
  go_enter Tryz.func102, Tryz.ntmps102
  go_wp2_with fail
  refine (HV1.out _ HLR.out).mono ?_
  rintro e w' ⟨rfl, rfl⟩
  go_wp2_with fail
  refine (HV2.out _ HMR.out).mono ?_
  rintro e w' ⟨rfl, rfl⟩
  have hb2 : i0.bytes * (l.length + 1) ≤ 281474976710656 := by rw [hz2]; omega
  have hb3 : l.length + 1 ≤ maxLen := by unfold maxLen; omega
  have HB2 := Lib.hid hb2; have HB3 := Lib.hid hb3; have HI := Lib.hid hi; have HZ0 := Lib.hid hz0; have HZ1 := Lib.hid hz1
  clear hb2 hb3 hi hz0 hz1 hz2
  go_wp2_with (at_make; go_must (refine wpList_make_own _ rfl _ _ 94 rfl w.heap.size 83 i0 (.int .u32 0) 1 Tryz.underlying94 HI.out HZ0.out HZ1.out .i64 .i64 _ (l.length + 1) rfl rfl ?_ HB2.out HB3.out (Nat.le_refl _) ?_))
  · omega
  intro w1 hown hgr
  have hb1 : Below w.heap.size w w1 := ⟨hgr.os, hgr.tape, hgr.output, hgr.size, fun k hk => hgr.block k hk (by simp)⟩
  have HOWN := Lib.hid hown; have HB1 := Lib.hid hb1; have hsz := hb1.size
  clear hown hgr hb1
  go_wp2
  go_loopw [31, 7, 6] (fun vi vc vo wr => ∃ (k cy : Nat) (q : List Nat), k ≤ l.length ∧ vi = .int .i64 (k : Int) ∧ vc = .int .u64 (cy : Int) ∧ cy ≤ 1 ∧ q.length = k ∧ Hid (Gd q) ∧
      Hid (val q + cy * 4294967296 ^ k = val (l.take k) + val (m.take k)) ∧ Hid (Own wr w.heap.size vo q) ∧ Hid (Below w.heap.size w wr)) (fun vi _ _ _ => (l.length - intOf vi).toNat)
  case atStart => exact ⟨0, 0, [], Nat.zero_le _, rfl, rfl, Nat.zero_le _, rfl, good_nil, by simp [Hid, val], HOWN.out, HB1.out⟩
  case round =>
    obtain ⟨k, cy, q, hk, rfl, rfl, hcy, hq, hgq, hval, how, hbw⟩ := hrel
    have hszw := hbw.out.size
    by_cases h0 : k < l.length
    · have hx := rd_lt HLG.out k
      have hy := rd_lt HMG.out k
      obtain ⟨b1, o1, rfl, hb1, hc1⟩ := (HLR.out.below hbw.out) k h0
      have HX1 := Lib.hid hb1; clear hb1
      by_cases h1 : k < m.length
      · obtain ⟨b2, o2, rfl, hb2, hc2⟩ := (HMR.out.below hbw.out) k h1
        have HX2 := Lib.hid hb2; clear hb2
        go_wp2_with (at_builtin; go_must (refine wpList_appN (W := wr) rfl _ _ 94 rfl w.heap.size 83 (.int .u32 0) 1 4 Tryz.underlying94 info32 rfl (by decide) _ q.length (q.map e32) rfl (by exact how.out) _ 1 1 (by decide) rfl rfl (by simp [Value.oneCell']) (by unfold maxLen; omega) (by omega) (by omega) ?_))
        intro g cp w2 hown2 hbel2
        go_wp2
        go_roundw
        case rel =>
          try rw [hq] at hown2
          rw [show ((cy : Int) + (rd l k : Int) + (rd m k : Int)) / 4294967296 = (((cy + rd l k + rd m k) / 4294967296 : Nat) : Int) by omega]
          rw [show ((cy : Int) + (rd l k : Int) + (rd m k : Int)) % 4294967296 = (((cy + rd l k + rd m k) % 4294967296 : Nat) : Int) by omega] at hown2
          refine ⟨k + 1, _, q ++ [(cy + rd l k + rd m k) % 4294967296], by omega, by go_num, rfl, by omega, by simp; omega, gd_snoc hgq.out (Nat.mod_lt _ (by decide)), ?_, Own.app (by omega) hown2, hbw.out.trans hbel2⟩
          show _ = _
          rw [val_snoc, val_take_succ, val_take_succ, hq, Nat.pow_succ]; exact add_step hval.out add_low
        case measure => simp [intOf]; omega
      · have hz : rd m k = 0 := rd_out (by omega)
        have HZ := Lib.hid hz; clear hz
        go_wp2_with (at_builtin; go_must (refine wpList_appN (W := wr) rfl _ _ 94 rfl w.heap.size 83 (.int .u32 0) 1 4 Tryz.underlying94 info32 rfl (by decide) _ q.length (q.map e32) rfl (by exact how.out) _ 1 1 (by decide) rfl rfl (by simp [Value.oneCell']) (by unfold maxLen; omega) (by omega) (by omega) ?_))
        intro g cp w2 hown2 hbel2
        go_wp2
        go_roundw
        case rel =>
          try rw [hq] at hown2
          rw [show ((cy : Int) + (rd l k : Int)) / 4294967296 = (((cy + rd l k + rd m k) / 4294967296 : Nat) : Int) by rw [HZ.out]; omega]
          rw [show ((cy : Int) + (rd l k : Int)) % 4294967296 = (((cy + rd l k + rd m k) % 4294967296 : Nat) : Int) by rw [HZ.out]; omega] at hown2
          refine ⟨k + 1, _, q ++ [(cy + rd l k + rd m k) % 4294967296], by omega, by go_num, rfl, by omega, by simp; omega, gd_snoc hgq.out (Nat.mod_lt _ (by decide)), ?_, Own.app (by omega) hown2, hbw.out.trans hbel2⟩
          show _ = _
          rw [val_snoc, val_take_succ, val_take_succ, hq, Nat.pow_succ]; exact add_step hval.out add_low
        case measure => simp [intOf]; omega
    · obtain rfl : k = l.length := by omega
      have hv2 : Hid (val (q ++ [cy]) = s) := by
        have := hval.out
        rw [List.take_of_length_le hml, List.take_of_length_le (Nat.le_refl _), HS.out] at this
        show _ = _
        rw [val_snoc, hq, Nat.mul_comm]; exact this
      have hg2 : Hid (Gd (q ++ [cy])) := gd_snoc hgq.out (by omega)
      go_wp2_with (at_builtin; go_must (refine wpList_appN (W := wr) rfl _ _ 94 rfl w.heap.size 83 (.int .u32 0) 1 4 Tryz.underlying94 info32 rfl (by decide) _ q.length (q.map e32) rfl (by exact how.out) _ 1 1 (by decide) rfl rfl (by simp [Value.oneCell']) (by unfold maxLen; omega) (by omega) (by omega) ?_))
      intro g cp w2 hown2 hbel2
      try rw [hq] at hown2
      obtain ⟨how2, hl2, _⟩ := Ow.app (l := q) (x := cy) hown2
      have hr2 := how2.rd
      have ht := told_ok (some ⟨g, 0, none⟩) cp (q ++ [cy]) w2 hr2 (by obtain ⟨cur, h1, h2, h3, _⟩ := how2; exact h3) hg2.out (by simp; omega) (by rw [hv2.out]; exact HN.out)
      rw [hv2.out, ← hl2] at ht
      have HT := Lib.hid ht
      have hbb : Hid (Below w.heap.size w w2) := hbw.out.trans hbel2
      have hrr : Hid (Rd w2 (some ⟨g, 0, none⟩) (limbs s)) := by
        have h1 := how2.take (limbs s).length
        have h2 : limbs s = (q ++ [cy]).take (limbs s).length := by
          have := limbs_take hg2.out
          rwa [hv2.out] at this
        rw [← h2] at h1
        exact h1.rd
      clear ht hr2 how2 hown2 hbel2 hl2
      go_wp2_with fail
      try rw [hq]
      refine HT.out.mono ?_
      rintro e w' ⟨rfl, rfl⟩
      go_wp2
      go_ret2
      exact ⟨_, _, rfl, Nat.le_refl _, hrr.out, hbb.out⟩

set_option maxHeartbeats 1000000 in
theorem add_swap (A B : Option Addr) (c d : Nat) (l m : List Nat) (w : World) (HLR : Hid (Rd w A l)) (HMR : Hid (Rd w B m)) (HLG : Hid (Gd l)) (HMG : Hid (Gd m)) (hlt : m.length < l.length) (hml : m.length ≤ l.length)
    (HV1 : Hid (∀ w, Rd w A l → Calls Tryz.prog 85 #[.slice A l.length c] w fun e w' => e = .returned (.bool true) ∧ w = w'))
    (HV2 : Hid (∀ w, Rd w B m → Calls Tryz.prog 85 #[.slice B m.length d] w fun e w' => e = .returned (.bool true) ∧ w = w'))
    (l1 : l.length ≤ 256) (s : Nat) (HS : Hid (val l + val m = s)) (HN : Hid ((limbs s).length ≤ 256)) :
    Calls Tryz.prog 102 #[.slice B m.length d, .slice A l.length c] w (AddPost w s) := by
  obtain ⟨i0, hi, hz0, hz1, hz2⟩ := info_parts info32
  go_enter Tryz.func102, Tryz.ntmps102
  go_wp2_with fail
  refine (HV2.out _ HMR.out).mono ?_
  rintro e w' ⟨rfl, rfl⟩
  go_wp2_with fail
  refine (HV1.out _ HLR.out).mono ?_
  rintro e w' ⟨rfl, rfl⟩
  have hb2 : i0.bytes * (l.length + 1) ≤ 281474976710656 := by rw [hz2]; omega
  have hb3 : l.length + 1 ≤ maxLen := by unfold maxLen; omega
  have HB2 := Lib.hid hb2; have HB3 := Lib.hid hb3; have HI := Lib.hid hi; have HZ0 := Lib.hid hz0; have HZ1 := Lib.hid hz1
  clear hb2 hb3 hi hz0 hz1 hz2
  go_wp2_with (at_make; go_must (refine wpList_make_own _ rfl _ _ 94 rfl w.heap.size 83 i0 (.int .u32 0) 1 Tryz.underlying94 HI.out HZ0.out HZ1.out .i64 .i64 _ (l.length + 1) rfl rfl ?_ HB2.out HB3.out (Nat.le_refl _) ?_))
  · omega
  intro w1 hown hgr
  have hb1 : Below w.heap.size w w1 := ⟨hgr.os, hgr.tape, hgr.output, hgr.size, fun k hk => hgr.block k hk (by simp)⟩
  have HOWN := Lib.hid hown; have HB1 := Lib.hid hb1; have hsz := hb1.size
  clear hown hgr hb1
  go_wp2
  go_loopw [31, 7, 6] (fun vi vc vo wr => ∃ (k cy : Nat) (q : List Nat), k ≤ l.length ∧ vi = .int .i64 (k : Int) ∧ vc = .int .u64 (cy : Int) ∧ cy ≤ 1 ∧ q.length = k ∧ Hid (Gd q) ∧
      Hid (val q + cy * 4294967296 ^ k = val (l.take k) + val (m.take k)) ∧ Hid (Own wr w.heap.size vo q) ∧ Hid (Below w.heap.size w wr)) (fun vi _ _ _ => (l.length - intOf vi).toNat)
  case atStart => exact ⟨0, 0, [], Nat.zero_le _, rfl, rfl, Nat.zero_le _, rfl, good_nil, by simp [Hid, val], HOWN.out, HB1.out⟩
  case round =>
    obtain ⟨k, cy, q, hk, rfl, rfl, hcy, hq, hgq, hval, how, hbw⟩ := hrel
    have hszw := hbw.out.size
    by_cases h0 : k < l.length
    · have hx := rd_lt HLG.out k
      have hy := rd_lt HMG.out k
      obtain ⟨b1, o1, rfl, hb1, hc1⟩ := (HLR.out.below hbw.out) k h0
      have HX1 := Lib.hid hb1; clear hb1
      by_cases h1 : k < m.length
      · obtain ⟨b2, o2, rfl, hb2, hc2⟩ := (HMR.out.below hbw.out) k h1
        have HX2 := Lib.hid hb2; clear hb2
        go_wp2_with (at_builtin; go_must (refine wpList_appN (W := wr) rfl _ _ 94 rfl w.heap.size 83 (.int .u32 0) 1 4 Tryz.underlying94 info32 rfl (by decide) _ q.length (q.map e32) rfl (by exact how.out) _ 1 1 (by decide) rfl rfl (by simp [Value.oneCell']) (by unfold maxLen; omega) (by omega) (by omega) ?_))
        intro g cp w2 hown2 hbel2
        go_wp2
        go_roundw
        case rel =>
          try rw [hq] at hown2
          rw [show ((cy : Int) + (rd l k : Int) + (rd m k : Int)) / 4294967296 = (((cy + rd l k + rd m k) / 4294967296 : Nat) : Int) by omega]
          rw [show ((cy : Int) + (rd l k : Int) + (rd m k : Int)) % 4294967296 = (((cy + rd l k + rd m k) % 4294967296 : Nat) : Int) by omega] at hown2
          refine ⟨k + 1, _, q ++ [(cy + rd l k + rd m k) % 4294967296], by omega, by go_num, rfl, by omega, by simp; omega, gd_snoc hgq.out (Nat.mod_lt _ (by decide)), ?_, Own.app (by omega) hown2, hbw.out.trans hbel2⟩
          show _ = _
          rw [val_snoc, val_take_succ, val_take_succ, hq, Nat.pow_succ]; exact add_step hval.out add_low
        case measure => simp [intOf]; omega
      · have hz : rd m k = 0 := rd_out (by omega)
        have HZ := Lib.hid hz; clear hz
        go_wp2_with (at_builtin; go_must (refine wpList_appN (W := wr) rfl _ _ 94 rfl w.heap.size 83 (.int .u32 0) 1 4 Tryz.underlying94 info32 rfl (by decide) _ q.length (q.map e32) rfl (by exact how.out) _ 1 1 (by decide) rfl rfl (by simp [Value.oneCell']) (by unfold maxLen; omega) (by omega) (by omega) ?_))
        intro g cp w2 hown2 hbel2
        go_wp2
        go_roundw
        case rel =>
          try rw [hq] at hown2
          rw [show ((cy : Int) + (rd l k : Int)) / 4294967296 = (((cy + rd l k + rd m k) / 4294967296 : Nat) : Int) by rw [HZ.out]; omega]
          rw [show ((cy : Int) + (rd l k : Int)) % 4294967296 = (((cy + rd l k + rd m k) % 4294967296 : Nat) : Int) by rw [HZ.out]; omega] at hown2
          refine ⟨k + 1, _, q ++ [(cy + rd l k + rd m k) % 4294967296], by omega, by go_num, rfl, by omega, by simp; omega, gd_snoc hgq.out (Nat.mod_lt _ (by decide)), ?_, Own.app (by omega) hown2, hbw.out.trans hbel2⟩
          show _ = _
          rw [val_snoc, val_take_succ, val_take_succ, hq, Nat.pow_succ]; exact add_step hval.out add_low
        case measure => simp [intOf]; omega
    · obtain rfl : k = l.length := by omega
      have hv2 : Hid (val (q ++ [cy]) = s) := by
        have := hval.out
        rw [List.take_of_length_le hml, List.take_of_length_le (Nat.le_refl _), HS.out] at this
        show _ = _
        rw [val_snoc, hq, Nat.mul_comm]; exact this
      have hg2 : Hid (Gd (q ++ [cy])) := gd_snoc hgq.out (by omega)
      go_wp2_with (at_builtin; go_must (refine wpList_appN (W := wr) rfl _ _ 94 rfl w.heap.size 83 (.int .u32 0) 1 4 Tryz.underlying94 info32 rfl (by decide) _ q.length (q.map e32) rfl (by exact how.out) _ 1 1 (by decide) rfl rfl (by simp [Value.oneCell']) (by unfold maxLen; omega) (by omega) (by omega) ?_))
      intro g cp w2 hown2 hbel2
      try rw [hq] at hown2
      obtain ⟨how2, hl2, _⟩ := Ow.app (l := q) (x := cy) hown2
      have hr2 := how2.rd
      have ht := told_ok (some ⟨g, 0, none⟩) cp (q ++ [cy]) w2 hr2 (by obtain ⟨cur, h1, h2, h3, _⟩ := how2; exact h3) hg2.out (by simp; omega) (by rw [hv2.out]; exact HN.out)
      rw [hv2.out, ← hl2] at ht
      have HT := Lib.hid ht
      have hbb : Hid (Below w.heap.size w w2) := hbw.out.trans hbel2
      have hrr : Hid (Rd w2 (some ⟨g, 0, none⟩) (limbs s)) := by
        have h1 := how2.take (limbs s).length
        have h2 : limbs s = (q ++ [cy]).take (limbs s).length := by
          have := limbs_take hg2.out
          rwa [hv2.out] at this
        rw [← h2] at h1
        exact h1.rd
      clear ht hr2 how2 hown2 hbel2 hl2
      go_wp2_with fail
      try rw [hq]
      refine HT.out.mono ?_
      rintro e w' ⟨rfl, rfl⟩
      go_wp2
      go_ret2
      exact ⟨_, _, rfl, Nat.le_refl _, hrr.out, hbb.out⟩

theorem add_any (A B : Option Addr) (c d : Nat) (a b : Nat) (w : World) (h : Rd w A (limbs a)) (hm : Rd w B (limbs b)) (hn : (limbs (a + b)).length ≤ 256) :
    Calls Tryz.prog 102 #[.slice A (limbs a).length c, .slice B (limbs b).length d] w (AddPost w (a + b)) := by
  have l1 : (limbs a).length ≤ 256 := Nat.le_trans (limbs_length_mono (by omega)) hn
  have l2 : (limbs b).length ≤ 256 := Nat.le_trans (limbs_length_mono (by omega)) hn
  have HV1 := Lib.hid (fun w h => valid_any A c a w h l1)
  have HV2 := Lib.hid (fun w h => valid_any B d b w h l2)
  by_cases hlt : (limbs a).length < (limbs b).length
  · exact add_swap B A d c (limbs b) (limbs a) w (Lib.hid hm) (Lib.hid h) (Lib.hid (limbs_good b)) (Lib.hid (limbs_good a)) hlt (by omega) HV2 HV1 l2 (a + b) (Lib.hid (by rw [val_limbs, val_limbs, Nat.add_comm])) (Lib.hid hn)
  · exact add_keep A B c d (limbs a) (limbs b) w (Lib.hid h) (Lib.hid hm) (Lib.hid (limbs_good a)) (Lib.hid (limbs_good b)) hlt (by omega) HV1 HV2 l1 (a + b) (Lib.hid (by rw [val_limbs, val_limbs])) (Lib.hid hn)

end Go.Proofs.YtifcibbhblhfiaaGreatDoor
