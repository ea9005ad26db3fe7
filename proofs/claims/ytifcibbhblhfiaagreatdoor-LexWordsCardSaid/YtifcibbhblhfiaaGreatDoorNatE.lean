/- Walks of package nat: the product. -/
import Derived.Test.YtifcibbhblhfiaaGreatDoorNatD
namespace Go.Proofs.YtifcibbhblhfiaaGreatDoor
open Go.RowKit Pl
set_option linter.unusedVariables false

theorem Ow.made {w : World} {base g n : Nat} (h : w.ownsRow base 83 1 (.slice (some ⟨g, 0, none⟩) n n) n (madeCells #[.int .u32 0] n).toList) : Ow w g n (List.replicate n 0) := by
  have e : (madeCells #[.int .u32 0] n).toList = (List.replicate n 0).map e32 := by
    rw [List.map_replicate]; exact toList_madeCells_one _ _
  rw [e] at h
  exact (Ow.of_owns h).1

theorem Ow.le {w : World} {g c : Nat} {l : List Nat} (h : Ow w g c l) : l.length ≤ c := by obtain ⟨cur, h1, h2, h3, _⟩ := h; exact h3

set_option maxHeartbeats 1000000 in
theorem mul_any (A B : Option Addr) (c d : Nat) (a b : Nat) (w : World) (h : Rd w A (limbs a)) (hm : Rd w B (limbs b)) (h1 : (limbs a).length ≤ 256) (h2 : (limbs b).length ≤ 256) (hn : (limbs (a * b)).length ≤ 256) :
    Calls Tryz.prog 77 #[.slice A (limbs a).length c, .slice B (limbs b).length d] w (AddPost w (a * b)) := by
  have HV1 := Lib.hid (fun w h => valid_any A c a w h h1)
  have HV2 := Lib.hid (fun w h => valid_any B d b w h h2)
  have va := Lib.hid (val_limbs a); have vb := Lib.hid (val_limbs b)
  have ga := Lib.hid (limbs_good a); have gb := Lib.hid (limbs_good b)
  have HN := Lib.hid hn; clear hn
  have hA := Lib.hid h; have hB := Lib.hid hm
  clear h hm
  generalize limbs a = l at *
  generalize limbs b = m at *
  obtain ⟨i0, hi, hz0, hz1, hz2⟩ := info_parts info32
  have hb2 : i0.bytes * (l.length + m.length) ≤ 281474976710656 := by rw [hz2]; omega
  have hb3 : l.length + m.length ≤ maxLen := by unfold maxLen; omega
  have HB2 := Lib.hid hb2; have HB3 := Lib.hid hb3; have HI := Lib.hid hi; have HZ0 := Lib.hid hz0; have HZ1 := Lib.hid hz1
  clear hb2 hb3 hi hz0 hz1 hz2
  go_enter Tryz.func77, Tryz.ntmps77
  go_wp2_with fail
  refine (HV1.out _ hA.out).mono ?_
  rintro e w' ⟨rfl, rfl⟩
  go_wp2_with fail
  refine (HV2.out _ hB.out).mono ?_
  rintro e w' ⟨rfl, rfl⟩
  go_wp2_with (at_make; go_must (refine wpList_make_full _ rfl _ _ 94 rfl w.heap.size 83 i0 (.int .u32 0) 1 Tryz.underlying94 HI.out HZ0.out HZ1.out .i64 .i64 _ _ (l.length + m.length) rfl rfl ?_ ?_ HB2.out HB3.out (Nat.le_refl _) ?_))
  · omega
  · omega
  intro w1 hown hgr
  have hb1 : Below w.heap.size w w1 := ⟨hgr.os, hgr.tape, hgr.output, hgr.size, fun k hk => hgr.block k hk (by simp)⟩
  have HO := Lib.hid (Ow.made hown); have HB1 := Lib.hid hb1; have hsz := hb1.size
  obtain ⟨g, hg⟩ : ∃ g, g = w.heap.size := ⟨_, rfl⟩
  rw [← hg] at HO
  have hgs := HO.out.lt
  clear hown hgr hb1
  go_wp2
  rw [← hg]
  have HG := Lib.hid hg; clear hg
  go_loopw [28] (fun vi wr => ∃ (k : Nat) (q : List Nat), k ≤ l.length ∧ vi = .int .i64 (k : Int) ∧ q.length = l.length + m.length ∧ Hid (Gd q) ∧
      Hid (val q = val (l.take k) * val m) ∧ Hid (Ow wr g (l.length + m.length) q) ∧ Hid (Below g w wr)) (fun vi _ => (l.length - intOf vi).toNat)
  case atStart => exact ⟨0, List.replicate (l.length + m.length) 0, Nat.zero_le _, rfl, by simp, gd_zeros _, by simp [Hid, val, val_zeros], HO.out, by rw [HG.out]; exact HB1.out⟩
  case round =>
    obtain ⟨k, q, hk, rfl, hq, hgq, hval, how, hbw⟩ := hrel
    by_cases h0 : k < l.length
    · have hx := rd_lt ga.out k
      have hbw' : Hid (Below w.heap.size w wr) := by rw [HG.out] at hbw; exact hbw
      obtain ⟨b1, o1, rfl, hb1, hc1⟩ := (hA.out.below hbw'.out) k h0
      have HX1 := Lib.hid hb1; clear hb1
      go_wp2
      obtain ⟨wo, hwo⟩ : ∃ wo : World, wo = wr := ⟨_, rfl⟩
      go_loopw [35, 9] (fun vj vc wr => ∃ (j cy : Nat) (r : List Nat), j ≤ m.length ∧ vj = .int .i64 (j : Int) ∧ vc = .int .u64 (cy : Int) ∧ cy < 4294967296 ∧ r.length = l.length + m.length ∧ Hid (Gd r) ∧
          Hid (val r + cy * 4294967296 ^ (k + j) = val q + rd l k * val (m.take j) * 4294967296 ^ k) ∧ Hid (rd r (k + m.length) = 0) ∧ Hid (Ow wr g (l.length + m.length) r) ∧ Hid (Below g w wr)) (fun vj _ _ => (m.length - intOf vj).toNat)
      case atStart =>
        have hz : rd q (k + m.length) = 0 := by
          apply rd_high
          rw [hval.out, Nat.pow_add]
          have e1 := val_lt (ga.out.take k)
          rw [List.length_take, Nat.min_eq_left hk] at e1
          exact Nat.mul_lt_mul'' e1 (val_lt gb.out)
        exact ⟨0, 0, q, Nat.zero_le _, rfl, rfl, by omega, hq, hgq, by simp [Hid, val], hz, how, hbw⟩
      case round =>
        obtain ⟨j, cy, r, hj, rfl, rfl, hcy, hr, hgr, hvr, hzr, howr, hbr⟩ := hrel
        by_cases h1 : j < m.length
        · have hy := rd_lt gb.out j
          have hbr' : Hid (Below w.heap.size w wr) := by rw [HG.out] at hbr; exact hbr
          obtain ⟨b2, o2, rfl, hb2, hc2⟩ := (hB.out.below hbr'.out) j h1
          have HX2 := Lib.hid hb2; clear hb2
          have hc := howr.out.cell (k + j) (by omega)
          have hf := howr.out.free (k + j)
          have ho := rd_lt hgr.out (k + j)
          have hxy := mul_le32 hx hy
          have hxy2 : ((rd l k : Int) * (rd m j : Int)) ≤ 18446744065119617025 := by rw [← Int.natCast_mul]; omega
          have hxy3 : 0 ≤ ((rd l k : Int) * (rd m j : Int)) := by rw [← Int.natCast_mul]; omega
          go_wp2
          go_roundw
          case rel =>
            have e1 : ((cy : Int) + ((rd l k : Int) * (rd m j : Int) + (rd r (k + j) : Int))) = ((cy + (rd l k * rd m j + rd r (k + j)) : Nat) : Int) := by
              rw [Int.natCast_add, Int.natCast_add, Int.natCast_mul]
            rw [e1, show (((cy + (rd l k * rd m j + rd r (k + j)) : Nat) : Int) / 4294967296) = (((cy + (rd l k * rd m j + rd r (k + j))) / 4294967296 : Nat) : Int) by omega,
              show (((cy + (rd l k * rd m j + rd r (k + j)) : Nat) : Int) % 4294967296) = (((cy + (rd l k * rd m j + rd r (k + j))) % 4294967296 : Nat) : Int) by omega]
            have hset := val_set r (k + j) ((cy + (rd l k * rd m j + rd r (k + j))) % 4294967296) (by omega)
            refine ⟨j + 1, _, r.set (k + j) ((cy + (rd l k * rd m j + rd r (k + j))) % 4294967296), by omega, by go_num, rfl, by omega, by simpa using hr, hgr.out.set _ _ (Nat.mod_lt _ (by decide)), ?_, ?_, howr.out.set _ _, hbr.out.setCell (Nat.le_refl _) _⟩
            · show _ = _
              rw [val_take_succ, mul_next, show k + (j + 1) = (k + j) + 1 from rfl, Nat.pow_succ]
              exact mul_step hvr.out hset (by omega)
            · show _ = _
              rw [rd_set_ne _ _ _ _ (by omega)]; exact hzr.out
          case measure => simp [intOf]; omega
        · obtain rfl : j = m.length := by omega
          have hc := howr.out.cell (k + m.length) (by omega)
          have hf := howr.out.free (k + m.length)
          go_wp2
          go_roundw
          case rel =>
            refine ⟨k + 1, r.set (k + m.length) cy, by omega, by go_num, by simpa using hr, hgr.out.set _ _ hcy, ?_, howr.out.set _ _, hbr.out.setCell (Nat.le_refl _) _⟩
            show _ = _
            have hset := val_set r (k + m.length) cy (by omega)
            rw [hzr.out, Nat.mul_zero, Nat.add_zero] at hset
            rw [hset, Nat.mul_comm, hvr.out, hval.out, List.take_of_length_le (Nat.le_refl _), val_take_succ]
            grind
          case measure => simp [intOf]; omega
    · obtain rfl : k = l.length := by omega
      have hv : Hid (val q = a * b) := by
        have := hval.out
        rw [List.take_of_length_le (Nat.le_refl _), va.out, vb.out] at this
        exact this
      have hr2 := how.out.rd
      have ht := told_ok (some ⟨g, 0, none⟩) (l.length + m.length) q wr hr2 how.out.le hgq.out (by omega) (by rw [hv.out]; exact HN.out)
      rw [hv.out, hq] at ht
      have HT := Lib.hid ht
      have hrr : Hid (Rd wr (some ⟨g, 0, none⟩) (limbs (a * b))) := by
        have h1 := how.out.take (limbs (a * b)).length
        have h2 : limbs (a * b) = q.take (limbs (a * b)).length := by
          have := limbs_take hgq.out
          rwa [hv.out] at this
        rw [← h2] at h1
        exact h1.rd
      have hbb : Hid (Below w.heap.size w wr) := by rw [HG.out] at hbw; exact hbw
      clear ht hr2
      go_wp2_with fail
      refine HT.out.mono ?_
      rintro e w' ⟨rfl, rfl⟩
      go_wp2
      go_ret2
      exact ⟨_, _, rfl, Nat.le_refl _, hrr.out, hbb.out⟩

end Go.Proofs.YtifcibbhblhfiaaGreatDoor
