/- Walks of package nat: shifting. -/
import Derived.Test.YtifcibbhblhfiaaGreatDoorNatE
namespace Go.Proofs.YtifcibbhblhfiaaGreatDoor
open Go.RowKit Pl
set_option linter.unusedVariables false

set_option maxHeartbeats 1000000 in
theorem shl_any (A : Option Addr) (c : Nat) (n k : Nat) (w : World) (h : Rd w A (limbs n)) (h1 : (limbs n).length ≤ 256) (hk : k ≤ 8192) (hn : (limbs (n * 2 ^ k)).length ≤ 256) :
    Calls Tryz.prog 101 #[.slice A (limbs n).length c, .int .i64 (k : Int)] w (AddPost w (n * 2 ^ k)) := by
  have HV1 := Lib.hid (fun w h => valid_any A c n w h h1)
  have hA := Lib.hid h; clear h
  have HN := Lib.hid hn; clear hn
  by_cases hz : (limbs n).length = 0
  · have e0 : n = 0 := (limbs_nil_iff n).1 (List.eq_nil_of_length_eq_zero hz)
    subst e0
    have HV0 : Hid (Calls Tryz.prog 85 #[.slice A 0 c] w fun e w' => e = .returned (.bool true) ∧ w = w') := by
      have := HV1.out w hA.out
      rw [hz] at this
      exact this
    rw [hz]
    clear HV1 hA HN hz h1
    go_enter Tryz.func101, Tryz.ntmps101
    go_wp2_with fail
    refine HV0.out.mono ?_
    rintro e w' ⟨rfl, rfl⟩
    go_wp2
    go_ret2
    refine ⟨none, 0, ?_, ?_, ?_, Below.refl _ _⟩
    · rw [Nat.zero_mul, limbs_zero]; rfl
    · rw [Nat.zero_mul, limbs_zero]; exact Nat.le_refl _
    · rw [Nat.zero_mul, limbs_zero]; exact Rd.nil _ _
  · have va := Lib.hid (val_limbs n)
    have ga := Lib.hid (limbs_good n)
    have hz' : (((limbs n).length : Int) == 0) = false := beq_eq_false_iff_ne.2 (by omega)
    generalize limbs n = l at *
    have hr := Lib.hid (Nat.mod_lt k (show 0 < 32 by decide))
    have hks := Lib.hid (Nat.div_add_mod k 32)
    have hkd : k / 32 ≤ 256 := by omega
    go_enter Tryz.func101, Tryz.ntmps101
    go_wp2_with fail
    refine (HV1.out _ hA.out).mono ?_
    rintro e w' ⟨rfl, rfl⟩
    go_wp2_with (at_make; go_must (refine wpList_make1 rfl _ _ 94 rfl 83 (.int .u32 0) 4 Tryz.underlying94 info32 rfl .i64 .i64 _ _ (k / 32) (k / 32 + l.length + 1) rfl rfl ?_ ?_ (by omega) (by omega) (by unfold maxLen; omega) ?_))
    · omega
    · omega
    intro w1 hown hbel
    have HO := Lib.hid hown; have HB1 := Lib.hid hbel; have hsz := hbel.size
    clear hown hbel
    go_wp2
    go_loopw [36, 7, 6] (fun vi vc vo wr => ∃ (i cy : Nat) (q : List Nat), i ≤ l.length ∧ vi = .int .i64 (i : Int) ∧ vc = .int .u32 (cy : Int) ∧ Hid (cy < 2 ^ (k % 32)) ∧ q.length = i ∧ Hid (Gd q) ∧
      Hid (val q + cy * 4294967296 ^ i = val (l.take i) * 2 ^ (k % 32)) ∧ Hid (Own wr w.heap.size vo (List.replicate (k / 32) 0 ++ q)) ∧ Hid (Below w.heap.size w wr)) (fun vi _ _ _ => (l.length - intOf vi).toNat)
    case atStart => exact ⟨0, 0, [], Nat.zero_le _, rfl, rfl, Nat.two_pow_pos _, rfl, good_nil, by simp [Hid, val], by show Own _ _ _ _; unfold Own; simpa [e32] using HO.out, HB1.out⟩
    case round =>
      obtain ⟨i, cy, q, hi, rfl, rfl, hcy, hq, hgq, hval, how, hbw⟩ := hrel
      have hszw := hbw.out.size
      by_cases h0 : i < l.length
      · have hx := rd_lt ga.out i
        obtain ⟨b1, o1, rfl, hb1, hc1⟩ := (hA.out.below hbw.out) i h0
        have HX1 := Lib.hid hb1; clear hb1
        have hql : (List.replicate (k / 32) 0 ++ q).length = k / 32 + i := by simp [hq]
        have HQL := Lib.hid hql; clear hql
        go_wp2_with (at_builtin; go_must (refine wpList_appN (W := wr) rfl _ _ 94 rfl w.heap.size 83 (.int .u32 0) 1 4 Tryz.underlying94 info32 rfl (by decide) _ (k / 32 + i) ((List.replicate (k / 32) 0 ++ q).map e32) rfl (by have := how.out; unfold Own at this; rwa [HQL.out] at this) _ 1 1 (by decide) rfl rfl (by simp [Value.oneCell']) (by unfold maxLen; omega) (by omega) (by omega) ?_))
        intro g cp w2 hown2 hbel2
        go_wp2
        go_roundw
        case rel =>
          have e1 : IntKind.u64.wrap ((rd l i : Int) * 2 ^ (k % 32)) = ((rd l i * 2 ^ (k % 32) : Nat) : Int) := by
            have := shl_lt (rd l i) (k % 32) hx (by omega)
            have e : (rd l i : Int) * 2 ^ (k % 32) = ((rd l i * 2 ^ (k % 32) : Nat) : Int) := by rw [Int.natCast_mul, Int.natCast_pow]; rfl
            rw [e, u64_wrap_nat _ (by omega)]
          have hh := shl_high (rd l i) (k % 32) hx
          have hp : 2 ^ (k % 32) ≤ 2 ^ 31 := Nat.pow_le_pow_right (by decide) (by omega)
          have hcy' : cy < 4294967296 := by have := hcy.out; omega
          have he := shl_elem (rd l i) (k % 32) cy (by omega) hcy.out
          rw [e1] at hown2 ⊢
          rw [show ((rd l i * 2 ^ (k % 32) : Nat) : Int) / 4294967296 % 4294967296 = ((rd l i * 2 ^ (k % 32) / 4294967296 : Nat) : Int) by omega]
          rw [show ((rd l i * 2 ^ (k % 32) : Nat) : Int) % 4294967296 = ((rd l i * 2 ^ (k % 32) % 4294967296 : Nat) : Int) by omega, u32_or_nat _ _ (Nat.mod_lt _ (by decide)) hcy', shl_split (rd l i) (k % 32) cy (by omega) hcy.out] at hown2
          have hown3 := Own.app (l := List.replicate (k / 32) 0 ++ q) (x := rd l i * 2 ^ (k % 32) % 4294967296 + cy) (n := k / 32 + i + 1) (by rw [HQL.out]) (by simpa [e32] using hown2)
          rw [List.append_assoc] at hown3
          refine ⟨i + 1, _, q ++ [rd l i * 2 ^ (k % 32) % 4294967296 + cy], by omega, by go_num, rfl, hh, by simp; omega, gd_snoc hgq.out he, ?_, hown3, hbw.out.trans hbel2⟩
          show _ = _
          rw [val_snoc, val_take_succ, hq, Nat.pow_succ]
          exact shl_step hval.out (by omega)
        case measure => simp [intOf]; omega
      · obtain rfl : i = l.length := by omega
        have hcy' : cy < 4294967296 := by
          have hp : 2 ^ (k % 32) ≤ 2 ^ 31 := Nat.pow_le_pow_right (by decide) (by omega)
          have := hcy.out; omega
        have hv2 : Hid (val (List.replicate (k / 32) 0 ++ q ++ [cy]) = n * 2 ^ k) := by
          have := hval.out
          rw [List.take_of_length_le (Nat.le_refl _), va.out] at this
          show _ = _
          rw [List.append_assoc, val_append, val_zeros, val_snoc, hq, List.length_replicate, Nat.zero_add, Nat.mul_comm (4294967296 ^ l.length), this, two_pow_32]
          have e : k = 32 * (k / 32) + k % 32 := by omega
          rw [show n * 2 ^ k = n * 2 ^ (32 * (k / 32) + k % 32) by rw [← e], Nat.pow_add]
          grind
        have hg2 : Hid (Gd (List.replicate (k / 32) 0 ++ q ++ [cy])) := by
          refine gd_snoc ?_ hcy'
          intro x hx
          rcases List.mem_append.1 hx with hx | hx
          · exact gd_zeros _ x hx
          · exact hgq.out x hx
        have hql : (List.replicate (k / 32) 0 ++ q).length = k / 32 + l.length := by simp [hq]
        have HQL := Lib.hid hql; clear hql
        go_wp2_with (at_builtin; go_must (refine wpList_appN (W := wr) rfl _ _ 94 rfl w.heap.size 83 (.int .u32 0) 1 4 Tryz.underlying94 info32 rfl (by decide) _ (k / 32 + l.length) ((List.replicate (k / 32) 0 ++ q).map e32) rfl (by have := how.out; unfold Own at this; rwa [HQL.out] at this) _ 1 1 (by decide) rfl rfl (by simp [Value.oneCell']) (by unfold maxLen; omega) (by omega) (by omega) ?_))
        intro g cp w2 hown2 hbel2
        obtain ⟨how2, hl2, _⟩ := Ow.app (l := List.replicate (k / 32) 0 ++ q) (x := cy) (by simpa [e32] using hown2)
        have hr2 := how2.rd
        have ht := told_ok (some ⟨g, 0, none⟩) cp _ w2 hr2 how2.le hg2.out (by rw [← hl2]; omega) (by rw [hv2.out]; exact HN.out)
        rw [hv2.out, ← hl2] at ht
        have HT := Lib.hid ht
        have hbb : Hid (Below w.heap.size w w2) := hbw.out.trans hbel2
        have hrr : Hid (Rd w2 (some ⟨g, 0, none⟩) (limbs (n * 2 ^ k))) := by
          have h1 := how2.take (limbs (n * 2 ^ k)).length
          have h2 : limbs (n * 2 ^ k) = (List.replicate (k / 32) 0 ++ q ++ [cy]).take (limbs (n * 2 ^ k)).length := by
            have := limbs_take hg2.out
            rwa [hv2.out] at this
          rw [← h2] at h1
          exact h1.rd
        clear ht hr2 how2 hown2 hbel2 hl2
        go_wp2_with fail
        refine HT.out.mono ?_
        rintro e w' ⟨rfl, rfl⟩
        go_wp2
        go_ret2
        exact ⟨_, _, rfl, Nat.le_refl _, hrr.out, hbb.out⟩

end Go.Proofs.YtifcibbhblhfiaaGreatDoor
