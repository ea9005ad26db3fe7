/- Walks of package num: digits, power. -/
import Derived.Test.YtifcibbhblhfiaaGreatDoorDecC
namespace Go.Proofs.YtifcibbhblhfiaaGreatDoor
open Go.RowKit Pl
set_option linter.unusedVariables false

def ndig (l : List UInt8) : Nat := (l.takeWhile isD).length
theorem ndig_le (l : List UInt8) : ndig l ≤ l.length := (List.takeWhile_prefix _).length_le
theorem ndig_drop (l : List UInt8) : (Lib.trimLeftS l (bl digCut)).length = l.length - ndig l := by
  have h : (l.takeWhile isD).length + (l.dropWhile isD).length = l.length := by rw [← List.length_append, List.takeWhile_append_dropWhile]
  have e : Lib.trimLeftS l (bl digCut) = l.dropWhile isD := rfl
  rw [e]; unfold ndig; omega
theorem ndig_digs (l : List UInt8) : isDigs (l.take (ndig l)) := by
  have e : l.take (ndig l) = l.takeWhile isD := by
    have h := List.takeWhile_prefix (p := isD) (l := l)
    exact (List.prefix_iff_eq_take.1 h).symm
  rw [e]
  intro i hi
  have hm : (l.takeWhile isD)[i] ∈ l.takeWhile isD := List.getElem_mem hi
  have := List.all_eq_true.1 (List.all_takeWhile (l := l) (p := isD)) _ hm
  rw [byt_eq _ i hi]
  exact (isD_iff _).1 this

set_option maxHeartbeats 400000 in
theorem digits_any (s : ByteArray) (w : World) (hs : s.size ≤ 4294967295) :
    Calls Tryz.prog 61 #[.string s] w fun e w' => e = .returned (.int .i64 (ndig (bl s) : Int)) ∧ Below w.heap.size w w' := by
  have ht := Lib.hid (trimLeft_any s digCut w (by decide) (by decide))
  have hl := Lib.hid (bl_len s)
  go_enter Tryz.func61, Tryz.ntmps61
  go_wp2_with fail
  refine ht.out.mono ?_
  rintro e w1 ⟨t, rfl, h1, hb1⟩
  have h2 := ndig_drop (bl s)
  have h3 := ndig_le (bl s)
  rw [← h1, bl_len, hl.out] at h2
  rw [hl.out] at h3
  have H2 := Lib.hid h2; have HB := Lib.hid hb1
  have h4 : t.size ≤ s.size := by omega
  clear h1 h2 hb1
  go_wp2
  go_ret
  exact ⟨ret_int (by rw [H2.out]; omega), HB.out⟩

def powF (l : List UInt8) : Nat := l.foldl (fun n c => min (10 * n + (c.toNat - 48)) 100000) 0
def powI (l : List UInt8) (minus : Bool) : Int := if minus then -(powF l : Int) else (powF l : Int)
theorem powF_succ (l : List UInt8) (i : Nat) (hi : i < l.length) : powF (l.take (i + 1)) = min (10 * powF (l.take i) + (byt l i - 48)) 100000 := by
  unfold powF
  rw [List.take_succ_eq_append_getElem hi, List.foldl_append, byt_eq l i hi]; rfl
theorem powF_le (l : List UInt8) : powF l ≤ 100000 := by
  have h : ∀ (l : List UInt8) (n : Nat), n ≤ 100000 → l.foldl (fun n c => min (10 * n + (c.toNat - 48)) 100000) n ≤ 100000 := by
    intro l
    induction l with
    | nil => intro n h; exact h
    | cons c l ih => intro n _; exact ih _ (Nat.min_le_right _ _)
  exact h l 0 (by decide)
theorem powI_le (l : List UInt8) (m : Bool) : -100000 ≤ powI l m ∧ powI l m ≤ 100000 := by
  have := powF_le l
  unfold powI; split <;> omega

set_option maxRecDepth 100000 in
set_option maxHeartbeats 400000 in
theorem power_any (s : ByteArray) (minus : Bool) (w : World) (hs : s.size ≤ 4294967295) (hd : isDigs (bl s)) :
    Calls Tryz.prog 62 #[.string s, .bool minus] w fun e w' => e = .returned (.int .i64 (powI (bl s) minus)) ∧ Below w.heap.size w w' := by
  obtain ⟨c1, w1, hr1, hc1, hb1, hsz1, hcell1⟩ := conv_bytes (P := Tryz.prog) 9 38 5 s Tryz.underlying9 Tryz.underlying38 Tryz.underlying5 w
  have HC1 := Lib.hid hcell1; have HB1 := Lib.hid hb1; have HL := Lib.hid (bl_len s); have HD := Lib.hid hd
  clear hcell1 hb1 hsz1 hd
  go_enter Tryz.func62, Tryz.ntmps62
  go_wp2
  go_loop [11, 5] (fun v vn => ∃ (k n : Nat), k ≤ s.size ∧ v = .int .i64 (k : Int) ∧ vn = .int .i64 (n : Int) ∧ n ≤ 100000 ∧ Hid (n = powF ((bl s).take k))) (fun v _ => (s.size - intOf v).toNat)
  case atStart => exact ⟨0, 0, Nat.zero_le _, rfl, rfl, Nat.zero_le _, rfl⟩
  case round =>
    obtain ⟨k, n, hk, rfl, rfl, hn, hp⟩ := hrel
    by_cases hlt : k < s.size
    · have hc := HC1.out k hlt
      have hdd := HD.out k (by rw [HL.out]; exact hlt)
      have hb : byt (bl s) k < 256 := byt_lt _ k
      have hd1 := hdd.1
      have hd2 := hdd.2
      clear hdd
      rw [show s.data.toList = bl s from rfl] at hc
      go_wp2
      go_round
      case rel =>
        refine ⟨k + 1, min (10 * n + (byt (bl s) k - 48)) 100000, by omega, by go_num, ?_, by omega, ?_⟩
        · rw [show min (10 * (n : Int) + ((byt (bl s) k : Int) - 48)) 100000 = ((min (10 * n + (byt (bl s) k - 48)) 100000 : Nat) : Int) by omega]
        · show _ = _
          rw [powF_succ _ _ (by rw [HL.out]; exact hlt), ← hp.out]
      case measure => simp [intOf]; omega
    · obtain rfl : k = s.size := by omega
      have hp2 := hp.out
      rw [List.take_of_length_le (by rw [HL.out]; exact Nat.le_refl _)] at hp2
      have HP2 := Lib.hid hp2; clear hp2
      cases minus
      all_goals
        go_wp2
        go_ret
        exact ⟨ret_int (by unfold powI; rw [← HP2.out]; simp), HB1.out⟩

end Go.Proofs.YtifcibbhblhfiaaGreatDoor
