/- Walks of package nat: reading digits. -/
import Derived.Test.YtifcibbhblhfiaaGreatDoorNatG
import Derived.Lib.ConvBytes
import Derived.PlainAid
namespace Go.Proofs.YtifcibbhblhfiaaGreatDoor
open Go.RowKit Pl
set_option linter.unusedVariables false

def isDig (c : UInt8) : Bool := 48 ≤ c.toNat && c.toNat ≤ 57
def decVal (l : List UInt8) : Nat := l.foldl (fun v c => 10 * v + (c.toNat - 48)) 0

theorem decVal_succ (l : List UInt8) (i : Nat) (hi : i < l.length) : decVal (l.take (i + 1)) = 10 * decVal (l.take i) + (byt l i - 48) := by
  unfold decVal
  rw [List.take_succ_eq_append_getElem hi, List.foldl_append, byt_eq l i hi]; rfl

theorem foldl_ge (l : List UInt8) (v : Nat) : v ≤ l.foldl (fun v c => 10 * v + (c.toNat - 48)) v := by
  induction l generalizing v with
  | nil => exact Nat.le_refl _
  | cons c l ih => have := ih (10 * v + (c.toNat - 48)); rw [List.foldl_cons]; omega

theorem decVal_take_le (l : List UInt8) (i : Nat) : decVal (l.take i) ≤ decVal l := by
  have h : decVal l = (l.drop i).foldl (fun v c => 10 * v + (c.toNat - 48)) (decVal (l.take i)) := by
    unfold decVal; rw [← List.foldl_append, List.take_append_drop]
  rw [h]; exact foldl_ge _ _

theorem Own.shape {w : World} {base : Nat} {v : Value} {l : List Nat} (h : Own w base v l) : ∃ A c, v = .slice A l.length c ∧ l.length ≤ c ∧ (0 < l.length → ∃ g, A = some ⟨g, 0, none⟩ ∧ base ≤ g ∧ Ow w g c l) := by
  have h' := h
  obtain ⟨hl, ⟨h1, h2⟩ | ⟨g, cap, cur, hv, hb, hg, hc, hm, hs, ht⟩⟩ := h
  · rw [h2] at *
    exact ⟨none, 0, h1, Nat.le_refl _, fun h => absurd h (Nat.lt_irrefl 0)⟩
  · subst hv
    exact ⟨_, _, rfl, hc, fun _ => ⟨g, rfl, hb, (Ow.of_owns h').1⟩⟩

theorem Own.of_ow {w : World} {base g c : Nat} {l : List Nat} (h : Ow w g c l) (hb : base ≤ g) : Own w base (.slice (some ⟨g, 0, none⟩) l.length c) l := by
  obtain ⟨hl, ⟨h1, h2⟩ | ⟨g', cap, cur, hv, hb', hr⟩⟩ := h.owns
  · cases h1
  · cases hv
    exact ⟨hl, .inr ⟨g, c, cur, rfl, hb, hr⟩⟩

set_option maxRecDepth 100000 in
set_option maxHeartbeats 1000000 in
theorem parse_any (s : ByteArray) (w : World) (h0 : 0 < s.size) (hs : s.size ≤ 1024) (hd : ∀ i, i < s.size → 48 ≤ byt s.data.toList i ∧ byt s.data.toList i ≤ 57) (hn : (limbs (decVal s.data.toList)).length ≤ 256) :
    Calls Tryz.prog 76 #[.string s] w (AddPost w (decVal s.data.toList)) := by
  have hne : s.toList.isEmpty = false := by
    rw [ByteArray.toList_eq, List.isEmpty_eq_false_iff]
    intro h
    have : s.data.toList.length = 0 := by rw [h]; rfl
    rw [Array.length_toList] at this
    have h1 : s.data.size = s.size := rfl
    omega
  obtain ⟨c1, w1, hr1, hc1, hb1, hsz1, hcell1⟩ := conv_bytes (P := Tryz.prog) 9 38 5 s Tryz.underlying9 Tryz.underlying38 Tryz.underlying5 w
  obtain ⟨c2, w2, hr2, hc2, hb2, hsz2, hcell2⟩ := conv_bytes (P := Tryz.prog) 9 38 5 s Tryz.underlying9 Tryz.underlying38 Tryz.underlying5 w1
  have HC1 := Lib.hid hcell1; have HC2 := Lib.hid hcell2; have HD := Lib.hid hd; have HN := Lib.hid hn
  have HB1 := Lib.hid hb1; have HB2 := Lib.hid hb2; have HSZ1 := Lib.hid hsz1; have HSZ2 := Lib.hid hsz2
  clear hcell1 hcell2 hd hn hb1 hb2 hsz1 hsz2
  go_enter Tryz.func76, Tryz.ntmps76
  go_wp2
  go_loop [16] (fun v => ∃ k : Nat, k ≤ s.size ∧ v = .int .i64 (k : Int)) (fun v => (s.size - intOf v).toNat)
  case atStart => exact ⟨0, Nat.zero_le _, rfl⟩
  case round =>
    obtain ⟨k, hk, rfl⟩ := hrel
    by_cases hlt : k < s.size
    · have hc := HC1.out k hlt
      have hdd := HD.out k hlt
      have hb := byt_lt s.data.toList k
      have hd1 := hdd.1
      have hd2 := hdd.2
      clear hdd
      go_wp2
      go_round
      case rel => exact ⟨k + 1, by omega, by go_num⟩
      case measure => simp [intOf]; omega
    · obtain rfl : k = s.size := by omega
      go_wp2
      go_loopw [30, 4] (fun vi vo wr => ∃ i : Nat, i ≤ s.size ∧ vi = .int .i64 (i : Int) ∧ Hid (Own wr w2.heap.size vo (limbs (decVal (s.data.toList.take i)))) ∧ Hid (Below w2.heap.size w2 wr)) (fun vi _ _ => (s.size - intOf vi).toNat)
      case atStart => exact ⟨0, Nat.zero_le _, rfl, by show Own _ _ _ _; rw [List.take_zero, show decVal [] = 0 from rfl, limbs_zero]; exact World.ownsRow_nil _ _ _ _, Below.refl _ _⟩
      case round =>
        obtain ⟨i, hi, rfl, how, hbw⟩ := hrel
        have hsz : w.heap.size + 2 ≤ wr.heap.size := by have h1 := hbw.out.size; have h2 := HSZ1.out; have h3 := HSZ2.out; omega
        have hbel : Hid (Below w.heap.size w wr) := (HB1.out.trans ((HB2.out.mono (by rw [HSZ1.out]; omega)).trans (hbw.out.mono (by rw [HSZ2.out, HSZ1.out]; omega))))
        by_cases hlt : i < s.size
        · have hc : wr.cell? ⟨w1.heap.size, i, none⟩ = some (.int .u8 (byt s.data.toList i : Int)) := by
            rw [hbw.out.cell (p := ⟨w1.heap.size, i, none⟩) (by rw [HSZ2.out]; exact Nat.lt_succ_self _)]; exact HC2.out i hlt
          have hd1 := (HD.out i hlt).1
          have hd2 := (HD.out i hlt).2
          have hdv := decVal_succ s.data.toList i (by rw [Array.length_toList]; exact hlt)
          have hle := decVal_take_le s.data.toList (i + 1)
          have hl1 := Nat.le_trans (limbs_length_mono hle) HN.out
          rw [hdv] at hl1
          have HDV := Lib.hid hdv; have HL1 := Lib.hid hl1
          have hgv := Lib.hid (limbs_good (decVal (s.data.toList.take i)))
          have hvv := Lib.hid (val_limbs (decVal (s.data.toList.take i)))
          have hge := Lib.hid (limbs_val_ge (decVal (s.data.toList.take i)))
          have hl0 : (limbs (decVal (s.data.toList.take i))).length ≤ 256 := Nat.le_trans (limbs_length_mono (Nat.le_trans (by omega) (Nat.le_of_eq hdv.symm))) (Nat.le_trans (limbs_length_mono hle) HN.out)
          clear hdv hle hl1
          generalize decVal (s.data.toList.take i) = v at *
          generalize byt s.data.toList i = d at *
          obtain ⟨A, c, hA, hAc, hAg⟩ := how.out.shape
          subst hA
          generalize limbs v = l at *
          have HA := Lib.hid hAg; clear hAg
          go_wp2
          go_loopw [39, 9] (fun vj vc wr => ∃ (j cy : Nat) (r : List Nat), j ≤ l.length ∧ vj = .int .i64 (j : Int) ∧ vc = .int .u64 (cy : Int) ∧ cy ≤ 9 ∧ r.length = l.length ∧ Hid (Gd r) ∧
            Hid (val (r.take j) + cy * 4294967296 ^ j = 10 * val (l.take j) + (d - 48)) ∧ Hid (∀ t, j ≤ t → rd r t = rd l t) ∧ Hid (Own wr w2.heap.size (.slice A l.length c) r) ∧ Hid (Below w2.heap.size w2 wr)) (fun vj _ _ => (l.length - intOf vj).toNat)
          case atStart => exact ⟨0, d - 48, l, Nat.zero_le _, rfl, by simp; omega, by omega, rfl, hgv, by simp [Hid, val], fun _ _ => rfl, how, hbw⟩
          case round =>
            obtain ⟨j, cy, r, hj, rfl, rfl, hcy, hr, hgr, hvr, hrr, howr, hbr⟩ := hrel
            by_cases hjl : j < l.length
            · obtain ⟨A', c', hA', hc', hg'⟩ := howr.out.shape
              obtain ⟨g, hAg, hgb, hO⟩ := hg' (by omega)
              simp only [Value.slice.injEq] at hA'
              obtain ⟨hA1, hx9, hc1⟩ := hA'; clear hx9
              subst hc1
              rw [hAg] at hA1
              subst hA1
              clear hAg
              have hcell := hO.cell j (by omega)
              have hf := hO.free j
              have hx := rd_lt hgr.out j
              have HO := Lib.hid hO
              clear hg' hO
              go_wp2
              go_roundw
              case rel =>
                rw [show (((cy : Int) + (rd r j : Int) * 10) / 4294967296) = (((cy + rd r j * 10) / 4294967296 : Nat) : Int) by omega,
                  show (((cy : Int) + (rd r j : Int) * 10) % 4294967296) = (((cy + rd r j * 10) % 4294967296 : Nat) : Int) by omega]
                have hset := HO.out.set j ((cy + rd r j * 10) % 4294967296)
                have hown := Own.of_ow hset hgb
                rw [List.length_set, hr] at hown
                have hjr : j < r.length := by omega
                refine ⟨j + 1, _, r.set j ((cy + rd r j * 10) % 4294967296), by omega, by go_num, rfl, by omega, by simpa using hr, hgr.out.set _ _ (Nat.mod_lt _ (by decide)), ?_, ?_, hown, hbr.out.setCell hgb _⟩
                · show _ = _
                  rw [val_take_succ, val_take_succ, List.take_set_of_le (Nat.le_refl _), Nat.pow_succ, ← hrr.out j (Nat.le_refl _), rd_set_self _ _ _ hjr]
                  exact ten_step hvr.out (by omega)
                · intro t ht
                  rw [rd_set_ne _ _ _ _ (by omega)]; exact hrr.out t (by omega)
              case measure => simp [intOf]; omega
            · obtain rfl : j = l.length := by omega
              have hv2 : val r + cy * 4294967296 ^ l.length = 10 * v + (d - 48) := by
                have := hvr.out
                rwa [List.take_of_length_le (by omega), List.take_of_length_le (Nat.le_refl _), hvv.out] at this
              have HV2 := Lib.hid hv2; have HR := Lib.hid hr
              clear hv2
              by_cases hcy0 : cy = 0
              · subst hcy0
                have hlr : limbs (10 * v + (d - 48)) = r := by
                  have h1 := HV2.out
                  rw [Nat.zero_mul, Nat.add_zero] at h1
                  rw [← h1]
                  apply limbs_of_val hgr.out
                  rw [HR.out, h1]
                  rcases hge.out with h2 | h2
                  · exact .inl h2
                  · exact .inr (by omega)
                have HLR := Lib.hid hlr
                have hl256 : r.length ≤ 256 := by rw [← hlr]; exact HL1.out
                clear hlr hr
                have hl256' : l.length ≤ 256 := hl0
                go_wp2
                go_roundw
                case rel => exact ⟨i + 1, by omega, by go_num, by show Own _ _ _ _; rw [HDV.out, HLR.out]; exact howr.out, hbr.out⟩
                case measure => simp [intOf]; omega
              · have hlr : limbs (10 * v + (d - 48)) = r ++ [cy] := by
                  have h1 := HV2.out
                  have h3 : val (r ++ [cy]) = 10 * v + (d - 48) := by rw [val_snoc, HR.out, Nat.mul_comm]; exact h1
                  rw [← h3]
                  apply limbs_of_val (gd_snoc hgr.out (by omega))
                  right
                  rw [val_snoc, List.length_append, List.length_singleton, Nat.add_sub_cancel]
                  have : 4294967296 ^ r.length * 1 ≤ 4294967296 ^ r.length * cy := Nat.mul_le_mul_left _ (by omega)
                  omega
                have HLR := Lib.hid hlr
                have hl256 : r.length + 1 ≤ 256 := by have := HL1.out; rw [hlr, List.length_append, List.length_singleton] at this; exact this
                have hszr := hbr.out.size
                have hcp : 0 < cy := by omega
                clear hlr
                go_wp2_with (at_builtin; go_must (refine wpList_appN (W := wr) rfl _ _ 94 rfl w2.heap.size 83 (.int .u32 0) 1 4 Tryz.underlying94 info32 rfl (by decide) _ r.length (r.map e32) rfl (by have := howr.out; unfold Own at this; rwa [HR.out] at this ⊢) _ 1 1 (by decide) rfl rfl (by simp [Value.oneCell']) (by unfold maxLen; omega) (by omega) (by omega) ?_))
                intro g cp w3 hown3 hbel3
                have hbel4 : Below w2.heap.size w2 w3 := hbr.out.trans hbel3
                have hown4 : Own w3 w2.heap.size (.slice (some ⟨g, 0, none⟩) (l.length + 1) cp) (r ++ [cy]) := Own.app (by rw [HR.out]) (by simpa [e32] using hown3)
                have HO4 := Lib.hid hown4; have HB4 := Lib.hid hbel4
                have hl257 : l.length + 1 ≤ 256 := by rw [← HR.out]; exact hl256
                clear hown3 hbel3 hown4 hbel4 hr
                go_wp2
                exact ⟨⟨i + 1, by omega, by go_num, by show Own _ _ _ _; rw [HDV.out, HLR.out]; exact HO4.out, HB4.out⟩, by simp [intOf]; omega⟩
        · obtain rfl : i = s.size := by omega
          have e : s.data.toList.take s.size = s.data.toList := List.take_of_length_le (by rw [Array.length_toList]; exact Nat.le_refl _)
          have how' := how.out
          rw [e] at how'
          obtain ⟨A, c, hA, hAc, hAg⟩ := how'.shape
          subst hA
          clear how' how
          have hrd : Hid (Rd wr A (limbs (decVal s.data.toList))) := by
            show Rd _ _ _
            by_cases h1 : 0 < (limbs (decVal s.data.toList)).length
            · obtain ⟨g, rfl, hgb, hO⟩ := hAg h1
              exact hO.rd
            · intro i hi; omega
          have HA := Lib.hid hAg; clear hAg e
          go_wp2_with (go_at_call 84; refine (clip_any _ _ _ _ hAc).mono ?_; rintro e w' ⟨rfl, rfl⟩)
          go_ret2
          exact ⟨_, _, rfl, Nat.le_refl _, hrd.out, hbel.out⟩

end Go.Proofs.YtifcibbhblhfiaaGreatDoor
