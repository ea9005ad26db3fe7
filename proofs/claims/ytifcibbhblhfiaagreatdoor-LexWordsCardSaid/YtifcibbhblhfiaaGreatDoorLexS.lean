/- Walks of package lex: Slash. -/
import Derived.Test.YtifcibbhblhfiaaGreatDoorLexR
namespace Go.Proofs.YtifcibbhblhfiaaGreatDoor
open Go.RowKit Pl
set_option linter.unusedVariables false

theorem slashB_cons (c : UInt8) (t : List UInt8) : slashB (c :: t) = if c.toNat = 47 then [92, 47] ++ slashB t else if c.toNat = 92 ∧ t ≠ [] then [c, t.getD 0 0] ++ slashB (t.drop 1) else [c] ++ slashB t := by
  cases t with
  | nil =>
    by_cases h : c.toNat = 47
    · simp [slashB, h]
    · simp [slashB, h]
  | cons d r =>
    by_cases h : c.toNat = 47
    · simp [slashB, h]
    · by_cases h2 : c.toNat = 92
      · simp [slashB, h2]
      · simp [slashB, h, h2]

set_option maxRecDepth 100000 in
set_option maxHeartbeats 2000000 in
theorem slashQ_any (s : ByteArray) (w : World) (hs : s.size ≤ 1000000) :
    Calls Tryz.prog 12 #[.string s] w fun e w' => e = .returned (.string ⟨(slashW (bl s)).toArray⟩) ∧ Below w.heap.size w w' := by
  have HL := Lib.hid (bl_len s)
  obtain ⟨base, hbase⟩ : ∃ b, b = w.heap.size := ⟨_, rfl⟩
  have HB := Lib.hid hbase
  rw [← hbase]
  have O0 : Hid (Ob (w.alloc (.cells #[.int .u8 47] 5)) base (.slice (some ⟨base, 0, none⟩) 1 1) [47]) := by
    have h := own_new w #[.int .u8 47] 5 1 base rfl (by omega) (by unfold maxLen; omega)
    rw [← hbase] at h
    exact h
  have X0 : Hid (Below base w (w.alloc (.cells #[.int .u8 47] 5))) := (Below.refl base w).alloc (by omega) _
  have hbw2 : base ≤ (w.alloc (.cells #[.int .u8 47] 5)).heap.size := by simp; omega
  have hg := get_byt s
  clear hbase
  go_enter Tryz.func12, Tryz.ntmps12
  go_wp2_with fail
  rw [← HB.out]
  go_loopw [3, 4] (fun vo vi wx => ∃ (k : Nat) (l : List UInt8) (g cp : Nat), k ≤ s.size ∧ l.length ≤ 2 * k + 1 ∧ base ≤ wx.heap.size ∧ vi = .int .i64 (k : Int) ∧ vo = .slice (some ⟨g, 0, none⟩) l.length cp ∧ Hid (47 :: slashB (bl s) = l ++ slashB ((bl s).drop k)) ∧ Hid (Ob wx base (.slice (some ⟨g, 0, none⟩) l.length cp) l) ∧ Hid (Below base w wx)) (fun _ vi _ => (s.size - intOf vi).toNat)
  case atStart => exact ⟨0, [47], base, 1, Nat.zero_le _, by simp, hbw2, rfl, rfl, rfl, O0.out, X0.out⟩
  case round =>
    obtain ⟨k, l, g0, cp0, hk, hll, hbw, rfl, rfl, hl, O, X⟩ := hrel
    clear O0 X0 hbw2
    by_cases hlt : k < s.size
    · have hgk := hg k hlt
      obtain ⟨x, hx⟩ : ∃ x, x = (bl s).getD k 0 := ⟨_, rfl⟩
      have hxb : byt (bl s) k = x.toNat := by rw [byt_getD, hx]
      obtain ⟨c, hc⟩ : ∃ c, c = x.toNat := ⟨_, rfl⟩
      have hc8 : c < 256 := by rw [hc]; exact x.toNat_lt
      rw [hxb, ← hc] at hgk
      have hsb : slashB ((bl s).drop k) = if c = 47 then [92, 47] ++ slashB ((bl s).drop (k + 1)) else if c = 92 ∧ (bl s).drop (k + 1) ≠ [] then [x, ((bl s).drop (k + 1)).getD 0 0] ++ slashB (((bl s).drop (k + 1)).drop 1) else [x] ++ slashB ((bl s).drop (k + 1)) := by
        rw [drop_byt (bl s) k (by rw [HL.out]; exact hlt), slashB_cons, ← hx, ← hc]
      have HSB := Lib.hid hsb
      have HCX := Lib.hid hc
      have hk0 : (0 : Int) ≤ (k : Int) := by omega
      have hk1 : (k : Int) < (s.size : Int) := by omega
      clear hx hxb hc hsb
      by_cases hb : c = 47
      · have hq : Hid (slashB ((bl s).drop k) = [92, 47] ++ slashB ((bl s).drop (k + 1))) := by show _ = _; rw [HSB.out, if_pos hb]
        have q47 : ((c : Int) == 47) = true := by rw [hb]; rfl
        clear hg
        go_wp2_with (at_builtin; go_must (refine wpList_appN (W := _) rfl _ _ 38 rfl base 5 (.int .u8 0) 1 1 Tryz.underlying38 infoByte rfl (by decide) _ l.length (l.map e8) rfl (by exact O.out) _ 2 2 (by decide) rfl rfl (by simp [Value.oneCell']) (by unfold maxLen; omega) (by omega) (by exact hbw) ?_))
        intro g cp w3 hown hb
        have X3 := Lib.hid (X.out.trans hb)
        have hbw3 : base ≤ w3.heap.size := Nat.le_trans hbw hb.size
        have hO := Ob.appN (new := [92, 47]) (by rfl) (by rfl) hown
        have O3 := Lib.hid hO
        clear hown hb hO
        go_wp2
        go_roundw
        case rel => exact ⟨k + 1, l ++ [92, 47], g, cp, by omega, by simp only [List.length_append, List.length_cons, List.length_nil]; omega, hbw3, by go_num, by simp only [List.length_append, List.length_cons, List.length_nil], by show _ = _; rw [hl.out, hq.out, List.append_assoc], by have h := O3.out; simp only [List.length_append, List.length_cons, List.length_nil] at h ⊢; exact h, X3.out⟩
        case measure => simp [intOf]; omega
      · have q47 : ((c : Int) == 47) = false := beq_eq_false_iff_ne.2 (by omega)
        have HB47 := Lib.hid hb
        clear hb
        by_cases hb : c = 92 ∧ k + 1 < s.size
        · have h1 : k + 1 < (bl s).length := by rw [HL.out]; exact hb.2
          have hne : (bl s).drop (k + 1) ≠ [] := by
            rw [drop_byt (bl s) (k + 1) h1]; simp
          obtain ⟨y, hy⟩ : ∃ y, y = (bl s).getD (k + 1) 0 := ⟨_, rfl⟩
          have hyb : byt (bl s) (k + 1) = y.toNat := by rw [byt_getD, hy]
          have hkk : k + 1 < s.size := hb.2
          have hgk2 := hg (k + 1) hkk
          obtain ⟨d, hd⟩ : ∃ d, d = y.toNat := ⟨_, rfl⟩
          rw [hyb, ← hd] at hgk2
          have HDY := Lib.hid hd
          have hq : Hid (slashB ((bl s).drop k) = [x, y] ++ slashB ((bl s).drop (k + 2))) := by
            show _ = _
            rw [HSB.out, if_neg HB47.out, if_pos ⟨hb.1, hne⟩, drop_getD, hy, List.drop_drop]
          have q92 : ((c : Int) == 92) = true := by rw [hb.1]; rfl
          have hk2 : (k : Int) + 1 < (s.size : Int) := by omega
          have hw1 : IntKind.i64.wrap ((k : Int) + 1) = (k : Int) + 1 := IntWalk.i64_in _ (by omega)
          have hk3 : (0 : Int) ≤ (k : Int) + 1 := by omega
          have hk4 : ((k : Int) + 1).toNat = k + 1 := by omega
          clear hg hb hne h1 hy hyb hd
          go_wp2_with fail
          go_region_law (refine step_appB (by rfl) _ _ 38 (by rfl) base 5 (.int .u8 0) 1 1 Tryz.underlying38 infoByte (by rfl) (by decide) _ _ _ (by rfl) (owns_alloc_of O.out ⟨_, rfl⟩) wr.heap.size #[.int .u8 (c : Int), .int .u8 (d : Int)] 2 2 (by decide) (by rfl) (by rfl) (by exact heap_alloc_new wr _) (by simp [Value.oneCell']) (by unfold maxLen; omega) (by omega) (by simp; omega) ?_; intro g cp w3 hown hb)
          all_goals
            have hb2 : Below base wr w3 := Below.trans (((Below.refl base wr).alloc hbw _).drew) hb
            have X3 := Lib.hid (X.out.trans hb2)
            have hbw3 : base ≤ w3.heap.size := Nat.le_trans hbw hb2.size
            have hO := Ob.appN (new := [x, y]) (by rfl) (by simp only [List.map, e8_of HCX.out.symm, e8_of HDY.out.symm]) hown
            have O3 := Lib.hid hO
            clear hown hb hb2 hO
            go_wp2
            go_roundw
            case rel => exact ⟨k + 2, l ++ [x, y], g, cp, by omega, by simp only [List.length_append, List.length_cons, List.length_nil]; omega, hbw3, by go_num, by simp only [List.length_append, List.length_cons, List.length_nil], by show _ = _; rw [hl.out, hq.out, List.append_assoc], by have h := O3.out; simp only [List.length_append, List.length_cons, List.length_nil] at h ⊢; exact h, X3.out⟩
            case measure => simp [intOf]; omega
        · have hq : Hid (slashB ((bl s).drop k) = [x] ++ slashB ((bl s).drop (k + 1))) := by
            show _ = _
            rw [HSB.out, if_neg HB47.out, if_neg]
            rintro ⟨h1, h2⟩
            refine hb ⟨h1, ?_⟩
            rcases Nat.lt_or_ge (k + 1) s.size with h | h
            · exact h
            · exact absurd (List.drop_eq_nil_of_le (by rw [HL.out]; exact h)) h2
          have hcase : (((c : Int) == 92) = false) ∨ (((c : Int) == 92) = true ∧ ¬ ((k : Int) + 1 < (s.size : Int))) := by
            by_cases h : c = 92
            · exact .inr ⟨by rw [h]; rfl, by omega⟩
            · exact .inl (beq_eq_false_iff_ne.2 (by omega))
          clear hg hb
          rcases hcase with q92 | ⟨q92, hq2⟩
          all_goals
            go_wp2_with (at_builtin; go_must (refine wpList_appN (W := _) rfl _ _ 38 rfl base 5 (.int .u8 0) 1 1 Tryz.underlying38 infoByte rfl (by decide) _ l.length (l.map e8) rfl (by exact O.out) _ 1 1 (by decide) rfl rfl (by simp [Value.oneCell']) (by unfold maxLen; omega) (by omega) (by exact hbw) ?_))
            intro g cp w3 hown hb
            have X3 := Lib.hid (X.out.trans hb)
            have hbw3 : base ≤ w3.heap.size := Nat.le_trans hbw hb.size
            have hO := Ob.appN (new := [x]) (by rfl) (by simp only [List.map, e8_of HCX.out.symm]) hown
            have O3 := Lib.hid hO
            clear hown hb hO
            go_wp2
            go_roundw
            case rel => exact ⟨k + 1, l ++ [x], g, cp, by omega, by simp only [List.length_append, List.length_cons, List.length_nil]; omega, hbw3, by go_num, by simp only [List.length_append, List.length_cons, List.length_nil], by show _ = _; rw [hl.out, hq.out, List.append_assoc], by have h := O3.out; simp only [List.length_append, List.length_cons, List.length_nil] at h ⊢; exact h, X3.out⟩
            case measure => simp [intOf]; omega
    · have HKE : Hid (s.size ≤ k) := Nat.le_of_not_lt hlt
      have hge : ¬ ((k : Int) < (s.size : Int)) := by omega
      clear hlt hg
      go_wp2_with (at_builtin; go_must (refine wpList_appN (W := _) rfl _ _ 38 rfl base 5 (.int .u8 0) 1 1 Tryz.underlying38 infoByte rfl (by decide) _ l.length (l.map e8) rfl (by exact O.out) _ 1 1 (by decide) rfl rfl (by simp [Value.oneCell']) (by unfold maxLen; omega) (by omega) (by exact hbw) ?_))
      intro g cp w3 hown hb
      have X3 := Lib.hid (X.out.trans hb)
      have hO := Ob.appN (new := [47]) (by rfl) (by rfl) hown
      have hcv : (convert 38 9 (.slice (some ⟨g, 0, none⟩) (l.length + 1) cp)).run Tryz.prog w3 = .ok (.string ⟨(l ++ [47]).toArray⟩) w3 := hO.str
      clear hown hb hO
      go_wp2_with fail
      go_ret
      refine ⟨?_, X3.out⟩
      have h := hl.out
      rw [List.drop_eq_nil_of_le (by rw [HL.out]; exact HKE.out), slashB, List.append_nil] at h
      rw [← h]
      rfl

end Go.Proofs.YtifcibbhblhfiaaGreatDoor
