/- Walks of the reference of package lex: Slash; the law LexWords. (printed by refslash.py) -/
import Derived.Test.YtifcibbhblhfiaaGreatDoorLexWc
import Derived.Test.YtifcibbhblhfiaaGreatDoorLexV
namespace Go.Proofs.YtifcibbhblhfiaaGreatDoor
open Go.RowKit Pl
set_option linter.unusedVariables false

theorem bl_two (s : ByteArray) (k : Nat) (h : k + 1 < s.size) : bl (s.extract k (k + 2)) = [(bl s).getD k 0, (bl s).getD (k + 1) 0] := by
  have h9 : k + 1 < (bl s).length := by rw [bl_len]; exact h
  rw [bl_cut, Nat.add_sub_cancel_left, List.getD_eq_getElem?_getD, List.getD_eq_getElem?_getD, List.getElem?_eq_getElem h9, List.getElem?_eq_getElem (Nat.lt_of_succ_lt h9), List.drop_eq_getElem_cons (Nat.lt_of_succ_lt h9), List.drop_eq_getElem_cons h9]
  rfl

set_option maxRecDepth 100000 in
set_option maxHeartbeats 4000000 in
theorem ref_slash (s : ByteArray) (w : World) (hs : s.size ≤ 1000000) :
    Calls Tryz.prog 13 #[.string s] w fun e w' => e = .returned (.string ⟨(slashW (bl s)).toArray⟩) ∧ w = w' := by
  have HL := Lib.hid (bl_len s)
  have HGB := Lib.hid (get_byt s)
  go_enter Tryz.func13, Tryz.ntmps13
  go_wp2_with fail
  go_loopw [3, 4] (fun vo vi wx => ∃ (k : Nat) (o : ByteArray), k ≤ s.size ∧ o.size ≤ 2 * k + 1 ∧ vi = .int .i64 (k : Int) ∧ vo = .string o ∧ Hid (47 :: slashB (bl s) = bl o ++ slashB ((bl s).drop k)) ∧ w = wx) (fun _ vi _ => (s.size - intOf vi).toNat)
  case atStart => exact ⟨0, _, Nat.zero_le _, by show (1 : Nat) ≤ _; omega, rfl, rfl, rfl, rfl⟩
  case round =>
    obtain ⟨k, o, hk, hos, rfl, rfl, hl, rfl⟩ := hrel
    by_cases hlt : k < s.size
    · have hcell := HGB.out k hlt
      obtain ⟨x, hx⟩ : ∃ x, x = (bl s).getD k 0 := ⟨_, rfl⟩
      have hxb : byt (bl s) k = x.toNat := by rw [byt_getD, hx]
      obtain ⟨c, hc⟩ : ∃ c, c = x.toNat := ⟨_, rfl⟩
      have hc8 : c < 256 := by rw [hc]; exact x.toNat_lt
      rw [hxb, ← hc] at hcell
      have hsb : slashB ((bl s).drop k) = if c = 47 then [92, 47] ++ slashB ((bl s).drop (k + 1)) else if c = 92 ∧ (bl s).drop (k + 1) ≠ [] then [x, ((bl s).drop (k + 1)).getD 0 0] ++ slashB (((bl s).drop (k + 1)).drop 1) else [x] ++ slashB ((bl s).drop (k + 1)) := by
        rw [drop_byt (bl s) k (by rw [HL.out]; exact hlt), slashB_cons, ← hx, ← hc]
      have HSB := Lib.hid hsb
      have HCX := Lib.hid hc
      have hk0 : (0 : Int) ≤ (k : Int) := by omega
      have hk1 : (k : Int) < (s.size : Int) := by omega
      have hw1 : IntKind.i64.wrap ((k : Int) + 1) = (k : Int) + 1 := IntWalk.i64_in _ (by omega)
      have hk2 : (k : Int) ≤ (k : Int) + 1 := by omega
      have hk3 : (k : Int) + 1 ≤ (s.size : Int) := by omega
      have hk4 : ((k : Int) + 1).toNat = k + 1 := by omega
      by_cases hb : c = 92 ∧ k + 1 < s.size
      · have h1 : k + 1 < (bl s).length := by rw [HL.out]; exact hb.2
        have hne : (bl s).drop (k + 1) ≠ [] := by
          rw [drop_byt (bl s) (k + 1) h1]; simp
        obtain ⟨y, hy⟩ : ∃ y, y = (bl s).getD (k + 1) 0 := ⟨_, rfl⟩
        have HTWO : Hid (bl (s.extract k (k + 2)) = [x, y]) := by show _ = _; rw [bl_two s k hb.2, hx, hy]
        have hone : (s.extract k (k + 2)).size = 2 := by rw [← bl_len, HTWO.out]; rfl
        have hq : Hid (slashB ((bl s).drop k) = [x, y] ++ slashB ((bl s).drop (k + 2))) := by
          show _ = _
          rw [HSB.out, if_neg (by rw [hb.1]; decide), if_pos ⟨hb.1, hne⟩, drop_getD, hy, List.drop_drop]
        have q92 : ((c : Int) == 92) = true := by rw [hb.1]; rfl
        have hj1 : (k : Int) + 1 < (s.size : Int) := by omega
        have hj2 : (k : Int) ≤ (k : Int) + 2 := by omega
        have hj3 : (k : Int) + 2 ≤ (s.size : Int) := by omega
        have hj4 : ((k : Int) + 2).toNat = k + 2 := by omega
        have hw2 : IntKind.i64.wrap ((k : Int) + 2) = (k : Int) + 2 := IntWalk.i64_in _ (by omega)
        have hkb : k + 2 ≤ s.size := by omega
        clear hb hne h1 hy hx hxb hc hsb
        have hnew : ∀ o' : ByteArray, bl o' = bl o ++ [x, y] → Hid (47 :: slashB (bl s) = bl o' ++ slashB ((bl s).drop (k + 2))) := fun o' h => by show _ = _; rw [h, hl.out, hq.out, List.append_assoc]
        have HNEW := Lib.hid hnew
        have hsz : ∀ o' : ByteArray, bl o' = bl o ++ [x, y] → o'.size ≤ 2 * (k + 2) + 1 := fun o' h => by rw [← bl_len, h, List.length_append, bl_len]; simp only [List.length_cons, List.length_nil]; omega
        have HSZ := Lib.hid hsz
        clear hnew hsz
        go_wp2_with fail
        go_roundw
        case rel => exact ⟨k + 2, _, by omega, HSZ.out _ (by rw [bl_app, HTWO.out]), by go_num, rfl, HNEW.out _ (by rw [bl_app, HTWO.out]), trivial⟩
        case measure => simp [intOf]; omega
      · have HONE : Hid (bl (s.extract k (k + 1)) = [x]) := by show _ = _; rw [bl_one s k hlt, hx]
        have hone : (s.extract k (k + 1)).size = 1 := by rw [← bl_len, HONE.out]; rfl
        have hgo : ((c : Int) == 92) = false ∨ (((c : Int) == 92) = true ∧ decide (k + 1 < s.size) = false ∧ ¬ ((k : Int) + 1 < (s.size : Int))) := by
          by_cases h92 : c = 92
          · exact .inr ⟨by rw [h92]; rfl, decide_eq_false (fun h => hb ⟨h92, h⟩), fun h => hb ⟨h92, by omega⟩⟩
          · exact .inl (beq_eq_false_iff_ne.2 (by omega))
        have HB := Lib.hid hb
        clear hb hx hxb hc hsb
        by_cases h47 : c = 47
        · have hq : Hid (slashB ((bl s).drop k) = [92, 47] ++ slashB ((bl s).drop (k + 1))) := by show _ = _; rw [HSB.out, if_pos h47]
          have hx47 : Hid (x = 47) := UInt8.toNat_inj.1 (by rw [← HCX.out, h47]; rfl)
          have q47 : ((c : Int) == 47) = true := by rw [h47]; rfl
          have q92 : ((c : Int) == 92) = false := beq_eq_false_iff_ne.2 (by omega)
          clear h47 hgo
          have hnew : ∀ o' : ByteArray, bl o' = bl o ++ [92, 47] → Hid (47 :: slashB (bl s) = bl o' ++ slashB ((bl s).drop (k + 1))) := fun o' h => by show _ = _; rw [h, hl.out, hq.out, List.append_assoc]
          have HNEW := Lib.hid hnew
          have hsz : ∀ o' : ByteArray, bl o' = bl o ++ [92, 47] → o'.size ≤ 2 * (k + 1) + 1 := fun o' h => by rw [← bl_len, h, List.length_append, bl_len]; simp only [List.length_cons, List.length_nil]; omega
          have HSZ := Lib.hid hsz
          clear hnew hsz
          go_wp2_with fail
          go_roundw
          case rel => exact ⟨k + 1, _, by omega, HSZ.out _ (by rw [bl_app, bl_app, HONE.out, hx47.out, List.append_assoc]; rfl), by go_num, rfl, HNEW.out _ (by rw [bl_app, bl_app, HONE.out, hx47.out, List.append_assoc]; rfl), trivial⟩
          case measure => simp [intOf]; omega
        · have hq : Hid (slashB ((bl s).drop k) = [x] ++ slashB ((bl s).drop (k + 1))) := by
            show _ = _
            rw [HSB.out, if_neg h47, if_neg]
            rintro ⟨h1, h2⟩
            refine HB.out ⟨h1, ?_⟩
            rcases Nat.lt_or_ge (k + 1) s.size with h | h
            · exact h
            · exact absurd (List.drop_eq_nil_of_le (by rw [HL.out]; exact h)) h2
          have q47 : ((c : Int) == 47) = false := beq_eq_false_iff_ne.2 (by omega)
          clear h47
          rcases hgo with q92 | ⟨q92, hz1, hz2⟩
          all_goals
            have hnew : ∀ o' : ByteArray, bl o' = bl o ++ [x] → Hid (47 :: slashB (bl s) = bl o' ++ slashB ((bl s).drop (k + 1))) := fun o' h => by show _ = _; rw [h, hl.out, hq.out, List.append_assoc]
            have HNEW := Lib.hid hnew
            have hsz : ∀ o' : ByteArray, bl o' = bl o ++ [x] → o'.size ≤ 2 * (k + 1) + 1 := fun o' h => by rw [← bl_len, h, List.length_append, bl_len]; simp only [List.length_cons, List.length_nil]; omega
            have HSZ := Lib.hid hsz
            clear hnew hsz
            go_wp2_with fail
            go_roundw
            case rel => exact ⟨k + 1, _, by omega, HSZ.out _ (by rw [bl_app, HONE.out]), by go_num, rfl, HNEW.out _ (by rw [bl_app, HONE.out]), trivial⟩
            case measure => simp [intOf]; omega
    · have hke : s.size ≤ k := by omega
      have HR : Hid (bl o ++ [47] = slashW (bl s)) := by
        show _ = _
        have h := hl.out
        rw [List.drop_eq_nil_of_le (by rw [HL.out]; exact hke), slashB, List.append_nil] at h
        rw [← h]; rfl
      have hge : ¬ ((k : Int) < (s.size : Int)) := by omega
      clear hke
      go_wp2_with fail
      go_ret
      refine ⟨?_, rfl⟩
      rw [← HR.out]
      exact congrArg (fun z => Ending.returned (.string z)) (bl_ext (by rw [bl_app]; rfl))

set_option maxRecDepth 100000 in
set_option maxHeartbeats 4000000 in
theorem words_any (s : ByteArray) (w : World) (hG : Gl w) (hsz : s.size ≤ 9223372036854775807) :
    Calls Tryz.prog 3 #[.string s] w fun e w' => e = .returned (.bool true) ∧ Below w.heap.size w w' := by
  have hfx := Lib.hid (fixed_any w hG)
  have HG := Lib.hid hG; clear hG
  go_enter Tryz.func3, Tryz.ntmps3
  go_wp2_with fail
  refine hfx.out.mono ?_
  rintro e w1 ⟨rfl, hb1⟩
  have HB1 := Lib.hid hb1
  have HG1 := Lib.hid (HG.out.below hb1 HG.out.lt)
  clear hfx hb1
  by_cases hbig : 20000 < s.size
  · have hbi : (20000 : Int) < (s.size : Int) := by omega
    go_wp2_with fail
    go_ret
    exact ⟨rfl, HB1.out⟩
  · have hbi : ¬ ((20000 : Int) < (s.size : Int)) := by omega
    have hs2 : s.size ≤ 20000 := by omega
    clear hbig hsz
    have hc := Lib.hid (lx_word s w1 HG1.out)
    obtain ⟨b1, hb1⟩ : ∃ b, b = isWord s := ⟨_, rfl⟩
    obtain ⟨b2, hb2⟩ : ∃ b, b = isBuiltin s := ⟨_, rfl⟩
    have hx1 : isWordX s = b1 := by rw [hb1, isWord_eq]
    have hx2 : isBuiltinX s = b2 := by rw [hb2, isBuiltin_eq]
    have H1 := Lib.hid hb1; have H2 := Lib.hid hb2; have H3 := Lib.hid hx1; have H4 := Lib.hid hx2
    rw [← hb1] at hc
    clear hb1 hb2 hx1 hx2
    go_wp2_with fail
    refine hc.out.mono ?_
    rintro e w2 ⟨rfl, hbe⟩
    have HB2 := Lib.hid (HB1.out.trans (hbe.mono HB1.out.size))
    have hc2 := Lib.hid (ref_word s w2)
    rw [H3.out] at hc2
    clear hbe hc
    go_wp2_with fail
    refine hc2.out.mono ?_
    rintro e w3 ⟨rfl, hbe⟩
    have HB3 := Lib.hid (HB2.out.trans (hbe.mono HB2.out.size))
    have hc3 := Lib.hid (lx_builtin s w3 (HG.out.below HB3.out HG.out.lt))
    rw [← H2.out] at hc3
    clear hbe hc2
    cases b1
    all_goals
      go_wp2_with fail
      refine hc3.out.mono ?_
      rintro e w4 ⟨rfl, hbe⟩
      have HB4 := Lib.hid (HB3.out.trans (hbe.mono HB3.out.size))
      clear hbe hc3
      obtain ⟨w5, hw5⟩ : ∃ w5, w5 = w4.alloc (.cells (builtinsX.map Value.string).toArray 9) := ⟨_, rfl⟩
      have hc4 : Hid (Calls Tryz.prog 9 #[] w4 fun e w' => e = .returned (.slice (some ⟨w4.heap.size, 0, none⟩) 31 31) ∧ w5 = w') := (ref_builtins w4).mono fun _ _ ⟨h, h'⟩ => ⟨h, by rw [hw5, h']⟩
      have hc5 := Lib.hid (in_builtins s w4 w5 hw5)
      rw [H4.out] at hc5
      have HB5 : Hid (Below w.heap.size w w5) := by rw [hw5]; exact HB4.out.alloc HB4.out.size _
      clear hw5
      go_wp2_with fail
      refine hc4.out.mono ?_
      rintro e w' ⟨rfl, rfl⟩
      go_wp2_with fail
      refine hc5.out.mono ?_
      rintro e w' ⟨rfl, rfl⟩
      have hc6 := Lib.hid (quote_any s w5 (by omega))
      clear hc4 hc5
      cases b2
      all_goals
        go_wp2_with fail
        refine hc6.out.mono ?_
        rintro e w6 ⟨rfl, hbe⟩
        have HB6 := Lib.hid (HB5.out.trans (hbe.mono HB5.out.size))
        have hc7 := Lib.hid (ref_quote s w6 (by omega))
        clear hbe hc6
        go_wp2_with fail
        refine hc7.out.mono ?_
        rintro e w7 ⟨rfl, hbe⟩
        have HB7 := Lib.hid (HB6.out.trans (hbe.mono HB6.out.size))
        have hc8 := Lib.hid (slashQ_any s w7 (by omega))
        clear hbe hc7
        go_wp2_with fail
        refine hc8.out.mono ?_
        rintro e w8 ⟨rfl, hbe⟩
        have HB8 := Lib.hid (HB7.out.trans (hbe.mono HB7.out.size))
        have hc9 := Lib.hid (ref_slash s w8 (by omega))
        clear hbe hc8
        go_wp2_with fail
        refine hc9.out.mono ?_
        rintro e w9 ⟨rfl, rfl⟩
        go_wp2_with fail
        go_ret
        exact ⟨rfl, HB8.out⟩

end Go.Proofs.YtifcibbhblhfiaaGreatDoor
