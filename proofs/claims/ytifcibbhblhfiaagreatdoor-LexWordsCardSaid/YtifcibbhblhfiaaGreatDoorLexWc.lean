/- Walks of the reference of package lex: Quote. (printed by refquote.py) -/
import Derived.Test.YtifcibbhblhfiaaGreatDoorLexWa
import Derived.Test.YtifcibbhblhfiaaGreatDoorLexS
namespace Go.Proofs.YtifcibbhblhfiaaGreatDoor
open Go.RowKit Pl
set_option linter.unusedVariables false

theorem bl_one (s : ByteArray) (k : Nat) (h : k < s.size) : bl (s.extract k (k + 1)) = [(bl s).getD k 0] := by
  have h9 : k < (bl s).length := by rw [bl_len]; exact h
  rw [bl_cut, Nat.add_sub_cancel_left, List.getD_eq_getElem?_getD, List.getElem?_eq_getElem h9, List.drop_eq_getElem_cons h9]
  rfl
theorem size_of {o : ByteArray} {l : List UInt8} {n : Nat} (h : bl o = l) (hn : l.length ≤ n) : o.size ≤ n := by rw [← bl_len, h]; exact hn

theorem conv_oct (c : Nat) (h : c < 256) (w : World) : (convert 38 9 (.slice (some ⟨w.heap.size, 0, none⟩) 3 3)).run Tryz.prog (w.alloc (.cells #[.int .u8 (48 + (c : Int) / 64), .int .u8 (48 + (c : Int) / 8 % 8), .int .u8 (48 + (c : Int) % 8)] 5)) = .ok (.string ⟨#[(48 + c / 64).toUInt8, (48 + c / 8 % 8).toUInt8, (48 + c % 8).toUInt8]⟩) (w.alloc (.cells #[.int .u8 (48 + (c : Int) / 64), .int .u8 (48 + (c : Int) / 8 % 8), .int .u8 (48 + (c : Int) % 8)] 5)) := by
  have h0 := own_new w #[.int .u8 (48 + (c : Int) / 64), .int .u8 (48 + (c : Int) / 8 % 8), .int .u8 (48 + (c : Int) % 8)] 5 3 w.heap.size rfl (Nat.le_refl _) (by unfold maxLen; omega)
  have hc := oct_cells c h
  have hc2 : [Value.int .u8 (48 + (c : Int) / 64), .int .u8 (48 + (c : Int) / 8 % 8), .int .u8 (48 + (c : Int) % 8)] = [(48 + c / 64).toUInt8, (48 + c / 8 % 8).toUInt8, (48 + c % 8).toUInt8].map e8 := by
    injection hc
  have h1 : Ob (w.alloc (.cells #[.int .u8 (48 + (c : Int) / 64), .int .u8 (48 + (c : Int) / 8 % 8), .int .u8 (48 + (c : Int) % 8)] 5)) w.heap.size (.slice (some ⟨w.heap.size, 0, none⟩) 3 3) [(48 + c / 64).toUInt8, (48 + c / 8 % 8).toUInt8, (48 + c % 8).toUInt8] := by
    unfold Ob
    rw [← hc2]; exact h0
  exact h1.str

set_option maxRecDepth 100000 in
set_option maxHeartbeats 4000000 in
theorem ref_quote (s : ByteArray) (w : World) (hs : s.size ≤ 1000000) :
    Calls Tryz.prog 11 #[.string s] w fun e w' => e = .returned (.string ⟨(quoteL (bl s)).toArray⟩) ∧ Below w.heap.size w w' := by
  have HL := Lib.hid (bl_len s)
  have HGB := Lib.hid (get_byt s)
  go_enter Tryz.func11, Tryz.ntmps11
  go_wp2_with fail
  go_loopw [3, 4] (fun vo vi wx => ∃ (k : Nat) (o : ByteArray), k ≤ s.size ∧ o.size ≤ 4 * k + 1 ∧ vi = .int .i64 (k : Int) ∧ vo = .string o ∧ Hid (bl o = 34 :: ((bl s).take k).flatMap quoteB) ∧ Hid (Below w.heap.size w wx)) (fun _ vi _ => (s.size - intOf vi).toNat)
  case atStart => exact ⟨0, _, Nat.zero_le _, by show (1 : Nat) ≤ _; omega, rfl, rfl, rfl, Below.refl _ _⟩
  case round =>
    obtain ⟨k, o, hk, hos, rfl, rfl, hl, X⟩ := hrel
    by_cases hlt : k < s.size
    · have hcell := HGB.out k hlt
      obtain ⟨x, hx⟩ : ∃ x, x = (bl s).getD k 0 := ⟨_, rfl⟩
      have hxb : byt (bl s) k = x.toNat := by rw [byt_getD, hx]
      obtain ⟨c, hc⟩ : ∃ c, c = x.toNat := ⟨_, rfl⟩
      have hc8 : c < 256 := by rw [hc]; exact x.toNat_lt
      rw [hxb, ← hc] at hcell
      have hfm : Hid (((bl s).take (k + 1)).flatMap quoteB = ((bl s).take k).flatMap quoteB ++ quoteB x) := by
        show _ = _
        have h9 : k < (bl s).length := by rw [HL.out]; exact hlt
        rw [List.take_succ_eq_append_getElem h9, List.flatMap_append, hx, List.getD_eq_getElem?_getD, List.getElem?_eq_getElem h9]; simp
      have HONE : Hid (bl (s.extract k (k + 1)) = [x]) := by show _ = _; rw [bl_one s k hlt, hx]
      have HCX := Lib.hid hc
      have hone : (s.extract k (k + 1)).size = 1 := by rw [← bl_len, HONE.out]; rfl
      have hk0 : (0 : Int) ≤ (k : Int) := by omega
      have hk1 : (k : Int) < (s.size : Int) := by omega
      have hw1 : IntKind.i64.wrap ((k : Int) + 1) = (k : Int) + 1 := IntWalk.i64_in _ (by omega)
      have hk2 : (k : Int) ≤ (k : Int) + 1 := by omega
      have hk3 : (k : Int) + 1 ≤ (s.size : Int) := by omega
      have hk4 : ((k : Int) + 1).toNat = k + 1 := by omega
      clear hx hxb hc
      by_cases hb : c = 34
      · have hq : Hid (quoteB x = [92, x]) := by show _ = _; unfold quoteB; rw [← HCX.out]; rw [if_pos (.inl hb)]
        have q34 : ((c : Int) == 34) = true := by rw [hb]; rfl
        clear hb
        have hnew : ∀ o' : ByteArray, bl o' = bl o ++ [92, x] → Hid (bl o' = 34 :: ((bl s).take (k + 1)).flatMap quoteB) := fun o' h => by show _ = _; rw [h, hl.out, hfm.out, hq.out]; rfl
        have HNEW := Lib.hid hnew
        have hsz : ∀ o' : ByteArray, bl o' = bl o ++ [92, x] → o'.size ≤ 4 * (k + 1) + 1 := fun o' h => by rw [← bl_len, h, List.length_append, bl_len]; simp only [List.length_cons, List.length_nil]; omega
        have HSZ := Lib.hid hsz
        clear hnew hsz
        go_wp2_with fail
        go_roundw
        case rel => exact ⟨k + 1, _, by omega, HSZ.out _ (by rw [bl_app, bl_app, HONE.out]; rfl), by go_num, rfl, HNEW.out _ (by rw [bl_app, bl_app, HONE.out]; rfl), X.out⟩
        case measure => simp [intOf]; omega
      · have q34 : ((c : Int) == 34) = false := beq_eq_false_iff_ne.2 (by omega)
        have HB34 := Lib.hid hb
        clear hb
        by_cases hb : c = 92
        · have hq : Hid (quoteB x = [92, x]) := by show _ = _; unfold quoteB; rw [← HCX.out]; rw [if_pos (.inr hb)]
          have q92 : ((c : Int) == 92) = true := by rw [hb]; rfl
          clear hb
          have hnew : ∀ o' : ByteArray, bl o' = bl o ++ [92, x] → Hid (bl o' = 34 :: ((bl s).take (k + 1)).flatMap quoteB) := fun o' h => by show _ = _; rw [h, hl.out, hfm.out, hq.out]; rfl
          have HNEW := Lib.hid hnew
          have hsz : ∀ o' : ByteArray, bl o' = bl o ++ [92, x] → o'.size ≤ 4 * (k + 1) + 1 := fun o' h => by rw [← bl_len, h, List.length_append, bl_len]; simp only [List.length_cons, List.length_nil]; omega
          have HSZ := Lib.hid hsz
          clear hnew hsz
          go_wp2_with fail
          go_roundw
          case rel => exact ⟨k + 1, _, by omega, HSZ.out _ (by rw [bl_app, bl_app, HONE.out]; rfl), by go_num, rfl, HNEW.out _ (by rw [bl_app, bl_app, HONE.out]; rfl), X.out⟩
          case measure => simp [intOf]; omega
        · have q92 : ((c : Int) == 92) = false := beq_eq_false_iff_ne.2 (by omega)
          have HQ1 : Hid (¬ (c = 34 ∨ c = 92)) := fun h => h.elim HB34.out hb
          clear hb
          by_cases hb : c = 10
          · have hq : Hid (quoteB x = [92, 110]) := by show _ = _; unfold quoteB; rw [← HCX.out]; rw [if_neg HQ1.out, if_pos hb]
            have q10 : ((c : Int) == 10) = true := by rw [hb]; rfl
            clear hb
            have hnew : ∀ o' : ByteArray, bl o' = bl o ++ [92, 110] → Hid (bl o' = 34 :: ((bl s).take (k + 1)).flatMap quoteB) := fun o' h => by show _ = _; rw [h, hl.out, hfm.out, hq.out]; rfl
            have HNEW := Lib.hid hnew
            have hsz : ∀ o' : ByteArray, bl o' = bl o ++ [92, 110] → o'.size ≤ 4 * (k + 1) + 1 := fun o' h => by rw [← bl_len, h, List.length_append, bl_len]; simp only [List.length_cons, List.length_nil]; omega
            have HSZ := Lib.hid hsz
            clear hnew hsz
            go_wp2_with fail
            go_roundw
            case rel => exact ⟨k + 1, _, by omega, HSZ.out _ (by rw [bl_app]; rfl), by go_num, rfl, HNEW.out _ (by rw [bl_app]; rfl), X.out⟩
            case measure => simp [intOf]; omega
          · have q10 : ((c : Int) == 10) = false := beq_eq_false_iff_ne.2 (by omega)
            have HB10 := Lib.hid hb
            clear hb
            by_cases hb : c = 9
            · have hq : Hid (quoteB x = [92, 116]) := by show _ = _; unfold quoteB; rw [← HCX.out]; rw [if_neg HQ1.out, if_neg HB10.out, if_pos hb]
              have q9 : ((c : Int) == 9) = true := by rw [hb]; rfl
              clear hb
              have hnew : ∀ o' : ByteArray, bl o' = bl o ++ [92, 116] → Hid (bl o' = 34 :: ((bl s).take (k + 1)).flatMap quoteB) := fun o' h => by show _ = _; rw [h, hl.out, hfm.out, hq.out]; rfl
              have HNEW := Lib.hid hnew
              have hsz : ∀ o' : ByteArray, bl o' = bl o ++ [92, 116] → o'.size ≤ 4 * (k + 1) + 1 := fun o' h => by rw [← bl_len, h, List.length_append, bl_len]; simp only [List.length_cons, List.length_nil]; omega
              have HSZ := Lib.hid hsz
              clear hnew hsz
              go_wp2_with fail
              go_roundw
              case rel => exact ⟨k + 1, _, by omega, HSZ.out _ (by rw [bl_app]; rfl), by go_num, rfl, HNEW.out _ (by rw [bl_app]; rfl), X.out⟩
              case measure => simp [intOf]; omega
            · have q9 : ((c : Int) == 9) = false := beq_eq_false_iff_ne.2 (by omega)
              have HB9 := Lib.hid hb
              clear hb
              by_cases hb : c < 32 ∨ 126 < c
              · have hb2 : (c : Int) < 32 ∨ (¬ ((c : Int) < 32) ∧ 126 < (c : Int)) := by omega
                have hq0 := Lib.hid hb
                clear hb
                rcases hb2 with hb | ⟨hb1, hb⟩
                all_goals
                  have hq : Hid (quoteB x = [92, (48 + c / 64).toUInt8, (48 + c / 8 % 8).toUInt8, (48 + c % 8).toUInt8]) := by show _ = _; unfold quoteB; rw [← HCX.out]; rw [if_neg HQ1.out, if_neg HB10.out, if_neg HB9.out, if_pos hq0.out]
                  have hcv := conv_oct c hc8 wr
                  obtain ⟨oc, hoc⟩ : ∃ oc : ByteArray, oc = ⟨#[(48 + c / 64).toUInt8, (48 + c / 8 % 8).toUInt8, (48 + c % 8).toUInt8]⟩ := ⟨_, rfl⟩
                  have hocs : oc.size = 3 := by rw [hoc]; rfl
                  have HOC : Hid (bl oc = [(48 + c / 64).toUInt8, (48 + c / 8 % 8).toUInt8, (48 + c % 8).toUInt8]) := by rw [hoc]; rfl
                  rw [← hoc] at hcv
                  clear hoc
                  have HWS := Lib.hid (X.out.size)
                  have hnew : ∀ o' : ByteArray, bl o' = bl o ++ [92, (48 + c / 64).toUInt8, (48 + c / 8 % 8).toUInt8, (48 + c % 8).toUInt8] → Hid (bl o' = 34 :: ((bl s).take (k + 1)).flatMap quoteB) := fun o' h => by show _ = _; rw [h, hl.out, hfm.out, hq.out]; rfl
                  have HNEW := Lib.hid hnew
                  have hsz : ∀ o' : ByteArray, bl o' = bl o ++ [92, (48 + c / 64).toUInt8, (48 + c / 8 % 8).toUInt8, (48 + c % 8).toUInt8] → o'.size ≤ 4 * (k + 1) + 1 := fun o' h => by rw [← bl_len, h, List.length_append, bl_len]; simp only [List.length_cons, List.length_nil]; omega
                  have HSZ := Lib.hid hsz
                  clear hnew hsz
                  go_wp2_with fail
                  go_roundw
                  case rel => exact ⟨k + 1, _, by omega, HSZ.out _ (by rw [bl_app, bl_app, HOC.out]; rfl), by go_num, rfl, HNEW.out _ (by rw [bl_app, bl_app, HOC.out]; rfl), X.out.alloc HWS.out _⟩
                  case measure => simp [intOf]; omega
              · have hb1 : ¬ ((c : Int) < 32) := by omega
                have hb2 : ¬ (126 < (c : Int)) := by omega
                have hq : Hid (quoteB x = [x]) := by show _ = _; unfold quoteB; rw [← HCX.out]; rw [if_neg HQ1.out, if_neg HB10.out, if_neg HB9.out, if_neg hb]
                clear hb
                have hnew : ∀ o' : ByteArray, bl o' = bl o ++ [x] → Hid (bl o' = 34 :: ((bl s).take (k + 1)).flatMap quoteB) := fun o' h => by show _ = _; rw [h, hl.out, hfm.out, hq.out]; rfl
                have HNEW := Lib.hid hnew
                have hsz : ∀ o' : ByteArray, bl o' = bl o ++ [x] → o'.size ≤ 4 * (k + 1) + 1 := fun o' h => by rw [← bl_len, h, List.length_append, bl_len]; simp only [List.length_cons, List.length_nil]; omega
                have HSZ := Lib.hid hsz
                clear hnew hsz
                go_wp2_with fail
                go_roundw
                case rel => exact ⟨k + 1, _, by omega, HSZ.out _ (by rw [bl_app, HONE.out]), by go_num, rfl, HNEW.out _ (by rw [bl_app, HONE.out]), X.out⟩
                case measure => simp [intOf]; omega
    · have hke : k = s.size := by omega
      have HR : Hid (bl o ++ [34] = quoteL (bl s)) := by
        show _ = _
        rw [hl.out, hke, ← HL.out, List.take_length]; rfl
      have hge : ¬ ((k : Int) < (s.size : Int)) := by omega
      clear hke
      go_wp2_with fail
      go_ret
      refine ⟨?_, X.out⟩
      rw [← HR.out]
      exact congrArg (fun z => Ending.returned (.string z)) (bl_ext (by rw [bl_app]; rfl))

end Go.Proofs.YtifcibbhblhfiaaGreatDoor
