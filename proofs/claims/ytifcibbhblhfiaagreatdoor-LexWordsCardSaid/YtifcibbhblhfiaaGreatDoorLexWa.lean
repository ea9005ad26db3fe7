/- Walks of the reference of package lex: the language's words. -/
import Derived.Test.YtifcibbhblhfiaaGreatDoorLexW
namespace Go.Proofs.YtifcibbhblhfiaaGreatDoor
open Go.RowKit Pl
set_option linter.unusedVariables false

set_option maxRecDepth 100000 in
theorem in_any (l : List ByteArray) (g c : Nat) (s : ByteArray) (w : World) (hl : l.length ≤ 1000) (hc : ∀ i (hi : i < l.length), w.cell? ⟨g, i, none⟩ = some (.string (l[i]'hi))) :
    Calls Tryz.prog 8 #[.slice (some ⟨g, 0, none⟩) l.length c, .string s] w fun e w' => e = .returned (.bool (Lib.containsS l s)) ∧ w = w' := by
  have HC := Lib.hid hc; clear hc
  obtain ⟨N, hN⟩ : ∃ N, N = l.length := ⟨_, rfl⟩
  have HN := Lib.hid hN
  rw [← hN] at hl ⊢
  clear hN
  go_enter Tryz.func8, Tryz.ntmps8
  go_wp2_with fail
  go_loopw [5] (fun v wx => ∃ i : Nat, i ≤ N ∧ v = .int .i64 (i : Int) ∧ Hid (s ∉ l.take i) ∧ w = wx) (fun v _ => (N - intOf v).toNat)
  case atStart => exact ⟨0, Nat.zero_le _, rfl, by show _ ∉ _; simp, rfl⟩
  case round =>
    obtain ⟨i, hi, rfl, hni, rfl⟩ := hrel
    by_cases hlt : i < N
    · have hil : i < l.length := by rw [← HN.out]; exact hlt
      have a0 := HC.out i hil
      have htk := List.take_succ_eq_append_getElem hil
      have hmem := List.getElem_mem hil
      generalize l[i]'hil = x at a0 htk hmem
      have HTK := Lib.hid htk
      have HX := Lib.hid hmem
      have hi0 : (0 : Int) ≤ (i : Int) := by omega
      have hi1 : (i : Int) < (N : Int) := by omega
      clear htk hmem hil
      cases hq : (x.toList == s.toList) with
      | true =>
        have hxs : x = s := bl_ext (by rw [← bl_toList, ← bl_toList]; exact eq_of_beq hq)
        have HR : Hid (Lib.containsS l s = true) := (Lib.containsS_iff l s).2 (hxs ▸ HX.out)
        clear hxs
        go_wp2_with fail
        go_ret
        exact ⟨ret_bool HR.out.symm, rfl⟩
      | false =>
        have hxs : Hid (s ≠ x) := by
          intro h
          subst h
          simp at hq
        go_wp2_with fail
        go_roundw
        case rel => exact ⟨i + 1, by omega, by go_num, by show _ ∉ _; rw [HTK.out, List.mem_append, List.mem_singleton]; exact fun h => h.elim hni.out hxs.out, trivial⟩
        case measure => simp [intOf]; omega
    · have HR : Hid (Lib.containsS l s = false) := by
        have h := hni.out
        rw [List.take_of_length_le (by rw [← HN.out]; omega)] at h
        show _ = _
        cases hcs : Lib.containsS l s with
        | false => rfl
        | true => exact absurd ((Lib.containsS_iff l s).1 hcs) h
      have hge : ¬ ((i : Int) < (N : Int)) := by omega
      go_wp2_with fail
      go_ret
      exact ⟨ret_bool HR.out.symm, rfl⟩

set_option maxRecDepth 100000 in
theorem ref_builtins (w : World) : Calls Tryz.prog 9 #[] w fun e w' => e = .returned (.slice (some ⟨w.heap.size, 0, none⟩) 31 31) ∧ w' = w.alloc (.cells (builtinsX.map Value.string).toArray 9) := by
  go_enter Tryz.func9, Tryz.ntmps9
  go_wp2_with fail
  go_ret
  exact ⟨rfl, rfl⟩
set_option maxRecDepth 100000 in
theorem ref_controls (w : World) : Calls Tryz.prog 18 #[] w fun e w' => e = .returned (.slice (some ⟨w.heap.size, 0, none⟩) 25 25) ∧ w' = w.alloc (.cells (wordsX.map Value.string).toArray 9) := by
  go_enter Tryz.func18, Tryz.ntmps18
  go_wp2_with fail
  go_ret
  exact ⟨rfl, rfl⟩

theorem cells_words (w : World) (zs : List ByteArray) (t : TypeId) (i : Nat) (hi : i < zs.length) : (w.alloc (.cells ((zs.map Value.string).toArray) t)).cell? ⟨w.heap.size, i, none⟩ = some (.string (zs[i]'hi)) := by
  rw [World.cell?_alloc_new]
  simp [hi]
theorem in_builtins (s : ByteArray) (w : World) (w' : World) (hw : w' = w.alloc (.cells (builtinsX.map Value.string).toArray 9)) :
    Calls Tryz.prog 8 #[.slice (some ⟨w.heap.size, 0, none⟩) 31 31, .string s] w' fun e w'' => e = .returned (.bool (isBuiltinX s)) ∧ w' = w'' := by
  subst hw
  exact in_any builtinsX w.heap.size 31 s _ (by decide) (cells_words w builtinsX _)
theorem in_controls (s : ByteArray) (w : World) (w' : World) (hw : w' = w.alloc (.cells (wordsX.map Value.string).toArray 9)) :
    Calls Tryz.prog 8 #[.slice (some ⟨w.heap.size, 0, none⟩) 25 25, .string s] w' fun e w'' => e = .returned (.bool (Lib.containsS wordsX s)) ∧ w' = w'' := by
  subst hw
  exact in_any wordsX w.heap.size 25 s _ (by decide) (cells_words w wordsX _)

set_option maxRecDepth 100000 in
theorem ref_word (s : ByteArray) (w : World) : Calls Tryz.prog 6 #[.string s] w fun e w' => e = .returned (.bool (isWordX s)) ∧ Below w.heap.size w w' := by
  obtain ⟨w1, hw1⟩ : ∃ w1, w1 = w.alloc (.cells (builtinsX.map Value.string).toArray 9) := ⟨_, rfl⟩
  have hsz : w.heap.size ≤ w1.heap.size := by rw [hw1]; simp
  obtain ⟨w2, hw2⟩ : ∃ w2, w2 = w1.alloc (.cells (wordsX.map Value.string).toArray 9) := ⟨_, rfl⟩
  have H1 : Hid (Calls Tryz.prog 9 #[] w fun e w' => e = .returned (.slice (some ⟨w.heap.size, 0, none⟩) 31 31) ∧ w1 = w') := (ref_builtins w).mono fun _ _ ⟨h, h'⟩ => ⟨h, by rw [hw1, h']⟩
  have H2 := Lib.hid (in_builtins s w w1 hw1)
  have H3 : Hid (Calls Tryz.prog 18 #[] w1 fun e w' => e = .returned (.slice (some ⟨w1.heap.size, 0, none⟩) 25 25) ∧ w2 = w') := (ref_controls w1).mono fun _ _ ⟨h, h'⟩ => ⟨h, by rw [hw2, h']⟩
  have H4 := Lib.hid (in_controls s w1 w2 hw2)
  have B1 : Hid (Below w.heap.size w w1) := by rw [hw1]; exact (Below.refl _ _).alloc (Nat.le_refl _) _
  have B2 : Hid (Below w.heap.size w w2) := by rw [hw2]; exact B1.out.alloc hsz _
  clear hw1 hw2 hsz
  go_enter Tryz.func6, Tryz.ntmps6
  go_wp2_with fail
  refine H1.out.mono ?_
  rintro e w' ⟨rfl, rfl⟩
  go_wp2_with fail
  refine H2.out.mono ?_
  rintro e w' ⟨rfl, rfl⟩
  cases hib : isBuiltinX s with
  | true =>
    have HI := Lib.hid (show isWordX s = true by unfold isWordX; rw [hib]; rfl)
    clear hib
    go_wp2_with fail
    go_ret
    exact ⟨ret_bool HI.out.symm, B1.out⟩
  | false =>
    have HI := Lib.hid (show isWordX s = Lib.containsS wordsX s by unfold isWordX; rw [hib]; rfl)
    clear hib
    go_wp2_with fail
    refine H3.out.mono ?_
    rintro e w' ⟨rfl, rfl⟩
    go_wp2_with fail
    refine H4.out.mono ?_
    rintro e w' ⟨rfl, rfl⟩
    go_wp2_with fail
    go_ret
    exact ⟨ret_bool HI.out.symm, B2.out⟩

end Go.Proofs.YtifcibbhblhfiaaGreatDoor
