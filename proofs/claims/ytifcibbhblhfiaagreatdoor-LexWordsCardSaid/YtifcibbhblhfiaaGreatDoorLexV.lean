/- The statements of package lex: the document's example. -/
import Derived.Test.YtifcibbhblhfiaaGreatDoorLexU
namespace Go.Proofs.YtifcibbhblhfiaaGreatDoor
open Go.RowKit Pl
set_option linter.unusedVariables false

theorem rd_new {w : World} {cs : Array Value} {t : TypeId} {n c : Nat} {T : List Tk} (hc : cs.toList = cellsT T) (hn : n = T.length) : RdT (w.alloc (.cells cs t)) (.slice (some ⟨w.heap.size, 0, none⟩) n c) T := by
  subst hn
  refine ⟨_, _, rfl, fun _ => ⟨w.heap.size, 0, rfl, by simp, fun i hi j u hu => ?_⟩⟩
  have hj : j < 4 := by
    have := (List.getElem?_eq_some_iff.1 hu).1
    rwa [tk_cells_len] at this
  rw [World.cell?_alloc_new, Nat.zero_add, ← Array.getElem?_toList, hc, cellsT_at T i hi j hj]; exact hu

theorem sc_scan (s : ByteArray) (w : World) (hs : s.size ≤ 400000) (hG : Gl w) {z : List UInt8} {n : Nat} {T : List Tk} (h : scanL (bl s) = .ok z n T) :
    Calls Tryz.prog 14 #[.string s] w fun e w' => ∃ A c, e = .returned (.tuple #[.slice A (T ++ [endTk n]).length c, .int .i64 0, .int .i64 0]) ∧ RdT w' (.slice A (T ++ [endTk n]).length c) (T ++ [endTk n]) ∧ w'.ownsRow w.heap.size 36 4 (.slice A (T ++ [endTk n]).length c) (T ++ [endTk n]).length (cellsT (T ++ [endTk n])) ∧ Below w.heap.size w w' := by
  refine (scan_any s w hs hG).mono ?_
  rw [h]
  rintro e w' ⟨v, rfl, h1, h2⟩
  have h3 := RdT.of h1
  obtain ⟨A, c, rfl, _⟩ := h3
  exact ⟨A, c, rfl, RdT.of h1, h1, h2⟩
theorem sc_scan_err (s : ByteArray) (w : World) (hs : s.size ≤ 400000) (hG : Gl w) {l e0 : Nat} (h : scanL (bl s) = .err l e0) :
    Calls Tryz.prog 14 #[.string s] w fun e w' => e = .returned (.tuple #[.slice none 0 0, .int .i64 (l : Int), .int .i64 (e0 : Int)]) ∧ Below w.heap.size w w' := by
  refine (scan_any s w hs hG).mono ?_
  rw [h]
  rintro e w' ⟨rfl, h2⟩
  exact ⟨rfl, h2⟩

set_option maxRecDepth 100000 in
set_option maxHeartbeats 1000000 in
theorem fixed_any (w : World) (hG : Gl w) : Calls Tryz.prog 4 #[] w fun e w' => e = .returned (.bool true) ∧ Below w.heap.size w w' := by
  have hsc := Lib.hid (sc_scan fixedS w (by decide) hG fixed_scan)
  go_enter Tryz.func4, Tryz.ntmps4
  go_wp2_with fail
  refine hsc.out.mono ?_
  rintro e w' ⟨A, c, rfl, hrd, _, hbe⟩
  have HRD := Lib.hid hrd; have HBE := Lib.hid hbe
  clear hrd hbe hsc hG
  go_wp2_with fail
  refine (same_any _ _ (fixedT ++ [endTk 2]) _ (HRD.out.below ((Below.refl _ _).alloc (Nat.le_refl _) _)) (rd_new (by rfl) (by rfl)) (by decide)).mono ?_
  rintro e w2 ⟨rfl, n, rfl⟩
  go_wp2_with fail
  go_ret
  exact ⟨rfl, ((HBE.out.alloc HBE.out.size _).trans (Bx.below (Bx.drewN (Bx.refl w.heap.size w.heap.size _) n) (Nat.le_refl _)))⟩

end Go.Proofs.YtifcibbhblhfiaaGreatDoor
