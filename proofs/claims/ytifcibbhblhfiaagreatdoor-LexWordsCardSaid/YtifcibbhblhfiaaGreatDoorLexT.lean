/- Walks of the reference of package lex: two lists of tokens compared. -/
import Derived.Test.YtifcibbhblhfiaaGreatDoorLexS
namespace Go.Proofs.YtifcibbhblhfiaaGreatDoor
open Go.RowKit Pl
set_option linter.unusedVariables false

/-- A slice that reads as these tokens. -/
def RdT (w : World) (v : Value) (T : List Tk) : Prop :=
  ∃ A c, v = .slice A T.length c ∧ (0 < T.length → ∃ g o, A = some ⟨g, o, none⟩ ∧ g < w.heap.size ∧ ∀ (i : Nat) (hi : i < T.length) (j : Nat) (u : Value), (T[i]'hi).cells[j]? = some u → w.cell? ⟨g, o + i * 4 + j, none⟩ = some u)

theorem RdT.of {w : World} {base : Nat} {v : Value} {T : List Tk} (h : w.ownsRow base 36 4 v T.length (cellsT T)) : RdT w v T := by
  obtain ⟨hl, ⟨h1, h2⟩ | ⟨g, cap, cur, hv, hb, hg, hn, hm, hs, ht⟩⟩ := h
  · exact ⟨none, 0, by rw [h2]; exact h1, fun h => absurd h (by omega)⟩
  · refine ⟨_, _, hv, fun _ => ⟨g, 0, rfl, (Array.getElem?_eq_some_iff.1 hg).1, fun i hi j u hu => ?_⟩⟩
    have hj : j < 4 := by
      have := (List.getElem?_eq_some_iff.1 hu).1
      rwa [tk_cells_len] at this
    rw [Nat.zero_add, cell_blk hg, ← Array.getElem?_toList]
    have h3 : (cur.toList.take (T.length * 4))[i * 4 + j]? = (cellsT T)[i * 4 + j]? := by rw [ht]
    rw [List.getElem?_take_of_lt (by omega)] at h3
    rw [h3, cellsT_at T i hi j hj]; exact hu
theorem RdT.below {w w' : World} {v : Value} {T : List Tk} (h : RdT w v T) (hb : Below w.heap.size w w') : RdT w' v T := by
  obtain ⟨A, c, h1, h2⟩ := h
  refine ⟨A, c, h1, fun hp => ?_⟩
  obtain ⟨g, o, h3, h4, h5⟩ := h2 hp
  exact ⟨g, o, h3, Nat.lt_of_lt_of_le h4 hb.size, fun i hi j u hu => by rw [hb.cell (p := ⟨g, o + i * 4 + j, none⟩) h4]; exact h5 i hi j u hu⟩

theorem fsame_any (x : Nat) (w : World) : Calls Tryz.prog 22 #[.float .f64 x, .float .f64 x] w fun e w' => e = .returned (.bool true) ∧ w = w' := by
  have hb := bits_run x
  go_enter Tryz.func22, Tryz.ntmps22
  obtain ⟨q, hq⟩ : ∃ q, (FloatKind.f64.format.order x x != some .eq) = q := ⟨_, rfl⟩
  cases q
  all_goals
    go_wp2
    go_ret
    exact ⟨rfl, rfl⟩

set_option maxRecDepth 100000 in
set_option maxHeartbeats 2000000 in
theorem same_any (v1 v2 : Value) (T : List Tk) (w : World) (h1 : RdT w v1 T) (h2 : RdT w v2 T) (hT : T.length ≤ 1000000) :
    Calls Tryz.prog 15 #[v1, v2] w fun e w' => e = .returned (.bool true) ∧ ∃ n, w' = w.drewN n := by
  obtain ⟨A1, c1, rfl, h1⟩ := h1
  obtain ⟨A2, c2, rfl, h2⟩ := h2
  by_cases h0 : T.length = 0
  · have h0' : ((T.length : Nat) : Int) = 0 := by omega
    have hb0 : (((T.length : Nat) : Int) != ((T.length : Nat) : Int)) = false := by simp
    rw [h0]
    go_enter Tryz.func15, Tryz.ntmps15
    go_wp2_with fail
    go_loopw [5] (fun v wx => v = .int .i64 0 ∧ w = wx) (fun _ _ => 0)
    case atStart => exact ⟨rfl, rfl⟩
    case round =>
      obtain ⟨rfl, rfl⟩ := hrel
      go_wp2_with fail
      go_ret
      exact ⟨rfl, 0, rfl⟩
  · obtain ⟨g1, o1, rfl, _, d1⟩ := h1 (by omega)
    obtain ⟨g2, o2, rfl, _, d2⟩ := h2 (by omega)
    have D1 := Lib.hid d1; have D2 := Lib.hid d2
    clear h1 h2 d1 d2
    go_enter Tryz.func15, Tryz.ntmps15
    go_wp2_with fail
    go_loopw [5] (fun v wx => ∃ i n : Nat, i ≤ T.length ∧ v = .int .i64 (i : Int) ∧ wx = w.drewN n) (fun v _ => (T.length - intOf v).toNat)
    case atStart => exact ⟨0, 0, Nat.zero_le _, rfl, rfl⟩
    case round =>
      obtain ⟨i, n, hi, rfl, rfl⟩ := hrel
      by_cases hlt : i < T.length
      · have e1 := D1.out i hlt
        have e2 := D2.out i hlt
        generalize T[i]'hlt = t at e1 e2
        obtain ⟨k, tx, tn, tl⟩ := t
        have a0 : (w.drewN n).cell? ⟨g1, o1 + i * 4, none⟩ = some (.int .i64 (k : Int)) := e1 0 _ rfl
        have a1 : (w.drewN n).cell? ⟨g1, o1 + i * 4 + 1, none⟩ = some (.string tx) := e1 1 _ rfl
        have a2 : (w.drewN n).cell? ⟨g1, o1 + i * 4 + 2, none⟩ = some (.float .f64 tn) := e1 2 _ rfl
        have a3 : (w.drewN n).cell? ⟨g1, o1 + i * 4 + 3, none⟩ = some (.int .i64 (tl : Int)) := e1 3 _ rfl
        have b0 : (w.drewN n).cell? ⟨g2, o2 + i * 4, none⟩ = some (.int .i64 (k : Int)) := e2 0 _ rfl
        have b1 : (w.drewN n).cell? ⟨g2, o2 + i * 4 + 1, none⟩ = some (.string tx) := e2 1 _ rfl
        have b2 : (w.drewN n).cell? ⟨g2, o2 + i * 4 + 2, none⟩ = some (.float .f64 tn) := e2 2 _ rfl
        have b3 : (w.drewN n).cell? ⟨g2, o2 + i * 4 + 3, none⟩ = some (.int .i64 (tl : Int)) := e2 3 _ rfl
        have hi0 : (0 : Int) ≤ (i : Int) := by omega
        have hi1 : (i : Int) < (T.length : Int) := by omega
        clear e1 e2
        obtain ⟨wr, hwr⟩ : ∃ wr, wr = w.drewN n := ⟨_, rfl⟩
        rw [← hwr] at a0 a1 a2 a3 b0 b1 b2 b3 ⊢
        have HW := Lib.hid hwr; clear hwr
        go_wp2_with fail
        go_quiet (first | (go_at_call 22; refine Calls.quiet_of_same ((fsame_any _ _).mono fun _ _ ⟨h, h'⟩ => ⟨h, h'.symm⟩)))
        go_wp2_with fail
        go_roundw
        case rel => exact ⟨i + 1, n + nq, by omega, by go_num, by rw [HW.out]; simp [World.drewN, Nat.add_assoc]⟩
        case measure => simp [intOf]; omega
      · have hge : ¬ ((i : Int) < (T.length : Int)) := by omega
        go_wp2_with fail
        go_ret
        exact ⟨rfl, n, rfl⟩

end Go.Proofs.YtifcibbhblhfiaaGreatDoor
