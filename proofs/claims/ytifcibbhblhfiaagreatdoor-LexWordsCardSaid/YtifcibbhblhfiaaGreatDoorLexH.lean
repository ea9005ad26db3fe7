/- Walks of package lex: is a slash a division; words. -/
import Derived.Test.YtifcibbhblhfiaaGreatDoorLexG
namespace Go.Proofs.YtifcibbhblhfiaaGreatDoor
open Go.RowKit Pl
set_option linter.unusedVariables false

theorem run_store_float {P : Program} {w : World} {a : Addr} {m : Mode} (k : FloatKind) (n : Nat) : (store a (.float k n) m).run P w = stored P w a (.float k n) m := run_store P w a _ m rfl
attribute [local go_sem] run_store_float

/-- Is a slash behind a token of this kind and text a division? -/
def divK (k : Nat) (tx : ByteArray) : Bool :=
  if k = 1 ∨ k = 3 ∨ k = 4 ∨ k = 5 then true
  else if k = 6 then tx.toList == [108, 101, 110, 103, 116, 104]
  else if k = 7 then (tx.toList == [41]) || ((tx.toList == [93]) || ((tx.toList == [43, 43]) || (tx.toList == [45, 45])))
  else false
def divTk (t : Tk) : Bool := divK t.kind t.text
def divides (T : List Tk) : Bool := match T.getLast? with | none => false | some t => divTk t

theorem cellsT_at (T : List Tk) (i : Nat) (hi : i < T.length) (j : Nat) (hj : j < 4) : (cellsT T)[i * 4 + j]? = (T[i]'hi).cells[j]? := by
  induction T generalizing i with
  | nil => exact absurd hi (Nat.not_lt_zero _)
  | cons t T ih =>
    show (t.cells ++ cellsT T)[i * 4 + j]? = _
    cases i with
    | zero => rw [List.getElem?_append_left (by rw [tk_cells_len]; omega), Nat.zero_mul, Nat.zero_add]; rfl
    | succ i =>
      rw [List.getElem?_append_right (by rw [tk_cells_len]; omega), tk_cells_len, show (i + 1) * 4 + j - 4 = i * 4 + j by omega]
      exact ih i (by simpa using hi)

theorem Sc.shape {w : World} {B : Nat} {s : ByteArray} {pos line : Nat} {v : Value} {T : List Tk} (h : Sc w B s pos line v T) :
    ∃ A c, v = .slice A T.length c ∧ (0 < T.length → ∃ g, A = some ⟨g, 0, none⟩ ∧ B < g ∧ g < w.heap.size ∧ ∀ i (hi : i < T.length), ∀ j u, (T[i]'hi).cells[j]? = some u → w.cell? ⟨g, i * 4 + j, none⟩ = some u) := by
  have hr := h.row
  obtain ⟨hl, ⟨h1, h2⟩ | ⟨g, cap, cur, hv, hb, hg, hn, hm, hs, ht⟩⟩ := h.row
  · exact ⟨none, 0, by rw [h2]; exact h1, fun h => absurd h (by omega)⟩
  · refine ⟨_, _, hv, fun _ => ⟨g, rfl, hb, (Array.getElem?_eq_some_iff.1 hg).1, fun i hi j u hu => ?_⟩⟩
    have hj : j < 4 := by
      have := (List.getElem?_eq_some_iff.1 hu).1
      rwa [tk_cells_len] at this
    rw [cell_blk hg, ← Array.getElem?_toList]
    have h3 : (cur.toList.take (T.length * 4))[i * 4 + j]? = (cellsT T)[i * 4 + j]? := by rw [ht]
    rw [List.getElem?_take_of_lt (by omega)] at h3
    rw [h3, cellsT_at T i hi j hj]; exact hu

set_option maxRecDepth 100000 in
set_option maxHeartbeats 2000000 in
theorem sc_divides (B pos line : Nat) (s : ByteArray) (v : Value) (T : List Tk) (w : World) (h : Sc w B s pos line v T) (hT : T.length ≤ 1000000) :
    Calls Tryz.prog 31 #[.pointer (some ⟨B, 0, none⟩)] w fun e w' => e = .returned (.bool (divides T)) ∧ Below w.heap.size w w' := by
  obtain ⟨A, c, hv, hsh⟩ := h.shape
  subst hv
  have h3 := h.c3
  have S := Lib.hid h
  clear h
  go_enter Tryz.func31, Tryz.ntmps31
  cases hTT : T with
  | nil =>
    subst hTT
    go_wp2_with fail
    go_ret
    exact ⟨rfl, Below.refl _ _⟩
  | cons t0 T0 =>
    have hpos : 0 < T.length := by rw [hTT]; simp
    obtain ⟨g, rfl, hg1, hg2, hcells⟩ := hsh hpos
    obtain ⟨n, hn⟩ : ∃ n, T.length = n + 1 := ⟨T.length - 1, by omega⟩
    have hc := hcells n (by omega)
    have hlast : T.getLast? = some (T[n]'(by omega)) := by rw [List.getLast?_eq_getElem?]; simp [hn]
    have hd : divides T = divTk (T[n]'(by omega)) := by unfold divides; rw [hlast]
    have HD : Hid (divides (t0 :: T0) = divTk (T[n]'(by omega))) := by rw [← hTT]; exact hd
    clear hd hlast
    generalize T[n]'(by omega) = t at hc HD
    obtain ⟨k, tx, tn, tl⟩ := t
    obtain ⟨K, hK⟩ : ∃ K : Int, K = (k : Int) := ⟨_, rfl⟩
    have hc : ∀ (j : Nat) (u : Value), [Value.int .i64 K, .string tx, .float .f64 tn, .int .i64 (tl : Int)][j]? = some u → w.cell? ⟨g, n * 4 + j, none⟩ = some u := by rw [hK]; exact hc
    have HK := Lib.hid hK
    clear hK
    have HD : Hid (divides (t0 :: T0) = divK k tx) := HD.out
    have hc0 := hc 0 _ rfl
    have hc1 := hc 1 _ rfl
    have hc2 := hc 2 _ rfl
    have hc3 := hc 3 _ rfl
    obtain ⟨L, hL⟩ : ∃ L, L = T.length := ⟨_, rfl⟩
    rw [← hL] at h3
    rw [Nat.add_zero] at hc0
    have hBl : B < w.heap.size := S.out.lt
    clear hc hcells hsh hTT hpos
    have hn2 : n ≤ 1000000 := by omega
    have hn3 : (L : Int) - 1 = (n : Int) := by omega
    have hw1 : IntKind.i64.wrap ((L : Int) - 1) = (n : Int) := by rw [hn3]; exact IntWalk.i64_in _ (by omega)
    have hi1 : (n : Int) < (L : Int) := by omega
    have hLp : ((L : Int) == 0) = false := beq_eq_false_iff_ne.2 (by omega)
    clear hn hT hL hn3
    have hi0 : (0 : Int) ≤ (n : Int) := by omega
    go_wp2_with fail
    go_region_held3 (fun w' => w'.cell? ⟨B, 3, none⟩ = some (Value.slice (some ⟨g, 0, none⟩) L c) ∧ w'.cell? ⟨g, n * 4, none⟩ = some (.int .i64 K) ∧ w'.cell? ⟨g, n * 4 + 1, none⟩ = some (.string tx) ∧ w'.cell? ⟨g, n * 4 + 2, none⟩ = some (.float .f64 tn) ∧ w'.cell? ⟨g, n * 4 + 3, none⟩ = some (.int .i64 (tl : Int))) (go_keep) (fail)
    clear h3 hc0 hc1 hc2 hc3 hw1 hi1 hi0 hLp
    have hk : K = 1 ∨ K = 3 ∨ K = 4 ∨ K = 5 ∨ K = 6 ∨ K = 7 ∨ (K ≠ 1 ∧ K ≠ 3 ∧ K ≠ 4 ∧ K ≠ 5 ∧ K ≠ 6 ∧ K ≠ 7) := by omega
    rcases hk with rfl | rfl | rfl | rfl | rfl | rfl | ⟨k1, k3, k4, k5, k6, k7⟩
    · have HR : Hid (divides (t0 :: T0) = true) := by show _ = _; rw [HD.out]; unfold divK; rw [if_pos (by have := HK.out; omega)]
      go_wp2_with fail
      go_ret
      exact ⟨ret_bool HR.out.symm, ((Below.refl _ _).alloc (Nat.le_refl _) _).drew⟩
    · have HR : Hid (divides (t0 :: T0) = true) := by show _ = _; rw [HD.out]; unfold divK; rw [if_pos (by have := HK.out; omega)]
      go_wp2_with fail
      go_ret
      exact ⟨ret_bool HR.out.symm, ((Below.refl _ _).alloc (Nat.le_refl _) _).drew⟩
    · have HR : Hid (divides (t0 :: T0) = true) := by show _ = _; rw [HD.out]; unfold divK; rw [if_pos (by have := HK.out; omega)]
      go_wp2_with fail
      go_ret
      exact ⟨ret_bool HR.out.symm, ((Below.refl _ _).alloc (Nat.le_refl _) _).drew⟩
    · have HR : Hid (divides (t0 :: T0) = true) := by show _ = _; rw [HD.out]; unfold divK; rw [if_pos (by have := HK.out; omega)]
      go_wp2_with fail
      go_ret
      exact ⟨ret_bool HR.out.symm, ((Below.refl _ _).alloc (Nat.le_refl _) _).drew⟩
    · have HR : Hid (divides (t0 :: T0) = (tx.toList == [108, 101, 110, 103, 116, 104])) := by show _ = _; rw [HD.out]; unfold divK; rw [if_neg (by have := HK.out; omega), if_pos (by have := HK.out; omega)]
      go_wp2_with fail
      go_ret
      exact ⟨ret_bool HR.out.symm, ((Below.refl _ _).alloc (Nat.le_refl _) _).drew⟩
    · have HR : Hid (divides (t0 :: T0) = ((tx.toList == [41]) || ((tx.toList == [93]) || ((tx.toList == [43, 43]) || (tx.toList == [45, 45]))))) := by show _ = _; rw [HD.out]; unfold divK; rw [if_neg (by have := HK.out; omega), if_neg (by have := HK.out; omega), if_pos (by have := HK.out; omega)]
      obtain ⟨q1, h1⟩ : ∃ q, (tx.toList == [41]) = q := ⟨_, rfl⟩
      obtain ⟨q2, h2⟩ : ∃ q, (tx.toList == [93]) = q := ⟨_, rfl⟩
      obtain ⟨q3, h3⟩ : ∃ q, (tx.toList == [43, 43]) = q := ⟨_, rfl⟩
      obtain ⟨q4, h4⟩ : ∃ q, (tx.toList == [45, 45]) = q := ⟨_, rfl⟩
      rw [h1, h2, h3, h4] at HR
      cases q1
      · cases q2
        · cases q3
          · cases q4
            all_goals
              go_wp2_with fail
              go_ret
              exact ⟨ret_bool HR.out.symm, ((Below.refl _ _).alloc (Nat.le_refl _) _).drew⟩
          · go_wp2_with fail
            go_ret
            exact ⟨ret_bool HR.out.symm, ((Below.refl _ _).alloc (Nat.le_refl _) _).drew⟩
        · go_wp2_with fail
          go_ret
          exact ⟨ret_bool HR.out.symm, ((Below.refl _ _).alloc (Nat.le_refl _) _).drew⟩
      · go_wp2_with fail
        go_ret
        exact ⟨ret_bool HR.out.symm, ((Below.refl _ _).alloc (Nat.le_refl _) _).drew⟩
    · have HR : Hid (divides (t0 :: T0) = false) := by show _ = _; rw [HD.out]; unfold divK; rw [if_neg (by have := HK.out; omega), if_neg (by have := HK.out; omega), if_neg (by have := HK.out; omega)]
      have e1 : (K == 1) = false := beq_eq_false_iff_ne.2 k1
      have e3 : (K == 3) = false := beq_eq_false_iff_ne.2 k3
      have e4 : (K == 4) = false := beq_eq_false_iff_ne.2 k4
      have e5 : (K == 5) = false := beq_eq_false_iff_ne.2 k5
      have e6 : (K == 6) = false := beq_eq_false_iff_ne.2 k6
      have e7 : (K == 7) = false := beq_eq_false_iff_ne.2 k7
      go_wp2_with fail
      go_ret
      exact ⟨ret_bool HR.out.symm, ((Below.refl _ _).alloc (Nat.le_refl _) _).drew⟩

end Go.Proofs.YtifcibbhblhfiaaGreatDoor
