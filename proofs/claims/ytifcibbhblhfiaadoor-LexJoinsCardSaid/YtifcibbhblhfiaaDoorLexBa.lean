/- The statements of package lex: LexBack, the walk of the law. -/
import Derived.Test.YtifcibbhblhfiaaDoorLexZ
namespace Go.Proofs.YtifcibbhblhfiaaDoor
open Go.RowKit Pl
set_option linter.unusedVariables false

/-- Scan where it goes well: the tokens' cells. -/
theorem sc_scan0 (s : ByteArray) (w : World) (hs : s.size ≤ 400000) (hG : Gl w) {z : List UInt8} {n : Nat} {T : List Tk} (h : scanL (bl s) = .ok z n T) :
    Calls Tryd.prog 7 #[.string s] w fun e w' => ∃ g c, e = .returned (.tuple #[.slice (some ⟨g, 0, none⟩) (T.length + 1) c, .int .i64 0, .int .i64 0]) ∧ w.heap.size ≤ g ∧ g < w'.heap.size ∧
      (∀ (i : Nat) (hi : i < (T ++ [endTk n]).length) (j : Nat) (u : Value), ((T ++ [endTk n])[i]'hi).cells[j]? = some u → w'.cell? ⟨g, i * 4 + j, none⟩ = some u) ∧ (∀ i, w'.frozen? ⟨g, i, none⟩ = false) ∧ Below w.heap.size w w' := by
  refine (scan_any s w hs hG).mono ?_
  rw [h]
  rintro e w' ⟨v, rfl, h1, h2⟩
  have hl1 : (T ++ [endTk n]).length = T.length + 1 := by rw [List.length_append, List.length_singleton]
  obtain ⟨hl, ⟨_, h4⟩ | ⟨g, cap, cur, hv, hb, hg, hn, hm, hs, ht⟩⟩ := h1
  · omega
  · refine ⟨g, cap, by rw [hv, hl1], hb, (Array.getElem?_eq_some_iff.1 hg).1, fun i hi j u hu => ?_, fun i => frozen_of_row w' g i _ _ hg, h2⟩
    have hj : j < 4 := by
      have := (List.getElem?_eq_some_iff.1 hu).1
      rwa [tk_cells_len] at this
    rw [cell_blk hg, ← Array.getElem?_toList]
    have h3 : (cur.toList.take ((T ++ [endTk n]).length * 4))[i * 4 + j]? = (cellsT (T ++ [endTk n]))[i * 4 + j]? := by rw [ht]
    rw [List.getElem?_take_of_lt (by omega)] at h3
    rw [h3, cellsT_at _ i hi j hj]; exact hu

theorem ba_eta (s : ByteArray) : (⟨(bl s).toArray⟩ : ByteArray) = s := bl_ext rfl

set_option maxRecDepth 100000 in
set_option maxHeartbeats 4000000 in
theorem back_any (s : ByteArray) (w : World) (hG : Gl w) (hsz : s.size ≤ 9223372036854775807) :
    Calls Tryd.prog 5 #[.string s] w fun e w' => e = .returned (.bool true) ∧ Below w.heap.size w w' := by
  have hfx := Lib.hid (fixed_any w hG)
  have HG := Lib.hid hG; clear hG
  go_enter Tryd.func5, Tryd.ntmps5
  go_wp2_with fail
  refine hfx.out.mono ?_
  rintro e w1 ⟨rfl, hb1⟩
  have HB1 := Lib.hid hb1
  have HG1 := Lib.hid (HG.out.below hb1 HG.out.lt)
  clear hfx hb1
  by_cases hbig : 1024 < s.size
  · have hbi : (1024 : Int) < (s.size : Int) := by omega
    go_wp2_with fail
    go_ret
    exact ⟨rfl, HB1.out⟩
  · have hbi : ¬ ((1024 : Int) < (s.size : Int)) := by omega
    have hs2 : s.size ≤ 1024 := by omega
    clear hbig hsz
    have hlb : (bl s).length ≤ 1024 := by rw [bl_len]; exact hs2
    have hqa := Lib.hid (quote_any s w1 (by omega))
    have hqs : (⟨(quoteL (bl s)).toArray⟩ : ByteArray).size ≤ 400000 := by
      rw [← bl_len, bl_mk]
      have h4 : ∀ l : List UInt8, (l.flatMap quoteB).length ≤ 4 * l.length := by
        intro l
        induction l with
        | nil => simp
        | cons c l ih =>
          have := quoteB_len c
          rw [List.flatMap_cons, List.length_append, List.length_cons]; omega
      have h5 := h4 (bl s)
      show (34 :: ((bl s).flatMap quoteB ++ [34])).length ≤ _
      simp only [List.length_cons, List.length_append, List.length_nil]; omega
    have hsq : scanL (bl ⟨(quoteL (bl s)).toArray⟩) = .ok [] 1 [⟨4, s, 0, 1⟩] := by
      rw [bl_mk, scan_quote _ hlb, ba_eta]
    have HSQ := Lib.hid hsq
    have HQS := Lib.hid hqs
    clear hsq hqs hlb
    go_wp2_with fail
    refine hqa.out.mono ?_
    rintro e w2 ⟨rfl, hb2⟩
    have HB2 := Lib.hid (HB1.out.trans (hb2.mono HB1.out.size))
    have HG2 := Lib.hid (HG.out.below HB2.out HG.out.lt)
    clear hqa hb2 HB1 HG1
    have hca := Lib.hid (sc_scan0 _ w2 HQS.out HG2.out HSQ.out)
    generalize (⟨(quoteL (bl s)).toArray⟩ : ByteArray) = qs at hca ⊢
    clear HSQ HQS
    go_wp2_with fail
    refine hca.out.mono ?_
    rintro e w3 ⟨g, c, rfl, _, hg3, hcl, _, hb3⟩
    have k0 : w3.cell? ⟨g, 0, none⟩ = some (.int .i64 4) := hcl 0 (Nat.zero_lt_succ _) 0 _ rfl
    have k1 : w3.cell? ⟨g, 1, none⟩ = some (.string s) := hcl 0 (Nat.zero_lt_succ _) 1 _ rfl
    have k3 : w3.cell? ⟨g, 3, none⟩ = some (.int .i64 1) := hcl 0 (Nat.zero_lt_succ _) 3 _ rfl
    have HB3 := Lib.hid (HB2.out.trans (hb3.mono HB2.out.size))
    have HG3 := Lib.hid (HG.out.below HB3.out HG.out.lt)
    clear hca hb3 hcl HB2 HG2
    have hbs : bl (⟨#[47]⟩ ++ s) = 47 :: bl s := by rw [bl_app]; rfl
    have hss : (⟨#[47]⟩ ++ s : ByteArray).size ≤ 400000 := by rw [← bl_len, hbs, List.length_cons, bl_len]; omega
    have HBS := Lib.hid hbs; have HSS := Lib.hid hss
    clear hbs hss
    cases hsc : scanL (47 :: bl s) with
    | err l0 e0 =>
      obtain ⟨_, _, q3⟩ := scan_err hsc
      have hca := Lib.hid (sc_scan_err (⟨#[47]⟩ ++ s) w3 HSS.out HG3.out (by rw [HBS.out]; exact hsc))
      have q3' : ((e0 : Int) != 0) = true := by simp; omega
      clear q3 hsc
      go_wp2_with fail
      refine hca.out.mono ?_
      rintro e w4 ⟨rfl, hb4⟩
      have HB4 := Lib.hid (HB3.out.trans (hb4.mono HB3.out.size))
      clear hb4 hca
      go_wp2_with fail
      go_ret
      exact ⟨rfl, HB4.out⟩
    | ok z n T =>
      obtain ⟨o, U, rfl, ho, hsl⟩ := scan_slash hsc
      have hca := Lib.hid (sc_scan0 (⟨#[47]⟩ ++ s) w3 HSS.out HG3.out (by rw [HBS.out]; exact hsc))
      have hUl := (scan_ok hsc).2.2.2
      rw [List.length_cons, List.length_cons, bl_len] at hUl
      have HSL := Lib.hid hsl
      clear hsc hsl
      go_wp2_with fail
      refine hca.out.mono ?_
      rintro e w4 ⟨g4, c4, rfl, _, hg4, hcl, _, hb4⟩
      have l0 : w4.cell? ⟨g4, 0, none⟩ = some (.int .i64 5) := hcl 0 (by simp) 0 _ rfl
      have l1 : w4.cell? ⟨g4, 1, none⟩ = some (.string ⟨o.toArray⟩) := hcl 0 (by simp) 1 _ rfl
      have HB4 := Lib.hid (HB3.out.trans (hb4.mono HB3.out.size))
      have HG4 := Lib.hid (HG.out.below HB4.out HG.out.lt)
      clear hca hb4 hcl HB3 HG3 k0 k1 k3
      obtain ⟨ot, hot⟩ : ∃ ot : ByteArray, ot = ⟨o.toArray⟩ := ⟨_, rfl⟩
      have hobl : bl ot = o := by rw [hot]; rfl
      have hots : ot.size ≤ 1024 := by rw [← bl_len, hobl]; exact ho
      rw [← hot] at l1
      have HOT := Lib.hid hot
      have hsa := Lib.hid (slashQ_any ot w4 (by omega))
      rw [hobl] at hsa
      clear hot hobl
      have hN : (0 : Int) < ((U.length : Int) + 1 + 1) := by omega
      have hN2 : ¬ ((U.length : Int) + 1 + 1 < 2) := by omega
      go_wp2_with fail
      refine hsa.out.mono ?_
      rintro e w5 ⟨rfl, hb5⟩
      have m1 : w5.cell? ⟨g4, 1, none⟩ = some (.string ot) := by rw [hb5.cell (p := ⟨g4, 1, none⟩) hg4]; exact l1
      have hg5 : g4 < w5.heap.size := Nat.lt_of_lt_of_le hg4 hb5.size
      have HB5 := Lib.hid (HB4.out.trans (hb5.mono HB4.out.size))
      have HG5 := Lib.hid (HG.out.below HB5.out HG.out.lt)
      clear hsa hb5 l0 l1 HB4 HG4
      have hws : (⟨(slashW o).toArray⟩ : ByteArray).size ≤ 400000 := by
        rw [← bl_len, bl_mk]
        have h4 : ∀ (n : Nat) (l : List UInt8), l.length ≤ n → (slashB l).length ≤ 2 * l.length := by
          intro n
          induction n with
          | zero => intro l hl; obtain rfl : l = [] := List.eq_nil_of_length_eq_zero (by omega); simp [slashB]
          | succ n ih =>
            intro l hl
            cases l with
            | nil => simp [slashB]
            | cons c t =>
              rw [List.length_cons] at hl
              rw [slashB_cons]
              split
              · have := ih t (by omega); simp only [List.length_append, List.length_cons, List.length_nil]; omega
              · split
                · rename_i h9
                  have := ih (t.drop 1) (by rw [List.length_drop]; omega)
                  have h8 : 0 < t.length := List.length_pos_iff.2 h9.2
                  rw [List.length_drop] at this
                  simp only [List.length_append, List.length_cons, List.length_nil]; omega
                · have := ih t (by omega); simp only [List.length_append, List.length_cons, List.length_nil]; omega
        have h5 := h4 _ o (Nat.le_refl _)
        show (47 :: (slashB o ++ [47])).length ≤ _
        simp only [List.length_cons, List.length_append, List.length_nil]; omega
      have hcb := Lib.hid (sc_scan0 ⟨(slashW o).toArray⟩ w5 hws HG5.out (by rw [bl_mk]; exact HSL.out))
      generalize (⟨(slashW o).toArray⟩ : ByteArray) = sw at hcb ⊢
      clear hws HSL
      go_wp2_with fail
      refine hcb.out.mono ?_
      rintro e w6 ⟨g6, c6, rfl, _, hg6, hcl, _, hb6⟩
      have n0 : w6.cell? ⟨g6, 0, none⟩ = some (.int .i64 5) := hcl 0 (Nat.zero_lt_succ _) 0 _ rfl
      have n1 : w6.cell? ⟨g6, 1, none⟩ = some (.string ot) := by rw [HOT.out]; exact hcl 0 (Nat.zero_lt_succ _) 1 _ rfl
      have n2 : w6.cell? ⟨g4, 1, none⟩ = some (.string ot) := by rw [hb6.cell (p := ⟨g4, 1, none⟩) hg5]; exact m1
      have HB6 := Lib.hid (HB5.out.trans (hb6.mono HB5.out.size))
      clear hcb hb6 hcl m1 HB5 HG5 hots
      go_wp2_with fail
      go_quiet (fail)
      go_wp2_with fail
      go_ret
      exact ⟨rfl, HB6.out.trans (Bx.below (Bx.drewN (Bx.refl w.heap.size w.heap.size _) nq) (Nat.le_refl _))⟩

end Go.Proofs.YtifcibbhblhfiaaDoor
