/- The statements of package lex: LexJoins, the walk of the law. -/
import Derived.Test.YtifcibbhblhfiaaDoorLexBa
namespace Go.Proofs.YtifcibbhblhfiaaDoor
open Go.RowKit Pl
set_option linter.unusedVariables false

/-- Scan where it goes well: the tokens' block. -/
theorem sc_scan1 (s : ByteArray) (w : World) (hs : s.size ≤ 400000) (hG : Gl w) {z : List UInt8} {n : Nat} {T : List Tk} (h : scanL (bl s) = .ok z n T) :
    Calls Tryd.prog 7 #[.string s] w fun e w' => ∃ g c, e = .returned (.tuple #[.slice (some ⟨g, 0, none⟩) (T.length + 1) c, .int .i64 0, .int .i64 0]) ∧ T.length + 1 ≤ c ∧ w.heap.size ≤ g ∧ g < w'.heap.size ∧
      (∀ (i : Nat) (hi : i < (T ++ [endTk n]).length) (j : Nat) (u : Value), ((T ++ [endTk n])[i]'hi).cells[j]? = some u → w'.cell? ⟨g, i * 4 + j, none⟩ = some u) ∧ (∀ i, w'.frozen? ⟨g, i, none⟩ = false) ∧ Below w.heap.size w w' := by
  refine (scan_any s w hs hG).mono ?_
  rw [h]
  rintro e w' ⟨v, rfl, h1, h2⟩
  have hl1 : (T ++ [endTk n]).length = T.length + 1 := by rw [List.length_append, List.length_singleton]
  obtain ⟨hl, ⟨_, h4⟩ | ⟨g, cap, cur, hv, hb, hg, hn, hm, hs, ht⟩⟩ := h1
  · omega
  · refine ⟨g, cap, by rw [hv, hl1], by omega, hb, (Array.getElem?_eq_some_iff.1 hg).1, fun i hi j u hu => ?_, fun i => frozen_of_row w' g i _ _ hg, h2⟩
    have hj : j < 4 := by
      have := (List.getElem?_eq_some_iff.1 hu).1
      rwa [tk_cells_len] at this
    rw [cell_blk hg, ← Array.getElem?_toList]
    have h3 : (cur.toList.take ((T ++ [endTk n]).length * 4))[i * 4 + j]? = (cellsT (T ++ [endTk n]))[i * 4 + j]? := by rw [ht]
    rw [List.getElem?_take_of_lt (by omega)] at h3
    rw [h3, cellsT_at _ i hi j hj]; exact hu

/-- Scan, whatever comes. -/
theorem sc_scan_x (s : ByteArray) (w : World) (hs : s.size ≤ 400000) (hG : Gl w) :
    Calls Tryd.prog 7 #[.string s] w fun e w' => ∃ A n c l e0, e = .returned (.tuple #[.slice A n c, .int .i64 l, .int .i64 e0]) ∧ Below w.heap.size w w' := by
  refine (scan_any s w hs hG).mono ?_
  cases scanL (bl s) with
  | err l e0 =>
    rintro e w' ⟨rfl, h2⟩
    exact ⟨none, 0, 0, _, _, rfl, h2⟩
  | ok z n T =>
    rintro e w' ⟨v, rfl, h1, h2⟩
    obtain ⟨A, c, rfl, _⟩ := RdT.of h1
    exact ⟨A, _, c, _, _, rfl, h2⟩

/-- A block of tokens. -/
def TB (w : World) (g : Nat) (L : List Tk) : Prop := ∀ (i : Nat) (hi : i < L.length) (j : Nat) (u : Value), (L[i]'hi).cells[j]? = some u → w.cell? ⟨g, i * 4 + j, none⟩ = some u
theorem TB.below {w w' : World} {g B : Nat} {L : List Tk} (h : TB w g L) (hb : Below B w w') (hg : g < B) : TB w' g L := fun i hi j u hu => by rw [hb.cell (p := ⟨g, i * 4 + j, none⟩) hg]; exact h i hi j u hu
theorem TB.rd {w : World} {g k n c : Nat} {L M : List Tk} (h : TB w g L) (hg : g < w.heap.size) (hn : n = M.length) (hL : ∀ i (hi : i < M.length), ∃ hk : k + i < L.length, L[k + i]'hk = M[i]'hi) : RdT w (.slice (some ⟨g, k * 4, none⟩) n c) M := by
  subst hn
  refine ⟨_, _, rfl, fun _ => ⟨g, k * 4, rfl, hg, fun i hi j u hu => ?_⟩⟩
  obtain ⟨hk, he⟩ := hL i hi
  rw [← he] at hu
  have := h (k + i) hk j u hu
  rwa [Nat.add_mul] at this

theorem TB.rd0 {w : World} {g n c : Nat} {L M : List Tk} (h : TB w g L) (hg : g < w.heap.size) (hn : n = M.length) (hL : ∀ i (hi : i < M.length), ∃ hk : i < L.length, L[i]'hk = M[i]'hi) : RdT w (.slice (some ⟨g, 0, none⟩) n c) M := by
  subst hn
  refine ⟨_, _, rfl, fun _ => ⟨g, 0, rfl, hg, fun i hi j u hu => ?_⟩⟩
  obtain ⟨hk, he⟩ := hL i hi
  rw [← he] at hu
  have := h i hk j u hu
  rwa [Nat.zero_add]

/-- The lines of the first so many tokens moved on. -/
def moved (n i : Nat) (M : List Tk) : List Tk := (M.take i).map (sh n) ++ M.drop i
theorem moved_len (n i : Nat) (M : List Tk) : (moved n i M).length = M.length := by unfold moved; rw [List.length_append, List.length_map, List.length_take, List.length_drop]; omega
theorem moved_at (n i : Nat) (M : List Tk) (j : Nat) (hj : j < M.length) : (moved n i M)[j]'(by rw [moved_len]; exact hj) = if j < i then sh n M[j] else M[j] := by
  unfold moved
  by_cases h : j < i
  · rw [if_pos h, List.getElem_append_left (by rw [List.length_map, List.length_take]; omega), List.getElem_map, List.getElem_take]
  · rw [if_neg h, List.getElem_append_right (by rw [List.length_map, List.length_take]; omega)]
    simp only [List.length_map, List.length_take, List.getElem_drop]
    congr 1; omega

theorem moved_all (n : Nat) (M : List Tk) : moved n M.length M = M.map (sh n) := by
  unfold moved; rw [List.take_length, List.drop_length, List.append_nil]
theorem TB.step {w : World} {g n i l : Nat} {V : List Tk} (h : TB w g (moved n i V)) (hi : i < V.length) (hl : (V[i]'hi).line = l) :
    TB (w.setCell ⟨g, i * 4 + 3, none⟩ (.int .i64 ((l : Int) + (n : Int)))) g (moved n (i + 1) V) := by
  intro j hj c u hu
  have hjV : j < V.length := by rwa [moved_len] at hj
  have hj2 : j < (moved n i V).length := by rw [moved_len]; exact hjV
  have hc : c < 4 := by
    have := (List.getElem?_eq_some_iff.1 hu).1
    rwa [tk_cells_len] at this
  rw [moved_at n (i + 1) V j hjV] at hu
  by_cases he : j = i ∧ c = 3
  · obtain ⟨rfl, rfl⟩ := he
    rw [if_pos (Nat.lt_succ_self _)] at hu
    have hu' : some (Value.int .i64 (((V[j].line + n : Nat)) : Int)) = some u := hu
    rw [World.cell?_setCell_same _ _ _ (h j hj2 3 _ rfl), ← hu', hl]
    rfl
  · rw [World.cell?_setCell_other _ _ _ _ (by intro hq; injection hq with _ h2 _; omega)]
    apply h j hj2 c u
    rw [moved_at n i V j hjV]
    by_cases hji : j < i
    · rw [if_pos hji]; rw [if_pos (by omega)] at hu; exact hu
    · rw [if_neg hji]
      by_cases h2 : j = i
      · subst h2
        rw [if_pos (Nat.lt_succ_self _)] at hu
        match c, hc with
        | 0, _ => exact hu
        | 1, _ => exact hu
        | 2, _ => exact hu
        | 3, _ => exact absurd ⟨rfl, rfl⟩ he
      · rw [if_neg (by omega)] at hu; exact hu
theorem TB.other {w : World} {g b i : Nat} {L : List Tk} {v : Value} (h : TB w g L) (hb : b ≠ g) : TB (w.setCell ⟨b, i, none⟩ v) g L := by
  intro j hj c u hu
  rw [World.cell?_setCell_other _ _ _ _ (by intro hq; injection hq with h1 _ _; exact hb h1)]
  exact h j hj c u hu

theorem run_equalIn_float (d : Nat) (t : TypeId) (k : FloatKind) (a b : Nat) (w : World) (h : Tryd.prog.underlying t = some (.float k)) : (Op.equalIn (d + 1) t (.float k a) (.float k b)).run Tryd.prog w = .ok (k.format.order a b == some .eq) w := by
  simp [Op.equalIn, run_underlying h, Op.floatEq]
@[local go_sem] theorem run_equalIn_float0 (w : World) : (Op.equalIn 9999 28 (.float .f64 0) (.float .f64 0)).run Tryd.prog w = .ok true w := by
  have ho : (FloatKind.f64.format.order 0 0 == some .eq) = true := by kernel_rfl
  rw [run_equalIn_float 9998 _ _ 0 0 w (by kernel_rfl), ho]
@[local go_sem] theorem tok_build (n : Int) (w : World) : (Instr.build 30 #[(0, .int .i64 8), (3, .int .i64 n)]).run Tryd.prog w = .ok (.agg #[.int .i64 8, .string ⟨#[]⟩, .float .f64 0, .int .i64 n]) w := run_build w 30 _ _ (by kernel_rfl)

set_option maxRecDepth 100000 in
set_option maxHeartbeats 8000000 in
theorem joins_any (a b : ByteArray) (w : World) (hG : Gl w) (ha : a.size ≤ 140737488351232) (hb : b.size ≤ 140737488351232) :
    Calls Tryd.prog 3 #[.string a, .string b] w fun e w' => e = .returned (.bool true) ∧ Below w.heap.size w w' := by
  have hfx := Lib.hid (fixed_any w hG)
  have HG := Lib.hid hG; clear hG
  go_enter Tryd.func3, Tryd.ntmps3
  go_wp2_with fail
  refine hfx.out.mono ?_
  rintro e w1 ⟨rfl, hb1⟩
  have HB1 := Lib.hid hb1
  have HG1 := Lib.hid (HG.out.below hb1 HG.out.lt)
  clear hfx hb1
  by_cases hbig : 10000 < a.size + b.size
  · have hbi : (10000 : Int) < (a.size : Int) + (b.size : Int) := by omega
    go_wp2_with fail
    go_ret
    exact ⟨rfl, HB1.out⟩
  · have hbi : ¬ ((10000 : Int) < (a.size : Int) + (b.size : Int)) := by omega
    have ha2 : a.size ≤ 10000 := by omega
    have hb2 : b.size ≤ 10000 := by omega
    clear hbig ha hb
    have hjb : bl (a ++ ⟨#[10]⟩ ++ b) = bl a ++ 10 :: bl b := by rw [bl_app, bl_app, List.append_assoc]; rfl
    have hjs : (a ++ ⟨#[10]⟩ ++ b : ByteArray).size ≤ 400000 := by
      rw [← bl_len, hjb, List.length_append, List.length_cons, bl_len, bl_len]; omega
    have HJB := Lib.hid hjb; have HJS := Lib.hid hjs
    clear hjb hjs
    cases hsa : scanL (bl a) with
    | err la ea =>
      obtain ⟨_, _, q3⟩ := scan_err hsa
      have q3' : ((ea : Int) != 0) = true := by simp; omega
      have hc1 := Lib.hid (sc_scan_err a w1 (by omega) HG1.out hsa)
      clear q3 hsa
      go_wp2_with fail
      refine hc1.out.mono ?_
      rintro e w2 ⟨rfl, hbe⟩
      have HB2 := Lib.hid (HB1.out.trans (hbe.mono HB1.out.size))
      have hc2 := Lib.hid (sc_scan_x b w2 (by omega) (HG.out.below HB2.out HG.out.lt))
      clear hbe hc1
      go_wp2_with fail
      refine hc2.out.mono ?_
      rintro e w3 ⟨A2, n2, c2, l2, e2, rfl, hbe⟩
      have HB3 := Lib.hid (HB2.out.trans (hbe.mono HB2.out.size))
      have hc3 := Lib.hid (sc_scan_x _ w3 HJS.out (HG.out.below HB3.out HG.out.lt))
      clear hbe hc2
      go_wp2_with fail
      refine hc3.out.mono ?_
      rintro e w4 ⟨A3, n3, c3, l3, e3, rfl, hbe⟩
      have HB4 := Lib.hid (HB3.out.trans (hbe.mono HB3.out.size))
      clear hbe hc3
      go_wp2_with fail
      go_ret
      exact ⟨rfl, HB4.out⟩
    | ok za n T =>
      obtain ⟨_, hn1, hIT, hTl⟩ := scan_ok hsa
      have hc1 := Lib.hid (sc_scan1 a w1 (by omega) HG1.out hsa)
      have hjo := Lib.hid (scan_join (bl a) (bl b) hsa)
      have hnl := nl_le (bl a)
      rw [bl_len] at hTl hnl
      have hn : n ≤ 10001 := by omega
      have hn0 : 1 ≤ n := by omega
      have HNE : Hid (∀ h : T.length < (T ++ [endTk n]).length, (T ++ [endTk n])[T.length]'h = endTk n) := fun h => by rw [List.getElem_append_right (Nat.le_refl _)]; simp
      clear hsa hn1 hIT hnl
      obtain ⟨A, hA⟩ : ∃ A, A = T.length := ⟨_, rfl⟩
      have HA := Lib.hid hA
      rw [← hA] at hTl hc1
      clear hA
      go_wp2_with fail
      refine hc1.out.mono ?_
      rintro e w2 ⟨g1, c1, rfl, hcap1, hgl1, hg1, hcl1, _, hbe⟩
      have TB1 : Hid (TB w2 g1 (T ++ [endTk n])) := hcl1
      have HB2 := Lib.hid (HB1.out.trans (hbe.mono HB1.out.size))
      have HG2 := Lib.hid (HG.out.below HB2.out HG.out.lt)
      clear hbe hc1 hcl1
      cases hsb : scanL (bl b) with
      | err lb eb =>
        obtain ⟨q1, q2, q3⟩ := scan_err hsb
        have hnl := nl_le (bl b)
        rw [bl_len] at hnl
        have hc2 := Lib.hid (sc_scan_err b w2 (by omega) HG2.out hsb)
        have hsj : scanL (bl (a ++ ⟨#[10]⟩ ++ b)) = .err (lb + n) eb := by rw [HJB.out, hjo.out, hsb]; rfl
        have HSJ := Lib.hid hsj
        have q3' : ((eb : Int) != 0) = true := by simp; omega
        have hlb : lb ≤ 10001 := by omega
        clear hsb hsj q2 q3 hnl
        go_wp2_with fail
        refine hc2.out.mono ?_
        rintro e w3 ⟨rfl, hbe⟩
        have TB3 : Hid (TB w3 g1 (T ++ [endTk n])) := TB1.out.below hbe hg1
        have hg3 : g1 < w3.heap.size := Nat.lt_of_lt_of_le hg1 hbe.size
        have HB3 := Lib.hid (HB2.out.trans (hbe.mono HB2.out.size))
        have hc3 := Lib.hid (sc_scan_err _ w3 HJS.out (HG.out.below HB3.out HG.out.lt) HSJ.out)
        clear hbe hc2 TB1 hg1
        go_wp2_with fail
        refine hc3.out.mono ?_
        rintro e w4 ⟨rfl, hbe⟩
        have TB4 : Hid (TB w4 g1 (T ++ [endTk n])) := TB3.out.below hbe hg3
        have HB4 := Lib.hid (HB3.out.trans (hbe.mono HB3.out.size))
        clear hbe hc3 TB3
        have hline : w4.cell? ⟨g1, A * 4 + 3, none⟩ = some (.int .i64 (n : Int)) := by
          have hA2 : T.length < (T ++ [endTk n]).length := by simp
          have := TB4.out T.length hA2 3 (.int .i64 (n : Int)) (by rw [HNE.out hA2]; rfl)
          rwa [← HA.out] at this
        have hgA := Lib.hid (get_byt a)
        go_upto_region 8 with (fail)
        go_cut [72] (fun v wx => ∃ q, v = .bool q ∧ w4 = wx)
        case first =>
          have c1 : ((((A : Nat) : Int) + 1) == 0) = false := beq_eq_false_iff_ne.2 (by omega)
          by_cases hz : a.size = 0
          · have hz3 : decide (0 < a.size) = false := decide_eq_false (by omega)
            clear hz
            go_wp2_with fail
            go_wp2_with fail
            go_meet
            exact ⟨false, rfl, rfl⟩
          · obtain ⟨k, hk⟩ : ∃ k, k + 1 = a.size := ⟨a.size - 1, by omega⟩
            have hkl : k < a.size := by omega
            have hz3 : decide (0 < a.size) = true := decide_eq_true (by omega)
            have hkw : IntKind.i64.wrap ((a.size : Int) - 1) = (k : Int) := by rw [show (a.size : Int) - 1 = (k : Int) by omega]; exact IntWalk.i64_in _ (by omega)
            have hgk := hgA.out k hkl
            clear hz hk
            by_cases k1 : byt (bl a) k = 92
            · have k1' : ((byt (bl a) k : Int) == 92) = true := by rw [k1]; rfl
              go_wp2_with fail
              go_wp2_with fail
              go_meet
              exact ⟨true, rfl, rfl⟩
            · have k1' : ((byt (bl a) k : Int) == 92) = false := beq_eq_false_iff_ne.2 (by omega)
              by_cases k2 : byt (bl a) k = 13
              · have k2' : ((byt (bl a) k : Int) == 13) = true := by rw [k2]; rfl
                go_wp2_with fail
                go_wp2_with fail
                go_meet
                exact ⟨true, rfl, rfl⟩
              · have k2' : ((byt (bl a) k : Int) == 13) = false := beq_eq_false_iff_ne.2 (by omega)
                go_wp2_with fail
                go_wp2_with fail
                go_meet
                exact ⟨false, rfl, rfl⟩
        case rest =>
          obtain ⟨q, rfl, rfl⟩ := hcut
          cases q with
          | true =>
            go_wp2_with fail
            go_ret
            exact ⟨rfl, HB4.out⟩
          | false =>
            have hw1 : IntKind.i64.wrap ((A : Int) + 1 - 1) = (A : Int) := by rw [show (A : Int) + 1 - 1 = (A : Int) by omega]; exact IntWalk.i64_in _ (by omega)
            have hA0 : (0 : Int) ≤ (A : Int) := by omega
            have hA1 : (A : Int) < (A : Int) + 1 := by omega
            have hlt : (n : Int) < (lb : Int) + (n : Int) := by omega
            go_wp2_with fail
            go_ret
            exact ⟨rfl, HB4.out⟩
      | ok zb nb U =>
        obtain ⟨_, q2, hIU, hUl⟩ := scan_ok hsb
        have hnl := nl_le (bl b)
        rw [bl_len] at hnl hUl
        have hnb : nb ≤ 10001 := by omega
        have HVL : Hid (∀ i (hi : i < (U ++ [endTk nb]).length), ((U ++ [endTk nb])[i]'hi).line ≤ nb) := fun i hi => (toks_at hIU (by omega) i hi).2.1
        have hc2 := Lib.hid (sc_scan1 b w2 (by omega) HG2.out hsb)
        obtain ⟨X, hX⟩ : ∃ X, X = T ++ [⟨8, ⟨#[]⟩, 0, n⟩] ++ U.map (sh n) := ⟨_, rfl⟩
        have hsj : scanL (bl (a ++ ⟨#[10]⟩ ++ b)) = .ok zb (nb + n) X := by rw [HJB.out, hjo.out, hsb, hX]; rfl
        have HSJ := Lib.hid hsj
        obtain ⟨B, hB⟩ : ∃ B, B = U.length := ⟨_, rfl⟩
        obtain ⟨N, hN⟩ : ∃ N, N = X.length := ⟨_, rfl⟩
        have hNA : N = A + 1 + B := by rw [hN, hX, HA.out, hB]; simp only [List.length_append, List.length_map, List.length_singleton]
        have HNA := Lib.hid hNA
        have HX := Lib.hid hX; have HB := Lib.hid hB; have HN := Lib.hid hN
        rw [← hB] at hUl hc2
        clear hsb hsj q2 hnl hIU hX hB hN hNA
        go_wp2_with fail
        refine hc2.out.mono ?_
        rintro e w3 ⟨g2, c2, rfl, hcap2, hgl2, hg2, hcl2, hfz2, hbe⟩
        have TB3 : Hid (TB w3 g1 (T ++ [endTk n])) := TB1.out.below hbe hg1
        have UB3 : Hid (TB w3 g2 (U ++ [endTk nb])) := hcl2
        have HB3 := Lib.hid (HB2.out.trans (hbe.mono HB2.out.size))
        have hgl2' : w.heap.size ≤ g2 := Nat.le_trans HB2.out.size hgl2
        have hg12 : g1 < g2 := by omega
        have hc3 : Hid (_) := Lib.hid (sc_scan1 _ w3 HJS.out (HG.out.below HB3.out HG.out.lt) HSJ.out)
        rw [← HN.out] at hc3
        clear hbe hc2 TB1 hcl2 hgl2 hg1
        go_wp2_with fail
        refine hc3.out.mono ?_
        rintro e w4 ⟨g3, c3, rfl, hcap3, hgl3, hg3, hcl3, _, hbe⟩
        have TB4 : Hid (TB w4 g1 (T ++ [endTk n])) := TB3.out.below hbe (by omega)
        have UB4 : Hid (TB w4 g2 (U ++ [endTk nb])) := UB3.out.below hbe hg2
        have XB4 : Hid (TB w4 g3 (X ++ [endTk (nb + n)])) := hcl3
        have FZ4 : Hid (∀ i, w4.frozen? ⟨g2, i, none⟩ = false) := fun i => by rw [hbe.frozen (p := ⟨g2, i, none⟩) hg2]; exact hfz2 i
        have HB4 := Lib.hid (HB3.out.trans (hbe.mono HB3.out.size))
        have hg24 : g2 < w4.heap.size := Nat.lt_of_lt_of_le hg2 hbe.size
        have hg32 : g2 < g3 := by omega
        clear hbe hc3 TB3 UB3 hcl3 hfz2 hgl3 hg2
        have hline : w4.cell? ⟨g1, A * 4 + 3, none⟩ = some (.int .i64 (n : Int)) := by
          have hA2 : T.length < (T ++ [endTk n]).length := by simp
          have := TB4.out T.length hA2 3 (.int .i64 (n : Int)) (by rw [HNE.out hA2]; rfl)
          rwa [← HA.out] at this
        have hgA := Lib.hid (get_byt a)
        go_upto_region 8 with (fail)
        go_cut [72] (fun v wx => ∃ q, v = .bool q ∧ w4 = wx)
        case first =>
          have c1 : ((((A : Nat) : Int) + 1) == 0) = false := beq_eq_false_iff_ne.2 (by omega)
          by_cases hz : a.size = 0
          · have hz3 : decide (0 < a.size) = false := decide_eq_false (by omega)
            clear hz
            go_wp2_with fail
            go_wp2_with fail
            go_meet
            exact ⟨false, rfl, rfl⟩
          · obtain ⟨k, hk⟩ : ∃ k, k + 1 = a.size := ⟨a.size - 1, by omega⟩
            have hkl : k < a.size := by omega
            have hz3 : decide (0 < a.size) = true := decide_eq_true (by omega)
            have hkw : IntKind.i64.wrap ((a.size : Int) - 1) = (k : Int) := by rw [show (a.size : Int) - 1 = (k : Int) by omega]; exact IntWalk.i64_in _ (by omega)
            have hgk := hgA.out k hkl
            clear hz hk
            by_cases k1 : byt (bl a) k = 92
            · have k1' : ((byt (bl a) k : Int) == 92) = true := by rw [k1]; rfl
              go_wp2_with fail
              go_wp2_with fail
              go_meet
              exact ⟨true, rfl, rfl⟩
            · have k1' : ((byt (bl a) k : Int) == 92) = false := beq_eq_false_iff_ne.2 (by omega)
              by_cases k2 : byt (bl a) k = 13
              · have k2' : ((byt (bl a) k : Int) == 13) = true := by rw [k2]; rfl
                go_wp2_with fail
                go_wp2_with fail
                go_meet
                exact ⟨true, rfl, rfl⟩
              · have k2' : ((byt (bl a) k : Int) == 13) = false := beq_eq_false_iff_ne.2 (by omega)
                go_wp2_with fail
                go_wp2_with fail
                go_meet
                exact ⟨false, rfl, rfl⟩
        case rest =>
          obtain ⟨q, rfl, rfl⟩ := hcut
          cases q with
          | true =>
            go_wp2_with fail
            go_ret
            exact ⟨rfl, HB4.out⟩
          | false =>
            have hNA := HNA.out
            have hw1 : IntKind.i64.wrap ((A : Int) + 1 - 1) = (A : Int) := by rw [show (A : Int) + 1 - 1 = (A : Int) by omega]; exact IntWalk.i64_in _ (by omega)
            have hwA : IntKind.i64.wrap (A : Int) = (A : Int) := IntWalk.i64_in _ (by omega)
            have hA0 : (0 : Int) ≤ (A : Int) := by omega
            have hA1 : (A : Int) < (A : Int) + 1 := by omega
            have hA2 : (A : Int) < (N : Int) + 1 := by omega
            have hA3 : (A : Int) ≤ (c3 : Int) := by omega
            have hA4 : (A : Int) ≤ (c1 : Int) := by omega
            have hc30 : ¬ (c3 = 0) := by omega
            have hc10 : ¬ (c1 = 0) := by omega
            have hc3A : ¬ (c3 = A + 1) := by omega
            have hsum : IntKind.i64.wrap ((A : Int) + 1 + ((B : Int) + 1)) = (N : Int) + 1 := by rw [show (A : Int) + 1 + ((B : Int) + 1) = (N : Int) + 1 by omega]; exact IntWalk.i64_in _ (by omega)
            have hNN : ((N : Int) + 1 != (N : Int) + 1) = false := by simp
            have hTX : ∀ i (hi : i < T.length), ∃ hk : i < (X ++ [endTk (nb + n)]).length, (X ++ [endTk (nb + n)])[i]'hk = T[i]'hi := by
              intro i hi
              rw [HX.out]
              have hk : i < (T ++ [(⟨8, ⟨#[]⟩, 0, n⟩ : Tk)] ++ U.map (sh n) ++ [endTk (nb + n)]).length := by simp; omega
              refine ⟨hk, ?_⟩
              rw [List.getElem_append_left (by simp; omega), List.getElem_append_left (by simp; omega), List.getElem_append_left hi]
            have hTT : ∀ i (hi : i < T.length), ∃ hk : i < (T ++ [endTk n]).length, (T ++ [endTk n])[i]'hk = T[i]'hi := fun i hi => ⟨by rw [List.length_append]; omega, by rw [List.getElem_append_left hi]⟩
            have hXA : ∃ hk : A < (X ++ [endTk (nb + n)]).length, (X ++ [endTk (nb + n)])[A]'hk = ⟨8, ⟨#[]⟩, 0, n⟩ := by
              rw [HX.out, HA.out]
              refine ⟨by simp only [List.length_append, List.length_singleton]; omega, ?_⟩
              rw [List.getElem_append_left (by simp only [List.length_append, List.length_singleton]; omega), List.getElem_append_left (by simp only [List.length_append, List.length_singleton]; omega), List.getElem_append_right (Nat.le_refl _)]
              simp
            have R1 := Lib.hid (fun m => (show RdT (w4.drewN m) (.slice (some ⟨g3, 0, none⟩) A c3) T from XB4.out.rd0 (c := c3) hg3 HA.out hTX))
            have R2 := Lib.hid (fun m => (show RdT (w4.drewN m) (.slice (some ⟨g1, 0, none⟩) A c1) T from TB4.out.rd0 (c := c1) (by omega) HA.out hTT))
            have HTL : Hid (T.length ≤ 1000000) := by show T.length ≤ 1000000; rw [← HA.out]; omega
            obtain ⟨hkA, hXA⟩ := hXA
            have a0 : w4.cell? ⟨g3, A * 4, none⟩ = some (.int .i64 8) := XB4.out A hkA 0 _ (by rw [hXA]; rfl)
            have a1 : w4.cell? ⟨g3, A * 4 + 1, none⟩ = some (.string ⟨#[]⟩) := XB4.out A hkA 1 _ (by rw [hXA]; rfl)
            have a2 : w4.cell? ⟨g3, A * 4 + 2, none⟩ = some (.float .f64 0) := XB4.out A hkA 2 _ (by rw [hXA]; rfl)
            have a3 : w4.cell? ⟨g3, A * 4 + 3, none⟩ = some (.int .i64 (n : Int)) := XB4.out A hkA 3 _ (by rw [hXA]; rfl)
            clear hTX hTT hXA hkA hNA
            go_wp2_with fail
            go_quiet (first | (go_at_call 8; refine Calls.quiet_of (same_any _ _ T _ (R1.out _) (R2.out _) HTL.out)) | fail)
            clear R1 R2 a0 a1 a2 a3 hline HTL hc30 hc10 hwA hjo
            have hVlen : (U ++ [endTk nb]).length = B + 1 := by rw [List.length_append, ← HB.out]; rfl
            have hXX : X ++ [endTk (nb + n)] = (T ++ [⟨8, ⟨#[]⟩, 0, n⟩]) ++ (U ++ [endTk nb]).map (sh n) := by rw [HX.out, List.map_append, ← List.append_assoc]; rfl
            obtain ⟨V, hV⟩ : ∃ V, V = U ++ [endTk nb] := ⟨_, rfl⟩
            rw [← hV] at UB4 HVL hVlen hXX
            have hXV : Hid (∀ i (hi : i < (V.map (sh n)).length), ∃ hk : A + 1 + i < (X ++ [endTk (nb + n)]).length, (X ++ [endTk (nb + n)])[A + 1 + i]'hk = (V.map (sh n))[i]'hi) := by
              intro i hi
              have hL : (T ++ [(⟨8, ⟨#[]⟩, 0, n⟩ : Tk)]).length = A + 1 := by rw [List.length_append, HA.out]; rfl
              rw [hXX]
              refine ⟨by rw [List.length_append, hL]; omega, ?_⟩
              rw [List.getElem_append_right (by rw [hL]; omega)]
              simp only [hL, Nat.add_sub_cancel_left]
            have HVN := Lib.hid hVlen
            clear hV hXX hVlen
            obtain ⟨w5, hw5⟩ : ∃ w5, w5 = w4.drewN nq := ⟨_, rfl⟩
            have UB5 : Hid (TB w5 g2 (moved n 0 V)) := by rw [hw5]; exact UB4.out
            have XB5 : Hid (TB w5 g3 (X ++ [endTk (nb + n)])) := by rw [hw5]; exact XB4.out
            have FZ5 : Hid (∀ i, w5.frozen? ⟨g2, i, none⟩ = false) := by rw [hw5]; exact FZ4.out
            have HB5 : Hid (Below w.heap.size w w5) := by rw [hw5]; exact below_drewN HB4.out _
            have hs5 : g3 < w5.heap.size := by rw [hw5]; exact hg3
            rw [← hw5]
            clear hw5 XB4 UB4 TB4 FZ4 HB4 hg24 hg3
            go_wp2_with fail
            go_loopw [134] (fun v wr => ∃ i : Nat, i ≤ B + 1 ∧ v = .int .i64 (i : Int) ∧ Hid (TB wr g2 (moved n i V)) ∧ Hid (TB wr g3 (X ++ [endTk (nb + n)])) ∧ Hid (∀ k, wr.frozen? ⟨g2, k, none⟩ = false) ∧ Hid (Below w.heap.size w wr) ∧ w5.heap.size = wr.heap.size) (fun v _ => (B + 1 - intOf v).toNat)
            case atStart => exact ⟨0, Nat.zero_le _, rfl, UB5, XB5, FZ5, HB5, rfl⟩
            case round =>
              obtain ⟨i, hi, rfl, ht, hx, hf, hbe, hsz⟩ := hrel
              have HSZ := Lib.hid hsz; clear hsz
              by_cases hlt : i < B + 1
              · have hiV : i < V.length := by rw [HVN.out]; exact hlt
                have hl := HVL.out i hiV
                obtain ⟨l, hle⟩ : ∃ l, l = (V[i]'hiV).line := ⟨_, rfl⟩
                rw [← hle] at hl
                have a3 : wr.cell? ⟨g2, i * 4 + 3, none⟩ = some (.int .i64 (l : Int)) := by
                  have hm : i < (moved n i V).length := by rw [moved_len]; exact hiV
                  refine ht.out i hm 3 _ ?_
                  rw [moved_at n i V i hiV, if_neg (Nat.lt_irrefl i), hle]; rfl
                have hst := Lib.hid (ht.out.step hiV hle.symm)
                have hfz := hf.out (i * 4 + 3)
                have hsw : IntKind.i64.wrap ((l : Int) + (n : Int)) = (l : Int) + (n : Int) := IntWalk.i64_in _ (by omega)
                have hi0 : (0 : Int) ≤ (i : Int) := by omega
                have hi1 : (i : Int) < (B : Int) + 1 := by omega
                clear hle hiV
                go_wp2_with fail
                go_roundw
                case rel => exact ⟨i + 1, by omega, by go_num, hst, hx.out.other (by omega), fun k => by simpa using hf.out k, hbe.out.setCell (by omega) _, by have h := HSZ.out; simpa using h⟩
                case measure => simp [intOf]; omega
              · have hge : ¬ ((i : Int) < (B : Int) + 1) := by omega
                have hiB : i = V.length := by rw [HVN.out]; omega
                have hml : (V.map (sh n)).length = B + 1 := by rw [List.length_map, HVN.out]
                have htm : TB wr g2 (V.map (sh n)) := by have h := ht.out; rw [hiB, moved_all] at h; exact h
                have hNA := HNA.out
                have hsz := HSZ.out
                have RA := Lib.hid (show RdT wr (.slice (some ⟨g3, (A + 1) * 4, none⟩) (N - A) (c3 - (A + 1))) (V.map (sh n)) from hx.out.rd (by omega) (by rw [hml]; omega) hXV.out)
                have RM := Lib.hid (show RdT wr (.slice (some ⟨g2, 0, none⟩) (B + 1) c2) (V.map (sh n)) from htm.rd0 (by omega) hml.symm (fun i hi => ⟨hi, rfl⟩))
                have HML := Lib.hid hml
                have hA5 : (0 : Int) ≤ (A : Int) + 1 := by omega
                have hA6 : (A : Int) + 1 ≤ (N : Int) + 1 := by omega
                clear hiB hml htm hNA hsz
                go_wp2_with fail
                refine (same_any _ _ (V.map (sh n)) wr RA.out RM.out (by rw [HML.out]; omega)).mono ?_
                rintro e w6 ⟨rfl, m, rfl⟩
                go_wp2_with fail
                go_ret
                exact ⟨rfl, below_drewN hbe.out _⟩

end Go.Proofs.YtifcibbhblhfiaaDoor
