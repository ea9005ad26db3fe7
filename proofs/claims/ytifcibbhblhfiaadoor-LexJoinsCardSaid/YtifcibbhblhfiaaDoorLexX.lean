/- The statements of package lex: LexLines, the walk of the law. -/
import Derived.Test.YtifcibbhblhfiaaDoorLexV
namespace Go.Proofs.YtifcibbhblhfiaaDoor
open Go.RowKit Pl
set_option linter.unusedVariables false
attribute [local go_sem] run_store_float

theorem nl_succ (l : List UInt8) (k : Nat) (h : k < l.length) : nl (l.take (k + 1)) = nl (l.take k) + if byt l k = 10 then 1 else 0 := by
  rw [List.take_succ_eq_append_getElem h, nl_app, byt_eq l k h]
  congr 1
  rw [nl_cons]
  have : nl [] = 0 := rfl
  rw [this, Nat.zero_add]
  by_cases hc : l[k] = 10
  · rw [if_pos hc, if_pos (by rw [hc]; rfl)]
  · rw [if_neg hc, if_neg (show ¬ l[k].toNat = 10 from fun h => hc (UInt8.toNat_inj.1 h))]
theorem nl_le (l : List UInt8) : nl l ≤ l.length := List.count_le_length

/-- What a token at a place of all tokens is like. -/
theorem toks_at {T : List Tk} {n : Nat} (h : Inv T n) (hn : 1 ≤ n) (i : Nat) (hi : i < (T ++ [endTk n]).length) :
    1 ≤ ((T ++ [endTk n])[i]'hi).line ∧ ((T ++ [endTk n])[i]'hi).line ≤ n ∧ (((T ++ [endTk n])[i]'hi).kind = 9 ↔ i = T.length) ∧ (∀ j (hj : j < (T ++ [endTk n]).length), j < i → ((T ++ [endTk n])[j]'hj).line ≤ ((T ++ [endTk n])[i]'hi).line) := by
  have hmono : (T ++ [endTk n]).Pairwise (fun a b => a.line ≤ b.line) := by
    rw [List.pairwise_append]
    refine ⟨h.mono, List.pairwise_singleton _ _, fun x hx y hy => ?_⟩
    rw [List.mem_singleton.1 hy]; exact (h.each x hx).2.1
  have hm : ∀ j (hj : j < (T ++ [endTk n]).length), j < i → ((T ++ [endTk n])[j]'hj).line ≤ ((T ++ [endTk n])[i]'hi).line := fun j hj hji => List.pairwise_iff_getElem.1 hmono j i hj hi hji
  by_cases hl : i < T.length
  · rw [List.getElem_append_left hl] at *
    have he := h.each T[i] (List.getElem_mem hl)
    exact ⟨he.1, he.2.1, ⟨fun h => absurd h he.2.2, fun h => by omega⟩, hm⟩
  · have hi2 : i = T.length := by rw [List.length_append, List.length_singleton] at hi; omega
    subst hi2
    have he : ((T ++ [endTk n])[T.length]'hi) = endTk n := by rw [List.getElem_append_right (Nat.le_refl _)]; simp
    rw [he]
    exact ⟨hn, Nat.le_refl _, ⟨fun _ => rfl, fun _ => rfl⟩, fun j hj hji => Nat.le_trans (hm j hj hji) (Nat.le_of_eq (congrArg Tk.line he))⟩

def n8 (T : List Tk) : Nat := T.countP (fun t => t.kind == 8)
theorem n8_succ (T : List Tk) (i : Nat) (h : i < T.length) : n8 (T.take (i + 1)) = n8 (T.take i) + if (T[i]'h).kind = 8 then 1 else 0 := by
  unfold n8
  rw [List.take_succ_eq_append_getElem h, List.countP_append, List.countP_singleton]
  congr 1
  by_cases hk : (T[i]'h).kind = 8
  · rw [if_pos (by simpa using hk), if_pos hk]
  · rw [if_neg (by simpa using hk), if_neg hk]
theorem n8_all {T : List Tk} {n : Nat} (h : Inv T n) : n8 (T ++ [endTk n]) + 1 ≤ n := by
  unfold n8
  rw [List.countP_append]
  have : [endTk n].countP (fun t => t.kind == 8) = 0 := rfl
  rw [this]; exact h.ends

set_option maxRecDepth 100000 in
set_option maxHeartbeats 4000000 in
theorem lines_any (s : ByteArray) (w : World) (hG : Gl w) (hsz : s.size ≤ 9223372036854775807) :
    Calls Tryd.prog 4 #[.string s] w fun e w' => e = .returned (.bool true) ∧ Below w.heap.size w w' := by
  have hfx := Lib.hid (fixed_any w hG)
  have HG := Lib.hid hG; clear hG
  have hg := get_byt s
  have HGB := Lib.hid hg; clear hg
  have HL := Lib.hid (bl_len s)
  go_enter Tryd.func4, Tryd.ntmps4
  go_wp2_with fail
  refine hfx.out.mono ?_
  rintro e w1 ⟨rfl, hb1⟩
  have HB1 := Lib.hid hb1
  have HG1 := Lib.hid (HG.out.below hb1 HG.out.lt)
  clear hfx hb1
  by_cases hbig : 20000 < s.size
  · have hbi : (20000 : Int) < (s.size : Int) := by omega
    go_wp2_with fail
    go_ret
    exact ⟨rfl, HB1.out⟩
  · have hbi : ¬ ((20000 : Int) < (s.size : Int)) := by omega
    have hs2 : s.size ≤ 20000 := by omega
    clear hbig hsz
    cases hsc : scanL (bl s) with
    | err l0 e0 =>
      obtain ⟨q1, q2, q3⟩ := scan_err hsc
      have hca := Lib.hid (sc_scan_err s w1 (by omega) HG1.out hsc)
      clear hsc
      have q2' : l0 ≤ nl (bl s) + 1 := by omega
      have QN := Lib.hid q2'
      have q3' : ((e0 : Int) != 0) = true := by simp; omega
      clear q2 q2' q3
      go_wp2_with fail
      refine hca.out.mono ?_
      rintro e w2 ⟨rfl, hb2⟩
      have HB2 := Lib.hid hb2; clear hb2 hca
      go_wp2_with fail
      go_loopw [6, 8] (fun v6 v8 wr => ∃ k : Nat, k ≤ s.size ∧ v8 = .int .i64 (k : Int) ∧ (∃ m : Nat, m ≤ k ∧ v6 = .int .i64 (m : Int) ∧ Hid (m = nl ((bl s).take k))) ∧ w2 = wr) (fun _ v8 _ => (s.size - intOf v8).toNat)
      case atStart => exact ⟨0, Nat.zero_le _, rfl, ⟨0, Nat.le_refl _, rfl, rfl⟩, rfl⟩
      case round =>
        obtain ⟨k, hk, rfl, ⟨m, hmk, rfl, hm⟩, rfl⟩ := hrel
        by_cases hlt : k < s.size
        · have hgk := HGB.out k hlt
          have hn := nl_succ (bl s) k (by rw [HL.out]; exact hlt)
          rw [← hm.out] at hn
          have HN := Lib.hid hn; clear hn
          by_cases h10 : byt (bl s) k = 10
          · have q : Hid (nl ((bl s).take (k + 1)) = m + 1) := by show _ = _; rw [HN.out, if_pos h10]
            rw [h10] at hgk
            clear h10
            go_wp2_with fail
            go_roundw
            case rel => exact ⟨k + 1, by omega, by go_num, ⟨m + 1, by omega, by go_num, q.out.symm⟩, trivial⟩
            case measure => simp [intOf]; omega
          · have q : Hid (nl ((bl s).take (k + 1)) = m) := by show _ = _; rw [HN.out, if_neg h10]; rfl
            have h10' : (((byt (bl s) k : Nat) : Int) == 10) = false := beq_eq_false_iff_ne.2 (by omega)
            clear h10
            go_wp2_with fail
            go_roundw
            case rel => exact ⟨k + 1, by omega, by go_num, ⟨m, by omega, rfl, q.out.symm⟩, trivial⟩
            case measure => simp [intOf]; omega
        · have hms : m = nl (bl s) := by rw [hm.out, List.take_of_length_le (by rw [HL.out]; omega)]
          have hl0 : l0 ≤ m + 1 := by rw [hms]; exact QN.out
          have hl1 : ((l0 : Int) ≤ (m : Int) + 1) := by omega
          have hl2 : (1 : Int) ≤ (l0 : Int) := by omega
          clear hms
          go_wp2_with fail
          go_ret
          exact ⟨rfl, HB1.out.trans (HB2.out.mono HB1.out.size)⟩
    | ok z n T =>
      obtain ⟨q1, q2, q3, q4⟩ := scan_ok hsc
      have hca := Lib.hid (sc_scan s w1 (by omega) HG1.out hsc)
      clear hsc q1
      have hnl := nl_le (bl s)
      rw [HL.out] at hnl q4
      have HAT := Lib.hid (fun i hi => toks_at q3 (by omega) i hi)
      have HN8 := Lib.hid (n8_all q3)
      have HNQ := Lib.hid q2
      have hn1 : n ≤ 20001 := by omega
      clear q2 q3 hnl
      obtain ⟨U, hU⟩ : ∃ U, U = T ++ [endTk n] := ⟨_, rfl⟩
      have hUl : U.length = T.length + 1 := by rw [hU]; simp
      have hUe : ∀ h : T.length < U.length, (U[T.length]'h).line = n := by
        subst hU; intro h; rw [List.getElem_append_right (Nat.le_refl _)]; simp [endTk]
      rw [← hU] at hca HN8
      have HAT : Hid (∀ i (hi : i < U.length), 1 ≤ (U[i]'hi).line ∧ (U[i]'hi).line ≤ n ∧ ((U[i]'hi).kind = 9 ↔ i = T.length) ∧ (∀ j (hj : j < U.length), j < i → (U[j]'hj).line ≤ (U[i]'hi).line)) := by
        subst hU; exact HAT.out
      have HUE := Lib.hid hUe
      clear hU hUe
      obtain ⟨N, hN⟩ : ∃ N, N = U.length := ⟨_, rfl⟩
      rw [← hN] at hca hUl
      have HNU := Lib.hid hN
      clear hN
      go_wp2_with fail
      refine hca.out.mono ?_
      rintro e w2 ⟨A, c, rfl, ⟨A', c', hv, hrd⟩, _, hb2⟩
      obtain ⟨g, o, hA', hg2, hcl⟩ := hrd (by rw [← HNU.out]; omega)
      have hA : A = some ⟨g, o, none⟩ := by injection hv with h1 h2 h3; rw [h1]; exact hA'
      have HB2 := Lib.hid hb2
      have HCL := Lib.hid hcl
      clear hb2 hca hcl hrd hv hA'
      subst hA
      obtain ⟨M, hM⟩ : ∃ M, M = T.length := ⟨_, rfl⟩
      have HM := Lib.hid hM
      rw [← hM] at hUl q4
      have hM20 : M ≤ 20000 := Nat.le_trans q4 hs2
      clear hM
      subst hUl
      go_wp2_with fail
      go_loopw [6, 8] (fun v6 v8 wr => ∃ k : Nat, k ≤ s.size ∧ v8 = .int .i64 (k : Int) ∧ (∃ m : Nat, m ≤ k ∧ v6 = .int .i64 (m : Int) ∧ Hid (m = nl ((bl s).take k))) ∧ w2 = wr) (fun _ v8 _ => (s.size - intOf v8).toNat)
      case atStart => exact ⟨0, Nat.zero_le _, rfl, ⟨0, Nat.le_refl _, rfl, rfl⟩, rfl⟩
      case round =>
        obtain ⟨k, hk, rfl, ⟨m, hmk, rfl, hm⟩, rfl⟩ := hrel
        by_cases hlt : k < s.size
        · have hgk := HGB.out k hlt
          have hn := nl_succ (bl s) k (by rw [HL.out]; exact hlt)
          rw [← hm.out] at hn
          have HN := Lib.hid hn; clear hn
          by_cases h10 : byt (bl s) k = 10
          · have q : Hid (nl ((bl s).take (k + 1)) = m + 1) := by show _ = _; rw [HN.out, if_pos h10]
            rw [h10] at hgk
            clear h10
            go_wp2_with fail
            go_roundw
            case rel => exact ⟨k + 1, by omega, by go_num, ⟨m + 1, by omega, by go_num, q.out.symm⟩, trivial⟩
            case measure => simp [intOf]; omega
          · have q : Hid (nl ((bl s).take (k + 1)) = m) := by show _ = _; rw [HN.out, if_neg h10]; rfl
            have h10' : (((byt (bl s) k : Nat) : Int) == 10) = false := beq_eq_false_iff_ne.2 (by omega)
            clear h10
            go_wp2_with fail
            go_roundw
            case rel => exact ⟨k + 1, by omega, by go_num, ⟨m, by omega, rfl, q.out.symm⟩, trivial⟩
            case measure => simp [intOf]; omega
        · have hms : m = nl (bl s) := by rw [hm.out, List.take_of_length_le (by rw [HL.out]; omega)]
          have hnm : n = m + 1 := by rw [HNQ.out, hms]; omega
          have HNM := Lib.hid hnm
          have h51 : m ≤ 20000 := by omega
          clear hms hnm hm
          go_wp2_with fail
          go_loopw [7, 51] (fun v7 v51 wx => ∃ i q : Nat, i ≤ M + 1 ∧ q ≤ i ∧ v51 = .int .i64 (i : Int) ∧ v7 = .int .i64 (q : Int) ∧ Hid (q = n8 (U.take i)) ∧ Hid (Below w2.heap.size w2 wx)) (fun _ v51 _ => (M + 1 - intOf v51).toNat)
          case atStart => exact ⟨0, 0, Nat.zero_le _, Nat.le_refl _, rfl, rfl, rfl, Below.refl _ _⟩
          case round =>
            obtain ⟨i, q, hi, hqi, rfl, rfl, hq, hbe⟩ := hrel
            by_cases hil : i < M + 1
            · have hiU : i < U.length := by rw [← HNU.out]; exact hil
              obtain ⟨p1, p2, p3, p4⟩ := HAT.out i hiU
              have hn8 := n8_succ U i hiU
              rw [← hq.out] at hn8
              have hcel := HCL.out i hiU
              have hprev : ∀ j (hj : j + 1 = i), ∃ pl : Nat, wr.cell? ⟨g, o + j * 4 + 3, none⟩ = some (.int .i64 (pl : Int)) ∧ (pl : Int) ≤ ((U[i]'hiU).line : Int) := by
                intro j hj
                have hjU : j < U.length := by omega
                refine ⟨(U[j]'hjU).line, ?_, by have := p4 j hjU (by omega); omega⟩
                rw [hbe.out.cell (p := ⟨g, o + j * 4 + 3, none⟩) hg2]; exact HCL.out j hjU 3 _ rfl
              generalize U[i]'hiU = t at p1 p2 p3 hn8 hcel hprev
              obtain ⟨k, tx, tn, tl⟩ := t
              have hn8 : n8 (U.take (i + 1)) = q + if k = 8 then 1 else 0 := hn8
              have p1 : 1 ≤ tl := p1
              have p2 : tl ≤ m + 1 := by have h : tl ≤ n := p2; rw [HNM.out] at h; exact h
              have p3 : k = 9 ↔ i = M := by rw [HM.out]; exact p3
              have HN8S := Lib.hid hn8
              have a0 : wr.cell? ⟨g, o + i * 4, none⟩ = some (.int .i64 (k : Int)) := by rw [hbe.out.cell (p := ⟨g, o + i * 4, none⟩) hg2]; exact hcel 0 _ rfl
              have a1 : wr.cell? ⟨g, o + i * 4 + 1, none⟩ = some (.string tx) := by rw [hbe.out.cell (p := ⟨g, o + i * 4 + 1, none⟩) hg2]; exact hcel 1 _ rfl
              have a2 : wr.cell? ⟨g, o + i * 4 + 2, none⟩ = some (.float .f64 tn) := by rw [hbe.out.cell (p := ⟨g, o + i * 4 + 2, none⟩) hg2]; exact hcel 2 _ rfl
              have a3 : wr.cell? ⟨g, o + i * 4 + 3, none⟩ = some (.int .i64 (tl : Int)) := by rw [hbe.out.cell (p := ⟨g, o + i * 4 + 3, none⟩) hg2]; exact hcel 3 _ rfl
              have HBE := Lib.hid hbe.out
              have hgl : g < wr.heap.size := Nat.lt_of_lt_of_le hg2 hbe.out.size
              have hi0 : (0 : Int) ≤ (i : Int) := by omega
              have hi1 : (i : Int) < (M : Int) + 1 := by omega
              have hwm : IntKind.i64.wrap ((m : Int) + 1) = (m : Int) + 1 := IntWalk.i64_in _ (by omega)
              have hwM : IntKind.i64.wrap ((M : Int) + 1 - 1) = (M : Int) := by rw [show (M : Int) + 1 - 1 = (M : Int) by omega]; exact IntWalk.i64_in _ (by omega)
              have t1 : decide ((tl : Int) < 1) = false := decide_eq_false (by omega)
              have t2 : decide ((m : Int) + 1 < (tl : Int)) = false := decide_eq_false (by omega)
              clear hn8 hcel p4 hq
              have hway : (((k : Int) == 9) = true ∧ ((i : Int) == (M : Int)) = true ∧ ((k : Int) == 8) = false ∧ k ≠ 8) ∨ (((k : Int) == 9) = false ∧ ((i : Int) == (M : Int)) = false ∧ ((k : Int) == 8) = false ∧ k ≠ 8) ∨ (((k : Int) == 9) = false ∧ ((i : Int) == (M : Int)) = false ∧ ((k : Int) == 8) = true ∧ k = 8) := by
                by_cases h9 : k = 9
                · have := p3.1 h9
                  exact .inl ⟨by rw [h9]; rfl, by rw [this]; simp, by rw [h9]; rfl, by omega⟩
                · have h2 : ¬ (i = M) := fun h => h9 (p3.2 h)
                  by_cases h8 : k = 8
                  · exact .inr (.inr ⟨by rw [h8]; rfl, beq_eq_false_iff_ne.2 (by omega), by rw [h8]; rfl, h8⟩)
                  · exact .inr (.inl ⟨beq_eq_false_iff_ne.2 (by omega), beq_eq_false_iff_ne.2 (by omega), beq_eq_false_iff_ne.2 (by omega), h8⟩)
              clear p1 p2 p3 hiU
              by_cases hz : i = 0
              · have hz2 : ¬ (0 < (i : Int)) := by omega
                have hz3 : decide (0 < i) = false := decide_eq_false (by omega)
                clear hz hprev hz2
                rcases hway with ⟨b1, b2, b3, b4⟩ | ⟨b1, b2, b3, b4⟩ | ⟨b1, b2, b3, b4⟩
                · have K8 := Lib.hid b4
                  clear b4
                  go_wp2_with fail
                  go_quiet (fail)
                  go_wp2_with fail
                  go_roundw
                  case rel => exact ⟨i + 1, q, by omega, by omega, by go_num, rfl, by show _ = _; rw [HN8S.out, if_neg K8.out]; rfl, (HBE.out.alloc HBE.out.size _).trans (Bx.below (Bx.drewN (Bx.refl w2.heap.size w2.heap.size _) nq) (Nat.le_refl _))⟩
                  case measure => simp [intOf]; omega
                · have K8 := Lib.hid b4
                  clear b4
                  go_wp2_with fail
                  go_quiet (fail)
                  go_wp2_with fail
                  go_roundw
                  case rel => exact ⟨i + 1, q, by omega, by omega, by go_num, rfl, by show _ = _; rw [HN8S.out, if_neg K8.out]; rfl, (HBE.out.alloc HBE.out.size _).trans (Bx.below (Bx.drewN (Bx.refl w2.heap.size w2.heap.size _) nq) (Nat.le_refl _))⟩
                  case measure => simp [intOf]; omega
                · have K8 := Lib.hid b4
                  clear b4
                  go_wp2_with fail
                  go_quiet (fail)
                  go_wp2_with fail
                  go_roundw
                  case rel => exact ⟨i + 1, q + 1, by omega, by omega, by go_num, by go_num, by show _ = _; rw [HN8S.out, if_pos K8.out], (HBE.out.alloc HBE.out.size _).trans (Bx.below (Bx.drewN (Bx.refl w2.heap.size w2.heap.size _) nq) (Nat.le_refl _))⟩
                  case measure => simp [intOf]; omega
              · have hz2 : 0 < (i : Int) := by omega
                obtain ⟨j, hj⟩ : ∃ j, j + 1 = i := ⟨i - 1, by omega⟩
                obtain ⟨pl, hpc, hpl⟩ := hprev j hj
                have hij : (i : Int) - 1 = (j : Int) := by omega
                have hjm : j ≤ M := by omega
                have hw1 : IntKind.i64.wrap ((i : Int) - 1) = (j : Int) := by rw [hij]; exact IntWalk.i64_in _ (by omega)
                clear hij
                have hj0 : (0 : Int) ≤ (j : Int) := by omega
                have hj1 : (j : Int) < (M : Int) + 1 := by omega
                have hpl : (pl : Int) ≤ (tl : Int) := hpl
                have hpl2 : decide (tl < pl) = false := decide_eq_false (by omega)
                have hz3 : decide (0 < i) = true := decide_eq_true (by omega)
                clear hz hprev hj hpl
                rcases hway with ⟨b1, b2, b3, b4⟩ | ⟨b1, b2, b3, b4⟩ | ⟨b1, b2, b3, b4⟩
                · have K8 := Lib.hid b4
                  clear b4
                  go_wp2_with fail
                  go_quiet (fail)
                  go_wp2_with fail
                  go_roundw
                  case rel => exact ⟨i + 1, q, by omega, by omega, by go_num, rfl, by show _ = _; rw [HN8S.out, if_neg K8.out]; rfl, (HBE.out.alloc HBE.out.size _).trans (Bx.below (Bx.drewN (Bx.refl w2.heap.size w2.heap.size _) nq) (Nat.le_refl _))⟩
                  case measure => simp [intOf]; omega
                · have K8 := Lib.hid b4
                  clear b4
                  go_wp2_with fail
                  go_quiet (fail)
                  go_wp2_with fail
                  go_roundw
                  case rel => exact ⟨i + 1, q, by omega, by omega, by go_num, rfl, by show _ = _; rw [HN8S.out, if_neg K8.out]; rfl, (HBE.out.alloc HBE.out.size _).trans (Bx.below (Bx.drewN (Bx.refl w2.heap.size w2.heap.size _) nq) (Nat.le_refl _))⟩
                  case measure => simp [intOf]; omega
                · have K8 := Lib.hid b4
                  clear b4
                  go_wp2_with fail
                  go_quiet (fail)
                  go_wp2_with fail
                  go_roundw
                  case rel => exact ⟨i + 1, q + 1, by omega, by omega, by go_num, by go_num, by show _ = _; rw [HN8S.out, if_pos K8.out], (HBE.out.alloc HBE.out.size _).trans (Bx.below (Bx.drewN (Bx.refl w2.heap.size w2.heap.size _) nq) (Nat.le_refl _))⟩
                  case measure => simp [intOf]; omega
            · have hie : i = M + 1 := by omega
              have hq2 : q ≤ m := by
                have h1 := HN8.out
                rw [hq.out, hie, List.take_of_length_le (by rw [← HNU.out]; exact Nat.le_refl _)]
                rw [HNM.out] at h1; omega
              have hMU : M < U.length := by rw [← HNU.out]; omega
              have hlast : wr.cell? ⟨g, o + M * 4 + 3, none⟩ = some (.int .i64 ((m : Int) + 1)) := by
                have h := HCL.out M hMU 3 _ rfl
                have h2 : (U[M]'hMU).line = m + 1 := by
                  have h3 := HUE.out (by rw [← HM.out]; exact hMU)
                  rw [HNM.out] at h3
                  rw [← h3]; congr 1; congr 1
                rw [hbe.out.cell (p := ⟨g, o + M * 4 + 3, none⟩) hg2, h, h2]; rfl
              have hx1 : ¬ ((i : Int) < (M : Int) + 1) := by omega
              have hq3 : (q : Int) ≤ (m : Int) := by omega
              have hM0 : (0 : Int) < (M : Int) + 1 := by omega
              have hM1 : (0 : Int) ≤ (M : Int) := by omega
              have hM2 : (M : Int) < (M : Int) + 1 := by omega
              have hw1 : IntKind.i64.wrap ((M : Int) + 1 - 1) = (M : Int) := by rw [show (M : Int) + 1 - 1 = (M : Int) by omega]; exact IntWalk.i64_in _ (by omega)
              have HBE := Lib.hid hbe.out
              clear hie hq hMU
              go_wp2_with fail
              go_ret
              exact ⟨rfl, HB1.out.trans ((HB2.out.mono HB1.out.size).trans (HBE.out.mono (Nat.le_trans HB1.out.size HB2.out.size)))⟩

end Go.Proofs.YtifcibbhblhfiaaDoor
