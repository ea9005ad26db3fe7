/- Walks of package lex: strings. -/
import Derived.Test.YtifcibbhblhfiaaGreatDoorLexC
import Derived.WalkMore
namespace Go.Proofs.YtifcibbhblhfiaaGreatDoor
open Go.RowKit Pl
set_option linter.unusedVariables false

/-- What one step of the scanner gives: an error at a line, or what is left, the line, the tokens. -/
inductive Res where
  | err (line e0 : Nat)
  | ok (rest : List UInt8) (line : Nat) (T : List Tk)

def TokPost (w : World) (B : Nat) (s : ByteArray) : Res → Ending → World → Prop
  | .err l n => fun e w' => e = faultE l n ∧ Below B w w'
  | .ok rest line T => fun e w' => ∃ v pos, e = .returned (.tuple #[]) ∧ pos ≤ s.size ∧ (bl s).drop pos = rest ∧ Sc w' B s pos line v T ∧ Below B w w'

theorem Ob.str {w : World} {base : Nat} {vo : Value} {l : List UInt8} (h : Ob w base vo l) : (convert 38 9 vo).run Tryz.prog w = .ok (.string ⟨l.toArray⟩) w := by
  obtain ⟨h1, ⟨h2, h3⟩ | ⟨g, cap, cur, rfl, hb, hg, hn, hm, hs, ht⟩⟩ := h
  · subst h2
    obtain rfl : l = [] := List.eq_nil_of_length_eq_zero h3
    rw [show (Value.slice none 0 0) = .slice none 0 0 from rfl, run_convert_bytes_string w _ _ 5 none 0 0 Tryz.underlying38 Tryz.underlying5 Tryz.underlying9]
    simp [Conv.bytesToString]
    rfl
  · refine run_convert_bytes_back w _ _ 5 ⟨g, 0, none⟩ cap l Tryz.underlying38 Tryz.underlying5 Tryz.underlying9 (fun j hj => ?_)
    rw [Nat.mul_one] at ht
    have e : ((⟨g, 0, none⟩ : Addr).add j) = ⟨g, j, none⟩ := by
      unfold Addr.add
      split
      · rename_i h; subst h; rfl
      · simp
    rw [e, cell_blk hg j, ← Array.getElem?_toList]
    have h4 : (cur.toList.take l.length)[j]? = (l.map e8)[j]? := by rw [ht]
    rw [List.getElem?_take_of_lt hj, List.getElem?_map, List.getElem?_eq_getElem hj] at h4
    rw [h4]; rfl

theorem esc_len (r : List UInt8) (h : r ≠ []) : 1 ≤ (esc r).2.1 ∧ (esc r).2.1 ≤ r.length ∧ (esc r).2.2 ≤ (esc r).2.1 ∧ (esc r).1.length ≤ 1 := by
  cases r with
  | nil => exact absurd rfl h
  | cons b r =>
    rw [esc]
    split
    · simp
    · split
      · simp
      · split
        · rename_i h8
          have h1 := digL_le 8 3 (b :: r) 0
          refine ⟨?_, h1.2, by simp, by simp⟩
          have h2 : ∀ n : Fin 256, 48 ≤ n.val → n.val ≤ 55 → ¬ (n.val < 48 ∨ hexDig n.val < 0 ∨ (8 : Int) ≤ hexDig n.val) := by decide +kernel
          have h3 : ¬ (b.toNat < 48 ∨ hexDig b.toNat < 0 ∨ ((8 : Nat) : Int) ≤ hexDig b.toNat) := h2 ⟨b.toNat, b.toNat_lt⟩ h8.1 h8.2
          simp only []
          rw [digL, if_neg h3]
          simp
        · split
          · have h1 := digL_le 16 2 r 0
            split
            · refine ⟨by simp, by simp only [List.length_cons]; omega, by simp, by simp⟩
            · simp
          · simp

/-- A string from behind its quote: its bytes, what is left, the line there; none: it is none. -/
def textGo (r : List UInt8) (out : List UInt8) (line : Nat) : Option (List UInt8 × List UInt8 × Nat) :=
  match r with
  | [] => none
  | b :: t =>
    if b.toNat = 10 ∨ 1024 < out.length then none
    else if b.toNat = 34 then some (out, t, line)
    else if h : b.toNat = 92 ∧ t ≠ [] then textGo (t.drop (esc t).2.1) (out ++ (esc t).1) (line + (esc t).2.2)
    else textGo t (out ++ [b]) line
termination_by r.length
decreasing_by
  · have := esc_len t h.2; simp only [List.length_drop, List.length_cons]; omega
  · simp

def textR (r : List UInt8) (line : Nat) (T : List Tk) : Res :=
  match textGo r [] line with
  | none => .err line 201
  | some (out, rest, ln) => if 1024 < out.length then .err line 201 else .ok rest ln (T ++ [⟨4, ⟨out.toArray⟩, 0, line⟩])

/-- The place of a scanner in a world. -/
def posOf (B : Nat) (w : World) : Int := match w.cell? ⟨B, 1, none⟩ with | some (.int _ q) => q | _ => 0

theorem Sc.pos {w : World} {B : Nat} {s : ByteArray} {pos line : Nat} {v : Value} {T : List Tk} (h : Sc w B s pos line v T) : posOf B w = (pos : Int) := by unfold posOf; rw [h.c1]

set_option maxRecDepth 100000 in
set_option maxHeartbeats 4000000 in
theorem sc_text (B pos line : Nat) (s : ByteArray) (v : Value) (T : List Tk) (w : World) (h : Sc w B s pos line v T) (hp : pos < s.size) (hs : s.size ≤ 100000000) (hln : line ≤ 500000000) (hT : T.length ≤ 1000000) :
    Calls Tryz.prog 30 #[.pointer (some ⟨B, 0, none⟩)] w (TokPost w B s (textR ((bl s).drop (pos + 1)) line T)) := by
  have HL := Lib.hid (bl_len s)
  have hg := get_byt s
  have h0 := h.c0; have h1 := h.c1; have h2 := h.c2; have hf := h.fz 1
  have hlow : Low v w.heap.size := fun g hg => (h.row.lt g hg).2
  have hB := h.lt
  have LOW := Lib.hid hlow
  have S := Lib.hid h; clear h hlow
  have X : Hid (Bx w.heap.size B w w) := Bx.refl _ _ _
  obtain ⟨base, hbase⟩ : ∃ b, b = w.heap.size := ⟨_, rfl⟩
  have hbw : base ≤ w.heap.size := by omega
  rw [← hbase] at hB LOW X
  have HB := Lib.hid hbase
  clear hbase
  obtain ⟨R, hR⟩ : ∃ R, R = textR ((bl s).drop (pos + 1)) line T := ⟨_, rfl⟩
  rw [← hR]
  have HR := Lib.hid hR; clear hR
  go_enter Tryz.func30, Tryz.ntmps30
  go_step3
  go_wp2_with fail
  go_step3
  go_wp2_with fail
  go_loopw [3] (fun vo wr => ∃ (p ln : Nat) (l : List UInt8), p ≤ s.size ∧ ln ≤ line + p ∧ l.length ≤ 1026 ∧ base ≤ wr.heap.size ∧ (∃ A c, vo = .slice A l.length c) ∧
    Hid (textGo ((bl s).drop (pos + 1)) [] line = textGo ((bl s).drop p) l ln) ∧ Hid (Sc wr B s p ln v T) ∧ Hid (Ob wr base vo l) ∧ Hid (Bx base B w wr)) (fun _ wr => (s.size - posOf B wr).toNat)
  case atStart => exact ⟨pos + 1, line, [], hp, by omega, by simp, by simpa using hbw, ⟨_, _, rfl⟩, rfl, S.out.set1 (pos + 1), World.ownsRow_nil _ _ _ _, X.out.set 1 _⟩
  case round =>
    clear h0 h1 h2 hf S X hbw
    obtain ⟨p, ln, l, hps, hlnp, hll, hbw, ⟨A, c, rfl⟩, hgo, S, O, X⟩ := hrel
    have h0 := S.out.c0; have h1 := S.out.c1; have hf := S.out.fz 1
    have MP := Lib.hid S.out.pos
    have hfail : textGo ((bl s).drop p) l ln = none → R = .err line 201 := by
      intro h; rw [HR.out, textR, hgo.out, h]
    have HF := Lib.hid hfail; clear hfail
    by_cases hlp : p < s.size
    · have hgp := hg p hlp
      have hbb := byt_lt (bl s) p
      have hdr : (bl s).drop p = (bl s).getD p 0 :: (bl s).drop (p + 1) := drop_byt _ _ (by rw [HL.out]; exact hlp)
      have hst : textGo ((bl s).drop p) l ln = if byt (bl s) p = 10 ∨ 1024 < l.length then none
          else if byt (bl s) p = 34 then some (l, (bl s).drop (p + 1), ln)
          else if byt (bl s) p = 92 ∧ (bl s).drop (p + 1) ≠ [] then textGo (((bl s).drop (p + 1)).drop (esc ((bl s).drop (p + 1))).2.1) (l ++ (esc ((bl s).drop (p + 1))).1) (ln + (esc ((bl s).drop (p + 1))).2.2)
          else textGo ((bl s).drop (p + 1)) (l ++ [(bl s).getD p 0]) ln := by
        rw [hdr, textGo, ← byt_getD]
        simp only [dite_eq_ite]
      have HST := Lib.hid hst
      clear hst hdr
      have hlt1 : ¬ ((s.size : Int) ≤ (p : Int)) := by omega
      by_cases h10 : byt (bl s) p = 10
      · have hR := HF.out (by rw [HST.out, if_pos (.inl h10)])
        have HRR := Lib.hid hR; clear hR
        have hb10 : (((byt (bl s) p : Nat) : Int) == 10) = true := by rw [h10]; rfl
        go_wp2_with fail
        go_quiet (fail)
        go_wp2_with fail
        refine (sc_fail _ _ _ _).mono ?_
        rintro e w' ⟨rfl, rfl⟩
        unfold faultE
        go_wp2_with fail
        rw [Exit.noGoto_panic, HRR.out]
        exact ⟨rfl, rfl, (X.out.drewN nq).below (by omega)⟩
      · have hb10 : (((byt (bl s) p : Nat) : Int) == 10) = false := beq_eq_false_iff_ne.2 (by omega)
        by_cases hbig : 1024 < l.length
        · have hR := HF.out (by rw [HST.out, if_pos (.inr hbig)])
          have HRR := Lib.hid hR; clear hR
          have hbig2 : (1024 : Int) < (l.length : Int) := by omega
          go_wp2_with fail
          go_quiet (fail)
          go_wp2_with fail
          refine (sc_fail _ _ _ _).mono ?_
          rintro e w' ⟨rfl, rfl⟩
          unfold faultE
          go_wp2_with fail
          rw [Exit.noGoto_panic, HRR.out]
          exact ⟨rfl, rfl, (X.out.drewN nq).below (by omega)⟩
        · have hbig2 : ¬ ((1024 : Int) < (l.length : Int)) := by omega
          have hst2 := HST.out
          rw [if_neg (by omega)] at hst2
          have HST2 := Lib.hid hst2
          clear hst2 HST HF
          go_wp2_with fail
          go_quiet (fail)
          have S2 := Lib.hid (S.out.drewN nq); have O2 := Lib.hid (show Ob (wr.drewN nq) base _ l from O.out); have X2 := Lib.hid (X.out.drewN nq)
          have hbw2 : base ≤ (wr.drewN nq).heap.size := hbw
          clear h0 h1 hf S O X hbw
          generalize wr.drewN nq = wr at S2 O2 X2 hbw2 ⊢
          have h0 := S2.out.c0; have h1 := S2.out.c1; have hf := S2.out.fz 1
          have S := S2; have O := O2; have X := X2; have hbw := hbw2
          clear S2 O2 X2 hbw2
          go_wp2_with fail
          go_quiet (fail)
          have S2 := Lib.hid (S.out.drewN nq); have O2 := Lib.hid (show Ob (wr.drewN nq) base _ l from O.out); have X2 := Lib.hid (X.out.drewN nq)
          have hbw2 : base ≤ (wr.drewN nq).heap.size := hbw
          clear h0 h1 hf S O X hbw
          generalize wr.drewN nq = wr at S2 O2 X2 hbw2 ⊢
          have h0 := S2.out.c0; have h1 := S2.out.c1; have hf := S2.out.fz 1
          have S := S2; have O := O2; have X := X2; have hbw := hbw2
          clear S2 O2 X2 hbw2
          go_upto_block 2 with (fail)
          have S2 : Hid (Sc (wr.setCell ⟨B, 1, none⟩ (.int .i64 ((p : Int) + 1))) B s (p + 1) ln v T) := S.out.set1 (p + 1)
          have O2 := Lib.hid (Ob.set (i := 1) (u := .int .i64 ((p : Int) + 1)) O.out hB)
          have X2 : Hid (Bx base B w (wr.setCell ⟨B, 1, none⟩ (.int .i64 ((p : Int) + 1)))) := X.out.set 1 _
          have hbw2 : base ≤ (wr.setCell ⟨B, 1, none⟩ (.int .i64 ((p : Int) + 1))).heap.size := by simpa using hbw
          clear h0 h1 hf S O X hbw
          generalize wr.setCell ⟨B, 1, none⟩ (.int .i64 ((p : Int) + 1)) = wr at S2 O2 X2 hbw2 ⊢
          have h0 := S2.out.c0; have h1 := S2.out.c1; have hf := S2.out.fz 1
          have S := S2; have O := O2; have X := X2; have hbw := hbw2
          clear S2 O2 X2 hbw2
          by_cases h34 : byt (bl s) p = 34
          · have hR : R = .ok ((bl s).drop (p + 1)) ln (T ++ [⟨4, ⟨l.toArray⟩, 0, line⟩]) := by
              rw [HR.out, textR, hgo.out, HST2.out, if_pos h34]
              show (if 1024 < l.length then _ else _) = _
              rw [if_neg hbig]
            have HRR := Lib.hid hR; clear hR
            have hb34 : (((byt (bl s) p : Nat) : Int) == 34) = true := by rw [h34]; rfl
            have hcv := O.out.str
            have had := Lib.hid (sc_add B (p + 1) ln 4 line 0 s ⟨l.toArray⟩ v T wr S.out hT)
            have hbig3 : ¬ ((1024 : Int) < (l.length : Int)) := by omega
            go_wp2_with fail
            refine had.out.mono ?_
            rintro e w' ⟨v', rfl, hS, hBw⟩
            have HS := Lib.hid hS; have HBW := Lib.hid hBw; clear hS hBw
            go_wp2_with fail
            rw [Exit.noGoto_normal]
            go_end0
            rw [HRR.out]
            exact ⟨v', p + 1, rfl, hlp, rfl, HS.out, (X.out.below (by omega)).trans HBW.out⟩
          · have hst3 := HST2.out
            rw [if_neg h34] at hst3
            have hb34 : (((byt (bl s) p : Nat) : Int) == 34) = false := beq_eq_false_iff_ne.2 (by omega)
            have HST3 := Lib.hid hst3
            clear hst3 HST2
            by_cases h92 : byt (bl s) p = 92 ∧ p + 1 < s.size
            · have hne : (bl s).drop (p + 1) ≠ [] := by
                intro h
                have := congrArg List.length h
                rw [List.length_drop, HL.out] at this
                simp at this; omega
              have hst4 := HST3.out
              rw [if_pos ⟨h92.1, hne⟩, List.drop_drop] at hst4
              have HST4 := Lib.hid hst4
              have hel := esc_len _ hne
              rw [List.length_drop, HL.out] at hel
              have hb92 : (((byt (bl s) p : Nat) : Int) == 92) = true := by rw [h92.1]; rfl
              have hlt2 : (p : Int) + 1 < (s.size : Int) := by omega
              obtain ⟨E, hE⟩ : ∃ E, E = esc ((bl s).drop (p + 1)) := ⟨_, rfl⟩
              have HE := Lib.hid hE
              rw [← hE] at hel HST4
              clear hst4 HST3 hne hE
              go_wp2_with fail
              go_quiet (fail)
              have S2 := Lib.hid (S.out.drewN nq); have O2 := Lib.hid (show Ob (wr.drewN nq) base _ l from O.out); have X2 := Lib.hid (X.out.drewN nq)
              have hbw2 : base ≤ (wr.drewN nq).heap.size := hbw
              clear h0 h1 hf S O X hbw
              generalize wr.drewN nq = wr at S2 O2 X2 hbw2 ⊢
              have hes := sc_escape B (p + 1) ln base s v _ T l wr S2.out O2.out LOW.out hB hbw2 h92.2 hs (by omega) (by omega)
              rw [← HE.out] at hes
              have HES := Lib.hid hes
              clear hes
              go_wp2_with fail
              refine HES.out.mono ?_
              rintro e w' ⟨vo', rfl, hO, hS, hX⟩
              have S3 := Lib.hid hS; have X3 := Lib.hid (X2.out.trans hX)
              have hbw3 : base ≤ w'.heap.size := Nat.le_trans hbw2 hX.size
              obtain ⟨A', c', rfl⟩ := hO.shape
              have O3 := Lib.hid hO
              clear hS hX hO
              obtain ⟨E1, E2, E3⟩ := E
              simp only [] at hel S3 O3 HST4
              go_wp2_with fail
              go_roundw
              case rel =>
                refine ⟨p + 1 + E2, ln + E3, l ++ E1, by omega, by omega, by rw [List.length_append]; omega, hbw3, ⟨A', c', by rw [List.length_append]⟩, ?_, S3.out, by have h := O3.out; rwa [List.length_append] at h, X3.out⟩
                show _ = _
                rw [hgo.out, HST4.out]
              case measure => rw [S3.out.pos, MP.out]; omega
            · have hst4 := HST3.out
              rw [if_neg (by
                rintro ⟨h1, h2⟩
                apply h92
                refine ⟨h1, ?_⟩
                rcases Nat.lt_or_ge (p + 1) s.size with h | h
                · exact h
                · exact absurd (List.drop_eq_nil_of_le (by rw [HL.out]; exact h)) h2)] at hst4
              have HST4 := Lib.hid hst4
              clear hst4 HST3
              have hcase : ((((byt (bl s) p : Nat) : Int) == 92) = false) ∨ ((((byt (bl s) p : Nat) : Int) == 92) = true ∧ ¬ ((p : Int) + 1 < (s.size : Int))) := by
                by_cases h : byt (bl s) p = 92
                · exact .inr ⟨by rw [h]; rfl, by omega⟩
                · exact .inl (beq_eq_false_iff_ne.2 (by omega))
              have hby := Lib.hid (byt_getD (bl s) p)
              clear h92
              rcases hcase with hq | ⟨hq, hq2⟩
              all_goals
                go_wp2_with fail
                go_quiet (fail)
                have S2 := Lib.hid (S.out.drewN nq); have O2 := Lib.hid (show Ob (wr.drewN nq) base _ l from O.out); have X2 := Lib.hid (X.out.drewN nq)
                have hbw2 : base ≤ (wr.drewN nq).heap.size := hbw
                clear h0 h1 hf S O X hbw
                generalize wr.drewN nq = wr at S2 O2 X2 hbw2 ⊢
                go_wp2_with (at_builtin; go_must (refine wpList_appN (W := _) rfl _ _ 38 rfl base 5 (.int .u8 0) 1 1 Tryz.underlying38 infoByte rfl (by decide) _ l.length (l.map e8) rfl (by exact O2.out) _ 1 1 (by decide) rfl rfl (by simp [Value.oneCell']) (by unfold maxLen; omega) (by omega) (by exact hbw2) ?_))
                intro g cp w3 hown hb
                have S3 := Lib.hid (S2.out.low LOW.out hB hb); have X3 := Lib.hid (X2.out.trans (Bx.of hb))
                have hbw3 : base ≤ w3.heap.size := Nat.le_trans hbw2 hb.size
                rw [hby.out] at hown
                have O3 := Lib.hid (Ob.app (x := (bl s).getD p 0) rfl hown)
                clear hown hb
                go_wp2
                go_roundw
                case rel =>
                  refine ⟨p + 1, ln, l ++ [(bl s).getD p 0], hlp, by omega, by rw [List.length_append, List.length_singleton]; omega, hbw3, ⟨some ⟨g, 0, none⟩, cp, by rw [List.length_append]; rfl⟩, ?_, S3.out, O3.out, X3.out⟩
                  show _ = _
                  rw [hgo.out, HST4.out]
                case measure => rw [S3.out.pos, MP.out]; omega
    · have hR := HF.out (by rw [List.drop_eq_nil_of_le (by rw [HL.out]; omega), textGo])
      have HRR := Lib.hid hR; clear hR
      have hq : ((s.size : Int) ≤ (p : Int)) := by omega
      go_wp2_with fail
      go_quiet (fail)
      go_wp2_with fail
      refine (sc_fail _ _ _ _).mono ?_
      rintro e w' ⟨rfl, rfl⟩
      unfold faultE
      go_wp2_with fail
      rw [Exit.noGoto_panic, HRR.out]
      exact ⟨rfl, rfl, (X.out.drewN nq).below (by omega)⟩

end Go.Proofs.YtifcibbhblhfiaaGreatDoor
