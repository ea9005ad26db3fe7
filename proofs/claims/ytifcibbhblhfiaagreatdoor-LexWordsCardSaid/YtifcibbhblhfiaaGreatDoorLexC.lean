/- Walks of package lex: escapes. -/
import Derived.Test.YtifcibbhblhfiaaGreatDoorLexB
namespace Go.Proofs.YtifcibbhblhfiaaGreatDoor
open Go.RowKit Pl
set_option linter.unusedVariables false

def ctlLS : ByteArray := ⟨#[110, 116, 114, 97, 98, 102, 118]⟩
theorem indexByte_lt (l : List UInt8) (c : UInt8) : Lib.indexByte l c < l.length ∨ l = [] := by
  induction l with
  | nil => exact .inr rfl
  | cons b l ih =>
    left
    rw [Lib.indexByte]
    split
    · simp only [List.length_cons]; omega
    · split
      · simp only [List.length_cons]; omega
      · rcases ih with ih | ih
        · simp only [List.length_cons]; omega
        · subst ih; rename_i h; exact absurd rfl h

theorem byt_mod (n : Nat) : ((n % 256).toUInt8.toNat : Int) = (n : Int) % 256 := by
  rw [Nat.toUInt8, UInt8.toNat_ofNat']; omega

theorem Ob.set {w : World} {base B i : Nat} {vo u : Value} {l : List UInt8} (h : Ob w base vo l) (hB : B < base) : Ob (w.setCell ⟨B, i, none⟩ u) base vo l := ownsRow_setCell_below h hB u

theorem ctl_at (I : Nat) (h : I < ByteArray.size ⟨#[10, 9, 13, 7, 8, 12, 11]⟩) : (((⟨#[10, 9, 13, 7, 8, 12, 11]⟩ : ByteArray)[I]'h).toNat : Int) = ((ctlV.getD I 0).toNat : Int) := by
  rw [get_byt _ I h, byt_getD]; rfl

/-- What an escape's post asks. -/
def EscPost (w : World) (B base pos line : Nat) (s : ByteArray) (v : Value) (T : List Tk) (l : List UInt8) (E : List UInt8 × Nat × Nat) (e : Ending) (w' : World) : Prop :=
  ∃ vo', e = .returned vo' ∧ Ob w' base vo' (l ++ E.1) ∧ Sc w' B s (pos + E.2.1) (line + E.2.2) v T ∧ Bx base B w w'

theorem esc_done {w w2 w' : World} {B base pos line pos' line' g c a b : Nat} {s : ByteArray} {v : Value} {T : List Tk} {l : List UInt8} {x : UInt8} {E : List UInt8 × Nat × Nat} (HS : Sc w2 B s pos' line' v T) (hlow : Low v base) (hB : B < base)
    (HB : Bx base B w w2) (hown : w'.ownsRow base 5 1 (.slice (some ⟨g, 0, none⟩) (l.length + 1) c) (l.length + 1) (l.map e8 ++ [e8 x])) (hb : Below base w2 w') (hE : E = ([x], a, b)) (h1 : pos' = pos + a) (h2 : line' = line + b) :
    EscPost w B base pos line s v T l E (.returned (.slice (some ⟨g, 0, none⟩) (l.length + 1) c)) w' := by
  subst hE h1 h2
  exact ⟨_, rfl, Ob.app rfl hown, HS.low hlow hB hb, HB.trans (Bx.of hb)⟩

set_option maxRecDepth 100000 in
set_option maxHeartbeats 2000000 in
theorem sc_escape (B pos line base : Nat) (s : ByteArray) (v vo : Value) (T : List Tk) (l : List UInt8) (w : World) (h : Sc w B s pos line v T) (ho : Ob w base vo l) (hlow : Low v base) (hB : B < base) (hbw : base ≤ w.heap.size)
    (hp : pos < s.size) (hs : s.size ≤ 100000000) (hl : l.length ≤ 100000) (hln : line ≤ 1000000000) :
    Calls Tryz.prog 43 #[.pointer (some ⟨B, 0, none⟩), vo] w (EscPost w B base pos line s v T l (esc ((bl s).drop pos))) := by
  have HL := Lib.hid (bl_len s)
  have hg := get_byt s
  have h0 := h.c0; have h1 := h.c1; have h2 := h.c2
  have HS := Lib.hid h; have HO := Lib.hid ho; have HLOW := Lib.hid hlow
  obtain ⟨c, hc⟩ : ∃ c, c = (bl s).getD pos 0 := ⟨_, rfl⟩
  have hbc : byt (bl s) pos = c.toNat := by rw [byt_getD, ← hc]
  have hcl : c.toNat < 256 := c.toNat_lt
  have hgp := hg pos hp
  rw [hbc] at hgp
  have HR : Hid ((bl s).drop pos = c :: (bl s).drop (pos + 1)) := by show _ = _; rw [drop_byt _ _ (by rw [bl_len]; exact hp), ← hc]
  obtain ⟨i, hi⟩ : ∃ i, i = Lib.indexByte ctlL c := ⟨_, rfl⟩
  have hi1 := Lib.indexByte_ge ctlL c
  have hi2 := (indexByte_lt ctlL c).resolve_right (by decide)
  rw [← hi] at hi1 hi2
  have hi3 : i < 7 := hi2
  have hix : ∀ w, Calls Tryz.prog 25 #[.string ctlLS, .int .u8 (c.toNat : Int)] w fun e w' => e = .returned (.int .i64 i) ∧ w = w' := by
    intro w
    refine (Tryz.strings_IndexByte ctlLS (c.toNat : Int) w).mono ?_
    rintro e w' ⟨rfl, rfl⟩
    refine ⟨ret_int ?_, rfl⟩
    rw [hi, Int.toNat_natCast]
    show Lib.indexByte ctlL (c.toNat).toUInt8 = _
    rw [show c.toNat.toUInt8 = c from UInt8.ofNat_toNat]
  have HIX := Lib.hid hix
  have HI := Lib.hid hi
  have HC := Lib.hid hc
  clear hix hi hc h ho hlow hi2
  go_enter Tryz.func43, Tryz.ntmps43
  go_wp2_with fail
  go_quiet (fail)
  have HS2 := Lib.hid (HS.out.drewN nq); have HO2 : Hid (Ob (w.drewN nq) base vo l) := HO.out; have HB2 := Lib.hid ((Bx.refl base B w).drewN nq)
  have hbw2 : base ≤ (w.drewN nq).heap.size := hbw
  clear h0 h1 h2 HS HO
  generalize w.drewN nq = w1 at HS2 HO2 HB2 hbw2 ⊢
  have h0 := HS2.out.c0; have h1 := HS2.out.c1; have h2 := HS2.out.c2
  have hf1 := HS2.out.fz 1; have hf2 := HS2.out.fz 2
  go_wp2_with fail
  refine (HIX.out _).mono ?_
  rintro e w' ⟨rfl, rfl⟩
  by_cases hi0 : 0 ≤ i
  · obtain ⟨I, rfl⟩ : ∃ I : Nat, i = (I : Int) := ⟨i.toNat, by omega⟩
    have hct := ctl_at I (by show I < 7; omega)
    have hE : esc ((bl s).drop pos) = ([ctlV.getD I 0], 1, 0) := by rw [HR.out, esc, ← HI.out, if_pos hi0, Int.toNat_natCast]
    have HE := Lib.hid hE; clear hE
    go_upto_region 5 with (fail)
    have HS3 : Hid (Sc (w1.setCell ⟨B, 1, none⟩ (.int .i64 ((pos : Int) + 1))) B s (pos + 1) line v T) := HS2.out.set1 (pos + 1)
    have HO3 : Hid (Ob (w1.setCell ⟨B, 1, none⟩ (.int .i64 ((pos : Int) + 1))) base vo l) := HO2.out.set hB
    have HB3 : Hid (Bx base B w (w1.setCell ⟨B, 1, none⟩ (.int .i64 ((pos : Int) + 1)))) := HB2.out.set 1 _
    have hbw3 : base ≤ (w1.setCell ⟨B, 1, none⟩ (.int .i64 ((pos : Int) + 1))).heap.size := by simpa using hbw2
    clear h0 h1 h2 hf1 hf2 HS2 HO2 HB2 hbw2
    generalize w1.setCell ⟨B, 1, none⟩ (.int .i64 ((pos : Int) + 1)) = w2 at HS3 HO3 HB3 hbw3 ⊢
    go_wp2_with (at_builtin; go_must (refine wpList_appN (W := _) rfl _ _ 38 rfl base 5 (.int .u8 0) 1 1 Tryz.underlying38 infoByte rfl (by decide) _ l.length (l.map e8) rfl (by exact HO3.out) _ 1 1 (by decide) rfl rfl (by simp [Value.oneCell']) (by unfold maxLen; omega) (by omega) (by exact hbw3) ?_))
    intro g cp w3 hown hb
    have HOW := Lib.hid hown; have HBE := Lib.hid hb
    clear hown hb
    go_wp2
    go_ret
    exact esc_done HS3.out HLOW.out hB HB3.out HOW.out HBE.out HE.out rfl rfl
  · have hI : ¬ 0 ≤ Lib.indexByte ctlL c := by rw [← HI.out]; exact hi0
    by_cases h10 : c.toNat = 10
    · have hc10 : c = 10 := UInt8.toNat_inj.1 h10
      have hE : esc ((bl s).drop pos) = ([], 1, 1) := by rw [HR.out, esc, if_neg hI, if_pos hc10]
      have HE := Lib.hid hE
      have hb10 : ((c.toNat : Int) == 10) = true := by rw [h10]; rfl
      clear hE hc10 hI
      go_wp2_with fail
      go_ret
      refine ⟨vo, rfl, ?_, ?_, ?_⟩
      · rw [HE.out, List.append_nil]; exact (HO2.out.set hB).set hB
      · rw [HE.out]; exact (HS2.out.set2 (line + 1)).set1 (pos + 1)
      · exact (HB2.out.set 2 _).set 1 _
    · have hc10 : ¬ c = 10 := fun h => h10 (by rw [h]; rfl)
      have hb10 : ((c.toNat : Int) == 10) = false := beq_eq_false_iff_ne.2 (by omega)
      by_cases hoct : 48 ≤ c.toNat ∧ c.toNat ≤ 55
      · have ho1 : 48 ≤ ((c.toNat : Nat) : Int) := by omega
        have ho2 : ((c.toNat : Nat) : Int) ≤ 55 := by omega
        have hE : esc ((bl s).drop pos) = ([((digL 8 3 ((bl s).drop pos) 0).1 % 256).toUInt8], (digL 8 3 ((bl s).drop pos) 0).2, 0) := by rw [HR.out, esc, if_neg hI, if_neg hc10, if_pos hoct]
        have hdg := sc_digits B pos line 3 8 s v T w1 HS2.out (by omega) hs (by decide) (by decide)
        generalize digL 8 3 ((bl s).drop pos) 0 = D at hE hdg
        obtain ⟨V, n⟩ := D
        simp only [] at hE hdg
        have HE := Lib.hid hE; have HDG := Lib.hid hdg
        clear hE hdg hc10 hI hoct
        go_wp2_with fail
        refine HDG.out.mono ?_
        rintro e w2 ⟨rfl, hS3, hB3⟩
        have HO3 := Lib.hid (HO2.out.keep hB hB3 (Nat.le_refl _))
        have HB3 := Lib.hid (HB2.out.trans (hB3.mono hbw2))
        have hbw3 : base ≤ w2.heap.size := Nat.le_trans hbw2 hB3.size
        have HS3 := Lib.hid hS3
        clear hS3 hB3 h0 h1 h2 hf1 hf2 HS2 HO2 HB2 hbw2
        go_upto_region 12 with (fail)
        go_wp2_with (at_builtin; go_must (refine wpList_appN (W := _) rfl _ _ 38 rfl base 5 (.int .u8 0) 1 1 Tryz.underlying38 infoByte rfl (by decide) _ l.length (l.map e8) rfl (by exact HO3.out) _ 1 1 (by decide) rfl rfl (by simp [Value.oneCell']) (by unfold maxLen; omega) (by omega) (by exact hbw3) ?_))
        intro g cp w3 hown hb
        rw [← byt_mod V] at hown
        have HOW := Lib.hid hown; have HBE := Lib.hid hb
        clear hown hb
        go_wp2
        go_ret
        exact esc_done HS3.out HLOW.out hB HB3.out HOW.out HBE.out HE.out rfl rfl
      · have hoc : ¬ (48 ≤ ((c.toNat : Nat) : Int)) ∨ (48 ≤ ((c.toNat : Nat) : Int) ∧ ¬ (((c.toNat : Nat) : Int) ≤ 55)) := by omega
        by_cases h120 : c.toNat = 120
        · have hc120 : c = 120 := UInt8.toNat_inj.1 h120
          have hb120 : ((c.toNat : Int) == 120) = true := by rw [h120]; rfl
          have ho1 : 48 ≤ ((c.toNat : Nat) : Int) := by omega
          have ho2 : ¬ (((c.toNat : Nat) : Int) ≤ 55) := by omega
          have hE : esc ((bl s).drop pos) = if 0 < (digL 16 2 ((bl s).drop (pos + 1)) 0).2 then ([((digL 16 2 ((bl s).drop (pos + 1)) 0).1 % 256).toUInt8], 1 + (digL 16 2 ((bl s).drop (pos + 1)) 0).2, 0) else ([120], 1, 0) := by
            rw [HR.out, esc, if_neg hI, if_neg hc10, if_neg hoct, if_pos hc120]
          have HE := Lib.hid hE
          clear hE hc120 hI hoct hoc hc10
          go_upto_region 15 with (fail)
          have HS3 : Hid (Sc (w1.setCell ⟨B, 1, none⟩ (.int .i64 ((pos : Int) + 1))) B s (pos + 1) line v T) := HS2.out.set1 (pos + 1)
          have HO3 : Hid (Ob (w1.setCell ⟨B, 1, none⟩ (.int .i64 ((pos : Int) + 1))) base vo l) := HO2.out.set hB
          have HB3 : Hid (Bx base B w (w1.setCell ⟨B, 1, none⟩ (.int .i64 ((pos : Int) + 1)))) := HB2.out.set 1 _
          have hbw3 : base ≤ (w1.setCell ⟨B, 1, none⟩ (.int .i64 ((pos : Int) + 1))).heap.size := by simpa using hbw2
          clear h0 h1 h2 hf1 hf2 HS2 HO2 HB2 hbw2
          generalize w1.setCell ⟨B, 1, none⟩ (.int .i64 ((pos : Int) + 1)) = w2 at HS3 HO3 HB3 hbw3 ⊢
          have hdg := sc_digits B (pos + 1) line 2 16 s v T w2 HS3.out (by omega) hs (by decide) (by decide)
          generalize digL 16 2 ((bl s).drop (pos + 1)) 0 = D at HE hdg
          obtain ⟨V, n⟩ := D
          simp only [] at HE hdg
          have HDG := Lib.hid hdg
          clear hdg
          go_wp2_with fail
          refine HDG.out.mono ?_
          rintro e w3 ⟨rfl, hS4, hB4⟩
          have HO4 := Lib.hid (HO3.out.keep hB hB4 (Nat.le_refl _))
          have HB4 := Lib.hid (HB3.out.trans (hB4.mono hbw3))
          have hbw4 : base ≤ w3.heap.size := Nat.le_trans hbw3 hB4.size
          have HS4 := Lib.hid hS4
          clear hS4 hB4 HS3 HO3 HB3 hbw3
          by_cases hn : 0 < n
          · have hE2 := HE.out
            rw [if_pos hn] at hE2
            have HE2 := Lib.hid hE2; clear hE2
            go_upto_region 17 with (fail)
            go_wp2_with (at_builtin; go_must (refine wpList_appN (W := _) rfl _ _ 38 rfl base 5 (.int .u8 0) 1 1 Tryz.underlying38 infoByte rfl (by decide) _ l.length (l.map e8) rfl (by exact HO4.out) _ 1 1 (by decide) rfl rfl (by simp [Value.oneCell']) (by unfold maxLen; omega) (by omega) (by exact hbw4) ?_))
            intro g cp w4 hown hb
            rw [← byt_mod V] at hown
            have HOW := Lib.hid hown; have HBE := Lib.hid hb
            clear hown hb
            go_wp2
            go_ret
            exact esc_done HS4.out HLOW.out hB HB4.out HOW.out HBE.out HE2.out (by omega) rfl
          · have hn0 : n = 0 := by omega
            subst hn0
            have hE2 := HE.out
            rw [if_neg hn] at hE2
            have HE2 := Lib.hid hE2; clear hE2
            go_upto_region 18 with (fail)
            go_wp2_with (at_builtin; go_must (refine wpList_appN (W := _) rfl _ _ 38 rfl base 5 (.int .u8 0) 1 1 Tryz.underlying38 infoByte rfl (by decide) _ l.length (l.map e8) rfl (by exact HO4.out) _ 1 1 (by decide) rfl rfl (by simp [Value.oneCell']) (by unfold maxLen; omega) (by omega) (by exact hbw4) ?_))
            intro g cp w4 hown hb
            have HOW := Lib.hid hown; have HBE := Lib.hid hb
            clear hown hb
            go_wp2
            go_ret
            exact esc_done (x := 120) HS4.out HLOW.out hB HB4.out HOW.out HBE.out HE2.out rfl rfl
        · have hc120 : ¬ c = 120 := fun h => h120 (by rw [h]; rfl)
          have hb120 : ((c.toNat : Int) == 120) = false := beq_eq_false_iff_ne.2 (by omega)
          have hE : esc ((bl s).drop pos) = ([c], 1, 0) := by rw [HR.out, esc, if_neg hI, if_neg hc10, if_neg hoct, if_neg hc120]
          have HE := Lib.hid hE
          clear hE hI hoct hc10 hc120
          rcases hoc with ho1 | ⟨ho1, ho2⟩
          all_goals
            go_upto_region 20 with (fail)
            have HS3 : Hid (Sc (w1.setCell ⟨B, 1, none⟩ (.int .i64 ((pos : Int) + 1))) B s (pos + 1) line v T) := HS2.out.set1 (pos + 1)
            have HO3 : Hid (Ob (w1.setCell ⟨B, 1, none⟩ (.int .i64 ((pos : Int) + 1))) base vo l) := HO2.out.set hB
            have HB3 : Hid (Bx base B w (w1.setCell ⟨B, 1, none⟩ (.int .i64 ((pos : Int) + 1)))) := HB2.out.set 1 _
            have hbw3 : base ≤ (w1.setCell ⟨B, 1, none⟩ (.int .i64 ((pos : Int) + 1))).heap.size := by simpa using hbw2
            clear h0 h1 h2 hf1 hf2 HS2 HO2 HB2 hbw2
            generalize w1.setCell ⟨B, 1, none⟩ (.int .i64 ((pos : Int) + 1)) = w2 at HS3 HO3 HB3 hbw3 ⊢
            go_wp2_with (at_builtin; go_must (refine wpList_appN (W := _) rfl _ _ 38 rfl base 5 (.int .u8 0) 1 1 Tryz.underlying38 infoByte rfl (by decide) _ l.length (l.map e8) rfl (by exact HO3.out) _ 1 1 (by decide) rfl rfl (by simp [Value.oneCell']) (by unfold maxLen; omega) (by omega) (by exact hbw3) ?_))
            intro g cp w3 hown hb
            have HOW := Lib.hid hown; have HBE := Lib.hid hb
            clear hown hb
            go_wp2
            go_ret
            exact esc_done HS3.out HLOW.out hB HB3.out HOW.out HBE.out HE.out rfl rfl

end Go.Proofs.YtifcibbhblhfiaaGreatDoor
