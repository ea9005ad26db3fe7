/- Walks of package lex: digits and escapes. -/
import Derived.Test.YtifcibbhblhfiaaGreatDoorLexA
namespace Go.Proofs.YtifcibbhblhfiaaGreatDoor
open Go.RowKit Pl
set_option linter.unusedVariables false

/-- The number that digits of a base write, as far as so many of them; how many they are. -/
def digL (base : Nat) : Nat → List UInt8 → Nat → Nat × Nat
  | 0, _, v => (v, 0)
  | _ + 1, [], v => (v, 0)
  | m + 1, c :: r, v => if c.toNat < 48 ∨ hexDig c.toNat < 0 ∨ (base : Int) ≤ hexDig c.toNat then (v, 0) else ((digL base m r (base * v + (hexDig c.toNat).toNat)).1, (digL base m r (base * v + (hexDig c.toNat).toNat)).2 + 1)

theorem digL_le (base m : Nat) (r : List UInt8) (v : Nat) : (digL base m r v).2 ≤ m ∧ (digL base m r v).2 ≤ r.length := by
  induction m generalizing r v with
  | zero => simp [digL]
  | succ m ih =>
    cases r with
    | nil => simp [digL]
    | cons c r =>
      rw [digL]
      split
      · simp
      · have := ih r (base * v + (hexDig c.toNat).toNat)
        simp only [List.length_cons]; omega

theorem drop_byt (l : List UInt8) (k : Nat) (h : k < l.length) : l.drop k = (l.getD k 0) :: l.drop (k + 1) := by
  rw [List.drop_eq_getElem_cons h, List.getD_eq_getElem?_getD, List.getElem?_eq_getElem h]; rfl

theorem Sc.low {w w' : World} {B b : Nat} {s : ByteArray} {pos line : Nat} {v : Value} {T : List Tk} (h : Sc w B s pos line v T) (hl : Low v b) (hB : B < b) (hb : Below b w w') : Sc w' B s pos line v T :=
  ⟨by rw [hb.block B hB]; exact h.blk, owns_keep h.row fun g hg => hb.block g (hl g hg)⟩

set_option maxRecDepth 100000 in
set_option maxHeartbeats 1000000 in
theorem sc_digits (B pos line most base : Nat) (s : ByteArray) (v : Value) (T : List Tk) (w : World) (h : Sc w B s pos line v T) (hp : pos ≤ s.size) (hs : s.size ≤ 100000000) (hm : most ≤ 3) (hb : base ≤ 16) :
    Calls Tryz.prog 55 #[.pointer (some ⟨B, 0, none⟩), .int .i64 (most : Int), .int .i64 (base : Int)] w fun e w' =>
      e = .returned (.tuple #[.int .i64 ((digL base most ((bl s).drop pos) 0).1 : Int), .int .i64 ((digL base most ((bl s).drop pos) 0).2 : Int)]) ∧
      Sc w' B s (pos + (digL base most ((bl s).drop pos) 0).2) line v T ∧ Bx w.heap.size B w w' := by
  have HL := Lib.hid (bl_len s)
  have hg := get_byt s
  have HS := Lib.hid h; clear h
  go_enter Tryz.func55, Tryz.ntmps55
  go_wp2_with fail
  go_loopw [9, 8] (fun vn vv wx => ∃ (k x p : Nat), k ≤ most ∧ p ≤ s.size ∧ vn = .int .i64 (k : Int) ∧ vv = .int .i64 (x : Int) ∧ ((k = 0 ∧ x = 0) ∨ (k = 1 ∧ x < 16) ∨ (k = 2 ∧ x < 256) ∨ (k = 3 ∧ x < 4096)) ∧ Hid (p = pos + k) ∧
    Hid (digL base most ((bl s).drop pos) 0 = ((digL base (most - k) ((bl s).drop p) x).1, (digL base (most - k) ((bl s).drop p) x).2 + k)) ∧ Hid (Sc wx B s p line v T) ∧ Hid (Bx w.heap.size B w wx)) (fun vn _ _ => (most - intOf vn).toNat)
  case atStart => exact ⟨0, 0, pos, Nat.zero_le _, hp, rfl, rfl, .inl ⟨rfl, rfl⟩, rfl, rfl, HS.out, Bx.refl _ _ _⟩
  case round =>
    obtain ⟨k, x, p, hk, hps, rfl, rfl, hx, hpk, hd, hsc, hbx⟩ := hrel
    have h0 := hsc.out.c0
    have h1 := hsc.out.c1
    have hf := hsc.out.fz 1
    have hend : digL base (most - k) ((bl s).drop p) x = (x, 0) → digL base most ((bl s).drop pos) 0 = (x, k) := by
      intro h; rw [hd.out, h]; simp
    have HE := Lib.hid hend; clear hend
    by_cases hlt : k < most
    · by_cases hlp : p < s.size
      · have hbb := byt_lt (bl s) p
        have hd1 := (hexDig_range _ hbb).1
        have hd2 := (hexDig_range _ hbb).2
        have hor := or32 (byt (bl s) p) hbb
        obtain ⟨d, hdd⟩ : ∃ d, d = hexDig (byt (bl s) p) := ⟨_, rfl⟩
        rw [← hdd] at hd1 hd2
        have HD := Lib.hid hdd; clear hdd
        have hix : ∀ w, Calls Tryz.prog 25 #[.string hexLS, .int .u8 (bits .or .u8 ((byt (bl s) p : Nat) : Int) 32)] w fun e w' => e = .returned (.int .i64 d) ∧ w' = w := by
          intro w
          rw [hor]
          refine (Tryz.strings_IndexByte hexLS ((byt (bl s) p ||| 32 : Nat) : Int) w).mono ?_
          rintro e w' ⟨rfl, rfl⟩
          exact ⟨by rw [HD.out]; rfl, rfl⟩
        have HIX := Lib.hid hix; clear hix hor
        obtain ⟨m, hm'⟩ : ∃ m, most - k = m + 1 := ⟨most - k - 1, by omega⟩
        have hst : digL base (most - k) ((bl s).drop p) x = if byt (bl s) p < 48 ∨ d < 0 ∨ (base : Int) ≤ d then (x, 0) else ((digL base m ((bl s).drop (p + 1)) (base * x + d.toNat)).1, (digL base m ((bl s).drop (p + 1)) (base * x + d.toNat)).2 + 1) := by
          rw [hm', drop_byt _ _ (by rw [HL.out]; exact hlp), digL, ← byt_getD, ← HD.out]
        have HST := Lib.hid hst; have HM := Lib.hid hm'
        clear hst hm'
        go_wp2_with fail
        go_quiet (fail)
        have hsc2 := Lib.hid (hsc.out.drewN nq); have hbx2 := Lib.hid (hbx.out.drewN nq)
        clear h0 h1 hf hsc hbx
        generalize wr.drewN nq = wr at hsc2 hbx2 ⊢
        have h0 := hsc2.out.c0; have h1 := hsc2.out.c1; have hf := hsc2.out.fz 1
        have hsc := hsc2; have hbx := hbx2
        clear hsc2 hbx2
        go_wp2_with fail
        go_quiet (first | (go_at_call 25; refine Calls.quiet_of_same (HIX.out _)))
        have hsc2 := Lib.hid (hsc.out.drewN nq); have hbx2 := Lib.hid (hbx.out.drewN nq)
        clear h0 h1 hf hsc hbx
        generalize wr.drewN nq = wr at hsc2 hbx2 ⊢
        have h0 := hsc2.out.c0; have h1 := hsc2.out.c1; have hf := hsc2.out.fz 1
        have hsc := hsc2; have hbx := hbx2
        clear hsc2 hbx2
        go_wp2_with fail
        by_cases hc : byt (bl s) p < 48 ∨ d < 0 ∨ (base : Int) ≤ d
        · have hfin := HE.out (by rw [HST.out, if_pos hc])
          have HF := Lib.hid hfin; clear hfin
          have hc2 : ((byt (bl s) p : Nat) : Int) < 48 ∨ (48 ≤ ((byt (bl s) p : Nat) : Int) ∧ d < 0) ∨ (48 ≤ ((byt (bl s) p : Nat) : Int) ∧ 0 ≤ d ∧ (base : Int) ≤ d) := by omega
          clear hc
          rcases hc2 with hc | ⟨hc1, hc⟩ | ⟨hc1, hc2, hc⟩
          all_goals
            go_quiet (fail)
            go_wp2_with fail
            go_ret2
            rw [HF.out]
            exact ⟨rfl, by have h := hsc.out; rw [hpk.out] at h; exact h.drewN _, hbx.out.drewN _⟩
        · have hst2 := HST.out
          rw [if_neg hc] at hst2
          have HST2 := Lib.hid hst2
          have hc48 : 48 ≤ ((byt (bl s) p : Nat) : Int) := by omega
          obtain ⟨D, hD⟩ : ∃ D : Nat, d = (D : Int) := ⟨d.toNat, by omega⟩
          subst hD
          have hDb : D < base := by omega
          have hmul : base * x ≤ 16 * x := Nat.mul_le_mul_right x hb
          have hDb2 : (D : Int) < (base : Int) := by omega
          have hD0 : ¬ ((D : Int) < 0) := by omega
          clear hst2 hc HST HE
          go_quiet (fail)
          go_wp2_with fail
          go_roundw
          case rel =>
            refine ⟨k + 1, base * x + D, p + 1, by omega, by omega, by go_num, by rw [Int.natCast_add, Int.natCast_mul], by omega, by show _ = _; rw [hpk.out]; omega, ?_, (hsc.out.drewN nq).set1 (p + 1), (hbx.out.drewN nq).set 1 _⟩
            show _ = _
            rw [hd.out, HST2.out, Int.toNat_natCast, show most - (k + 1) = m by have := HM.out; omega]
            simp only [Prod.mk.injEq, true_and]
            omega
          case measure => simp [intOf]; omega
      · have hfin := HE.out (by rw [List.drop_eq_nil_of_le (by rw [HL.out]; omega)]; cases most - k <;> rfl)
        have HF := Lib.hid hfin; clear hfin
        go_wp2_with fail
        go_quiet (fail)
        go_wp2_with fail
        go_ret2
        rw [HF.out]
        exact ⟨rfl, by have h := hsc.out; rw [hpk.out] at h; exact h.drewN _, hbx.out.drewN _⟩
    · have hfin := HE.out (by rw [show most - k = 0 by omega]; cases (bl s).drop p <;> rfl)
      have HF := Lib.hid hfin; clear hfin
      go_wp2_with fail
      go_quiet (fail)
      go_wp2_with fail
      go_ret2
      rw [HF.out]
      exact ⟨rfl, by have h := hsc.out; rw [hpk.out] at h; exact h.drewN _, hbx.out.drewN _⟩

def e8 (c : UInt8) : Value := .int .u8 (c.toNat : Int)
/-- Bytes of the call's own. -/
def Ob (w : World) (base : Nat) (v : Value) (l : List UInt8) : Prop := w.ownsRow base 5 1 v l.length (l.map e8)
theorem Ob.app {w : World} {base g c n : Nat} {l : List UInt8} {x : UInt8} (hn : n = l.length + 1) (h : w.ownsRow base 5 1 (.slice (some ⟨g, 0, none⟩) n c) n (l.map e8 ++ [e8 x])) :
    Ob w base (.slice (some ⟨g, 0, none⟩) n c) (l ++ [x]) := by
  subst hn
  unfold Ob
  rw [List.length_append, List.map_append]
  exact h
theorem Ob.shape {w : World} {base : Nat} {v : Value} {l : List UInt8} (h : Ob w base v l) : ∃ A c, v = .slice A l.length c := by
  obtain ⟨_, ⟨h1, h2⟩ | ⟨g, cap, cur, hv, _⟩⟩ := h
  · rw [h2]; exact ⟨none, 0, h1⟩
  · exact ⟨_, _, hv⟩
theorem Ob.keep {w w' : World} {base b B : Nat} {v : Value} {l : List UInt8} (h : Ob w base v l) (hB : B < base) (hb : Bx b B w w') (hs : w.heap.size ≤ b) : Ob w' base v l :=
  owns_keep h fun g hg => hb.block g (by have := (h.lt g hg).2; omega) (by have := (h.lt g hg).1; omega)
theorem infoByte : (Tryz.prog.info? 5).map (fun i => (i.zero, i.size, i.bytes)) = some (some (.int .u8 0), 1, 1) := by kernel_rfl

def ctlL : List UInt8 := [110, 116, 114, 97, 98, 102, 118]
def ctlV : List UInt8 := [10, 9, 13, 7, 8, 12, 11]
/-- What a backslash and what follows mean: bytes, how many are read, how many ends of lines. -/
def esc : List UInt8 → List UInt8 × Nat × Nat
  | [] => ([], 0, 0)
  | b :: r =>
    if 0 ≤ Lib.indexByte ctlL b then ([ctlV.getD (Lib.indexByte ctlL b).toNat 0], 1, 0)
    else if b = 10 then ([], 1, 1)
    else if 48 ≤ b.toNat ∧ b.toNat ≤ 55 then ([((digL 8 3 (b :: r) 0).1 % 256).toUInt8], (digL 8 3 (b :: r) 0).2, 0)
    else if b = 120 then
      if 0 < (digL 16 2 r 0).2 then ([((digL 16 2 r 0).1 % 256).toUInt8], 1 + (digL 16 2 r 0).2, 0) else ([120], 1, 0)
    else ([b], 1, 0)

end Go.Proofs.YtifcibbhblhfiaaGreatDoor
