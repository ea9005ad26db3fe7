/- Walks of package lex: one token. -/
import Derived.Test.YtifcibbhblhfiaaGreatDoorLexK
namespace Go.Proofs.YtifcibbhblhfiaaGreatDoor
open Go.RowKit Pl
set_option linter.unusedVariables false

theorem idx_cont (l : List UInt8) (h : Lib.hasPrefix l [92, 10] = true ∨ Lib.hasPrefix l [92, 13, 10] = true) : 0 ≤ Lib.indexByte l 10 := by
  rcases h with h | h
  · obtain ⟨t, rfl⟩ := List.isPrefixOf_iff_prefix.1 h
    simp [Lib.indexByte]
  · obtain ⟨t, rfl⟩ := List.isPrefixOf_iff_prefix.1 h
    simp [Lib.indexByte]

def contB : ByteArray := ⟨#[92, 10]⟩
def cont2B : ByteArray := ⟨#[92, 13, 10]⟩

/-- What stands behind the letters, numbers and what they are not: a quote, a slash, a sign. -/
def restR (r : List UInt8) (line : Nat) (T : List Tk) : Res :=
  if byt r 0 = 34 then textR (r.drop 1) line T
  else if byt r 0 = 47 ∧ divides T = false then slashR (r.drop 1) line T
  else signR r line T
def numR (r : List UInt8) (line : Nat) (T : List Tk) : Res :=
  match numL r with
  | some (x, n) => numberR x n r line T
  | none => restR r line T
/-- One token, or what stands between two. -/
def tokR (r : List UInt8) (line : Nat) (T : List Tk) : Res :=
  if byt r 0 = 32 ∨ byt r 0 = 9 ∨ byt r 0 = 13 then .ok (r.drop 1) line T
  else if byt r 0 = 10 then .ok (r.drop 1) (line + 1) (T ++ [⟨8, ⟨#[]⟩, 0, line⟩])
  else if byt r 0 = 35 then .ok (r.drop (if Lib.indexByte r 10 < 0 then r.length else (Lib.indexByte r 10).toNat)) line T
  else if Lib.hasPrefix r [92, 10] = true ∨ Lib.hasPrefix r [92, 13, 10] = true then .ok (r.drop ((Lib.indexByte r 10).toNat + 1)) (line + 1) T
  else if isFirst (byt r 0) = true then wordR r line T
  else numR r line T

/-- A scanner and what has become of the world since. -/
structure Sw (w0 : World) (w : World) (B : Nat) (s : ByteArray) (pos line : Nat) (v : Value) (T : List Tk) : Prop where
  sc : Sc w B s pos line v T
  be : Below B w0 w
  gl : Gl w

theorem Sw.drewN {w0 w : World} {B : Nat} {s : ByteArray} {pos line : Nat} {v : Value} {T : List Tk} (h : Sw w0 w B s pos line v T) (n : Nat) : Sw w0 (w.drewN n) B s pos line v T :=
  ⟨h.sc.drewN n, h.be.trans (Bx.below (Bx.drewN (Bx.refl B B w) n) (Nat.le_refl _)), h.gl⟩
theorem Sw.ne {w0 w : World} {B : Nat} {s : ByteArray} {pos line : Nat} {v : Value} {T : List Tk} (h : Sw w0 w B s pos line v T) : 1 ≠ B := by
  obtain ⟨m, hm⟩ := h.gl
  have h0 := h.sc.c0
  intro e; rw [e, h0] at hm; cases hm
theorem Sw.gl_set {w0 w : World} {B : Nat} {s : ByteArray} {pos line : Nat} {v : Value} {T : List Tk} (h : Sw w0 w B s pos line v T) (i : Nat) (u : Value) : Gl (w.setCell ⟨B, i, none⟩ u) := by
  obtain ⟨m, hm⟩ := h.gl
  exact ⟨m, by rw [World.cell?_of_block (w := w) (heap_setCell_other w ⟨B, i, none⟩ _ _ h.ne)]; exact hm⟩
theorem Sw.set1 {w0 w : World} {B : Nat} {s : ByteArray} {pos line : Nat} {v : Value} {T : List Tk} (h : Sw w0 w B s pos line v T) (p : Nat) : Sw w0 (w.setCell ⟨B, 1, none⟩ (.int .i64 (p : Int))) B s p line v T :=
  ⟨h.sc.set1 p, h.be.setCell (Nat.le_refl B) _, h.gl_set 1 _⟩
theorem Sw.set2 {w0 w : World} {B : Nat} {s : ByteArray} {pos line : Nat} {v : Value} {T : List Tk} (h : Sw w0 w B s pos line v T) (p : Nat) : Sw w0 (w.setCell ⟨B, 2, none⟩ (.int .i64 (p : Int))) B s pos p v T :=
  ⟨h.sc.set2 p, h.be.setCell (Nat.le_refl B) _, h.gl_set 2 _⟩
theorem Sw.below {w0 w w' : World} {B : Nat} {s : ByteArray} {pos line : Nat} {v : Value} {T : List Tk} (h : Sw w0 w B s pos line v T) (hb : Below w.heap.size w w') : Sw w0 w' B s pos line v T :=
  ⟨h.sc.below hb, h.be.trans (hb.mono (Nat.le_of_lt h.sc.lt)), h.gl.below hb h.gl.lt⟩

theorem TokPost.trans {w0 w : World} {B : Nat} {s : ByteArray} {R : Res} {e : Ending} {w' : World} (hb : Below B w0 w) (h : TokPost w B s R e w') : TokPost w0 B s R e w' := by
  cases R with
  | err l n => exact ⟨h.1, hb.trans h.2⟩
  | ok rest line T =>
    obtain ⟨v, pos, h1, h2, h3, h4, h5⟩ := h
    exact ⟨v, pos, h1, h2, h3, h4, hb.trans h5⟩

def TokEnd (w : World) (B : Nat) (s : ByteArray) (R : Res) (e : Ending) (w' : World) : Prop :=
  (∃ l n, R = .err l n ∧ e = faultE l n ∧ Below B w w') ∨ (∃ rest line T, R = .ok rest line T ∧ e = .returned (.tuple #[]) ∧ ∃ v pos, pos ≤ s.size ∧ (bl s).drop pos = rest ∧ Sc w' B s pos line v T ∧ Below B w w')
theorem TokPost.parts {w : World} {B : Nat} {s : ByteArray} {R : Res} {e : Ending} {w' : World} (h : TokPost w B s R e w') : TokEnd w B s R e w' := by
  cases R with
  | err l n => exact .inl ⟨l, n, rfl, h.1, h.2⟩
  | ok rest line T =>
    obtain ⟨v, pos, h1, h2, h3, h4, h5⟩ := h
    exact .inr ⟨rest, line, T, rfl, h1, v, pos, h2, h3, h4, h5⟩

set_option maxRecDepth 100000 in
set_option maxHeartbeats 4000000 in
theorem sc_token (B pos line : Nat) (s : ByteArray) (v : Value) (T : List Tk) (w : World) (h : Sc w B s pos line v T) (hp : pos < s.size) (hs : s.size ≤ 100000000) (hln : line ≤ 100000000) (hT : T.length ≤ 1000000) (hG : Gl w) (hGB : 1 < B) :
    Calls Tryz.prog 20 #[.pointer (some ⟨B, 0, none⟩)] w (TokPost w B s (tokR ((bl s).drop pos) line T)) := by
  have hgp := get_byt s pos hp
  have S : Hid (Sw w w B s pos line v T) := ⟨h, Below.refl _ _, hG⟩
  clear h hG
  obtain ⟨r, hr⟩ : ∃ r, r = (bl s).drop pos := ⟨_, rfl⟩
  rw [← hr]
  have HRD := Lib.hid hr
  have hrl : r.length = s.size - pos := by rw [hr, List.length_drop, bl_len]
  have HRL := Lib.hid hrl
  obtain ⟨c, hc⟩ : ∃ c, c = byt (bl s) pos := ⟨_, rfl⟩
  rw [← hc] at hgp
  have hcb : byt r 0 = c := by rw [hc, hr]; unfold byt; rw [List.getElem?_drop, Nat.add_zero]
  have hc8 : c < 256 := by rw [hc]; exact byt_lt _ _
  obtain ⟨R, hR⟩ : ∃ R, R = tokR r line T := ⟨_, rfl⟩
  rw [← hR]
  have HR : Hid (R = (if c = 32 ∨ c = 9 ∨ c = 13 then Res.ok (r.drop 1) line T
      else if c = 10 then .ok (r.drop 1) (line + 1) (T ++ [⟨8, ⟨#[]⟩, 0, line⟩])
      else if c = 35 then .ok (r.drop (if Lib.indexByte r 10 < 0 then r.length else (Lib.indexByte r 10).toNat)) line T
      else if Lib.hasPrefix r [92, 10] = true ∨ Lib.hasPrefix r [92, 13, 10] = true then .ok (r.drop ((Lib.indexByte r 10).toNat + 1)) (line + 1) T
      else if isFirst c = true then wordR r line T
      else numR r line T)) := by show _ = _; rw [hR, tokR, hcb]
  have HCB := Lib.hid hcb
  have hix : ∀ w, Calls Tryz.prog 25 #[.string (s.extract pos s.size), .int .u8 10] w fun e w' => e = .returned (.int .i64 (Lib.indexByte r 10)) ∧ w' = w := by
    intro w
    have := Tryz.strings_IndexByte (s.extract pos s.size) 10 w
    rwa [show (s.extract pos s.size).data.toList = r by rw [hr]; exact bl_from s pos] at this
  have HIX := Lib.hid hix
  have hir : 0 ≤ Lib.indexByte r 10 → (Lib.indexByte r 10).toNat < s.size - pos := by rw [← hrl]; exact indexByte_lt2 _ _
  have hir2 := Lib.indexByte_ge r 10
  obtain ⟨k, hk⟩ : ∃ k, k = Lib.indexByte r 10 := ⟨_, rfl⟩
  rw [← hk] at HIX hir hir2 HR
  have HK := Lib.hid hk
  have hn3 : r.drop 1 = (bl s).drop (pos + 1) := by rw [hr, List.drop_drop]
  have HD1 := Lib.hid hn3
  clear hr hrl hc hcb hR hix hk hn3
  have h0 := S.out.sc.c0; have h1 := S.out.sc.c1; have h2 := S.out.sc.c2; have hf1 := S.out.sc.fz 1; have hf2 := S.out.sc.fz 2
  go_enter Tryz.func20, Tryz.ntmps20
  go_wp2_with fail
  go_quiet (fail)
  have S9 := Lib.hid (S.out.drewN nq)
  clear h0 h1 h2 hf1 hf2 S
  generalize w.drewN nq = wr at S9 ⊢
  have S := S9; clear S9
  have h0 := S.out.sc.c0; have h1 := S.out.sc.c1; have h2 := S.out.sc.c2; have hf1 := S.out.sc.fz 1; have hf2 := S.out.sc.fz 2
  by_cases hb : c = 32 ∨ c = 9 ∨ c = 13
  · have HRR := Lib.hid (show R = .ok ((bl s).drop (pos + 1)) line T by rw [HR.out, if_pos hb, HD1.out])
    clear HR HCB
    rcases hb with rfl | rfl | rfl
    all_goals
      go_wp2_with fail
      go_end0
      rw [HRR.out]
      exact ⟨v, pos + 1, rfl, by omega, rfl, (S.out.set1 (pos + 1)).sc, (S.out.set1 (pos + 1)).be⟩
  · have hR1 := HR.out
    rw [if_neg hb] at hR1
    have q1 : ((c : Int) == 32) = false := beq_eq_false_iff_ne.2 (by omega)
    have q2 : ((c : Int) == 9) = false := beq_eq_false_iff_ne.2 (by omega)
    have q3 : ((c : Int) == 13) = false := beq_eq_false_iff_ne.2 (by omega)
    clear hb HR
    have HR := Lib.hid hR1; clear hR1
    by_cases hb : c = 10
    · have HRR := Lib.hid (show R = .ok ((bl s).drop (pos + 1)) (line + 1) (T ++ [⟨8, ⟨#[]⟩, 0, line⟩]) by rw [HR.out, if_pos hb, HD1.out])
      clear HR HCB q1 q2 q3
      subst hb
      have had := Lib.hid (sc_add B pos line 8 line 0 s ⟨#[]⟩ v T wr S.out.sc hT)
      go_wp2_with fail
      refine had.out.mono ?_
      rintro e w' ⟨v', rfl, hS, hBe⟩
      have S9 : Hid (Sw w w' B s pos line v' (T ++ [⟨8, ⟨#[]⟩, 0, line⟩])) := ⟨hS, S.out.be.trans hBe, S.out.gl.below hBe hGB⟩
      clear h0 h1 h2 hf1 hf2 S hS hBe had
      have S := S9; clear S9
      have h0 := S.out.sc.c0; have h1 := S.out.sc.c1; have h2 := S.out.sc.c2; have hf1 := S.out.sc.fz 1; have hf2 := S.out.sc.fz 2
      go_wp2_with fail
      go_end0
      rw [HRR.out]
      exact ⟨v', pos + 1, rfl, by omega, rfl, ((S.out.set1 (pos + 1)).set2 (line + 1)).sc, ((S.out.set1 (pos + 1)).set2 (line + 1)).be⟩
    · have hR1 := HR.out
      rw [if_neg hb] at hR1
      have q4 : ((c : Int) == 10) = false := beq_eq_false_iff_ne.2 (by omega)
      clear hb HR
      have HR := Lib.hid hR1; clear hR1
      by_cases hb : c = 35
      · have hR1 := HR.out
        rw [if_pos hb] at hR1
        clear HR HCB q1 q2 q3 q4
        have HR := Lib.hid hR1; clear hR1
        subst hb
        have hsl2 : (pos : Int) ≤ (s.size : Int) := by omega
        go_wp2_with fail
        go_quiet (first | (go_at_call 25; refine Calls.quiet_of_same (HIX.out _)))
        have S9 := Lib.hid (S.out.drewN nq)
        clear h0 h1 h2 hf1 hf2 S
        generalize wr.drewN nq = wr at S9 ⊢
        have S := S9; clear S9
        have h0 := S.out.sc.c0; have h1 := S.out.sc.c1; have h2 := S.out.sc.c2; have hf1 := S.out.sc.fz 1; have hf2 := S.out.sc.fz 2
        by_cases hk0 : k < 0
        · have HRR := Lib.hid (show R = .ok ((bl s).drop s.size) line T by rw [HR.out, if_pos hk0, HRL.out, HRD.out, List.drop_drop, Nat.add_sub_cancel' (by omega)])
          have hw3 : IntKind.i64.wrap ((s.size : Int) - (pos : Int)) = (s.size : Int) - (pos : Int) := IntWalk.i64_in _ (by omega)
          go_wp2_with fail
          go_quiet (fail)
          have S9 := Lib.hid (S.out.drewN nq)
          clear h0 h1 h2 hf1 hf2 S
          generalize wr.drewN nq = wr at S9 ⊢
          have S := S9; clear S9
          have h0 := S.out.sc.c0; have h1 := S.out.sc.c1; have h2 := S.out.sc.c2; have hf1 := S.out.sc.fz 1; have hf2 := S.out.sc.fz 2
          clear hw3
          have hsum : (pos : Int) + ((s.size : Int) - (pos : Int)) = (s.size : Int) := by omega
          go_wp2_with fail
          go_end0
          rw [HRR.out]
          exact ⟨v, s.size, rfl, Nat.le_refl _, rfl, (S.out.set1 s.size).sc, (S.out.set1 s.size).be⟩
        · obtain ⟨m, rfl⟩ : ∃ m : Nat, k = (m : Int) := ⟨k.toNat, by omega⟩
          have HRR := Lib.hid (show R = .ok ((bl s).drop (pos + m)) line T by rw [HR.out, if_neg hk0, HRD.out, List.drop_drop, Int.toNat_natCast])
          have hkb := hir (by omega)
          rw [Int.toNat_natCast] at hkb
          go_wp2_with fail
          go_end0
          rw [HRR.out]
          exact ⟨v, pos + m, rfl, by omega, rfl, (S.out.set1 (pos + m)).sc, (S.out.set1 (pos + m)).be⟩
      · have hR1 := HR.out
        rw [if_neg hb] at hR1
        have q5 : ((c : Int) == 35) = false := beq_eq_false_iff_ne.2 (by omega)
        clear hb HR
        have HR := Lib.hid hR1; clear hR1
        have hse : Calls Tryz.prog 26 #[.pointer (some ⟨B, 0, none⟩), .string contB] wr fun e w' => e = .returned (.bool (Lib.hasPrefix r [92, 10])) ∧ ∃ m, w' = wr.drewN m := by rw [HRD.out]; exact sc_see B pos line s contB v T wr S.out.sc (by omega)
        have HSE := Lib.hid hse; clear hse
        go_wp2_with fail
        refine HSE.out.mono ?_
        rintro e w' ⟨rfl, m, rfl⟩
        clear HSE
        have S9 := Lib.hid (S.out.drewN m)
        clear h0 h1 h2 hf1 hf2 S
        generalize wr.drewN m = wr at S9 ⊢
        have S := S9; clear S9
        have h0 := S.out.sc.c0; have h1 := S.out.sc.c1; have h2 := S.out.sc.c2; have hf1 := S.out.sc.fz 1; have hf2 := S.out.sc.fz 2
        obtain ⟨p1, hp1⟩ : ∃ p, p = Lib.hasPrefix r [92, 10] := ⟨_, rfl⟩
        rw [← hp1]
        have HP1 := Lib.hid hp1; clear hp1
        cases p1 with
        | true =>
          have HPP : Hid (Lib.hasPrefix r [92, 10] = true ∨ Lib.hasPrefix r [92, 13, 10] = true) := .inl HP1.out.symm
          have hk0 : 0 ≤ k := by rw [HK.out]; exact idx_cont r HPP.out
          have HRR := Lib.hid (show R = .ok ((bl s).drop (pos + (k.toNat + 1))) (line + 1) T by rw [HR.out, if_pos HPP.out, HRD.out, List.drop_drop])
          obtain ⟨m, rfl⟩ : ∃ m : Nat, k = (m : Int) := ⟨k.toNat, by omega⟩
          have hkb := hir hk0
          rw [Int.toNat_natCast] at hkb HRR
          clear HR HPP hir hir2 HK
          have hsl : (0 : Int) ≤ (pos : Int) := by omega
          have hsl2 : (pos : Int) ≤ (s.size : Int) := by omega
          have hw1 : IntKind.i64.wrap ((m : Int) + 1) = (m : Int) + 1 := IntWalk.i64_in _ (by omega)
          have hw2 : IntKind.i64.wrap ((pos : Int) + ((m : Int) + 1)) = (pos : Int) + ((m : Int) + 1) := IntWalk.i64_in _ (by omega)
          go_wp2_with fail
          go_still_tail 18, (by kernel_rfl)
          still_call (HIX.out _)
          repeat still_step
          refine wpStill_nil ?_
          change wpList _ _ _ _ _ wr.drew
          have S9 : Hid (Sw w wr.drew B s pos line v T) := S.out.drewN 1
          clear h0 h1 h2 hf1 hf2 S
          generalize wr.drew = wr at S9 ⊢
          have S := S9; clear S9
          have h0 := S.out.sc.c0; have h1 := S.out.sc.c1; have h2 := S.out.sc.c2; have hf1 := S.out.sc.fz 1; have hf2 := S.out.sc.fz 2
          go_wp2_with fail
          go_end0
          rw [HRR.out]
          exact ⟨v, pos + (m + 1), rfl, by omega, rfl, ((S.out.set1 (pos + (m + 1))).set2 (line + 1)).sc, ((S.out.set1 (pos + (m + 1))).set2 (line + 1)).be⟩
        | false =>
          have hse : Calls Tryz.prog 26 #[.pointer (some ⟨B, 0, none⟩), .string cont2B] wr fun e w' => e = .returned (.bool (Lib.hasPrefix r [92, 13, 10])) ∧ ∃ m, w' = wr.drewN m := by rw [HRD.out]; exact sc_see B pos line s cont2B v T wr S.out.sc (by omega)
          have HSE := Lib.hid hse; clear hse
          go_wp2_with fail
          refine HSE.out.mono ?_
          rintro e w' ⟨rfl, m, rfl⟩
          clear HSE
          have S9 := Lib.hid (S.out.drewN m)
          clear h0 h1 h2 hf1 hf2 S
          generalize wr.drewN m = wr at S9 ⊢
          have S := S9; clear S9
          have h0 := S.out.sc.c0; have h1 := S.out.sc.c1; have h2 := S.out.sc.c2; have hf1 := S.out.sc.fz 1; have hf2 := S.out.sc.fz 2
          obtain ⟨p2, hp2⟩ : ∃ p, p = Lib.hasPrefix r [92, 13, 10] := ⟨_, rfl⟩
          rw [← hp2]
          have HP2 := Lib.hid hp2; clear hp2
          cases p2 with
          | true =>
            have HPP : Hid (Lib.hasPrefix r [92, 10] = true ∨ Lib.hasPrefix r [92, 13, 10] = true) := .inr HP2.out.symm
            have hk0 : 0 ≤ k := by rw [HK.out]; exact idx_cont r HPP.out
            have HRR := Lib.hid (show R = .ok ((bl s).drop (pos + (k.toNat + 1))) (line + 1) T by rw [HR.out, if_pos HPP.out, HRD.out, List.drop_drop])
            obtain ⟨m, rfl⟩ : ∃ m : Nat, k = (m : Int) := ⟨k.toNat, by omega⟩
            have hkb := hir hk0
            rw [Int.toNat_natCast] at hkb HRR
            clear HR HPP hir hir2 HK
            have hsl : (0 : Int) ≤ (pos : Int) := by omega
            have hsl2 : (pos : Int) ≤ (s.size : Int) := by omega
            have hw1 : IntKind.i64.wrap ((m : Int) + 1) = (m : Int) + 1 := IntWalk.i64_in _ (by omega)
            have hw2 : IntKind.i64.wrap ((pos : Int) + ((m : Int) + 1)) = (pos : Int) + ((m : Int) + 1) := IntWalk.i64_in _ (by omega)
            go_wp2_with fail
            go_still_tail 18, (by kernel_rfl)
            still_call (HIX.out _)
            repeat still_step
            refine wpStill_nil ?_
            change wpList _ _ _ _ _ wr.drew
            have S9 : Hid (Sw w wr.drew B s pos line v T) := S.out.drewN 1
            clear h0 h1 h2 hf1 hf2 S
            generalize wr.drew = wr at S9 ⊢
            have S := S9; clear S9
            have h0 := S.out.sc.c0; have h1 := S.out.sc.c1; have h2 := S.out.sc.c2; have hf1 := S.out.sc.fz 1; have hf2 := S.out.sc.fz 2
            go_wp2_with fail
            go_end0
            rw [HRR.out]
            exact ⟨v, pos + (m + 1), rfl, by omega, rfl, ((S.out.set1 (pos + (m + 1))).set2 (line + 1)).sc, ((S.out.set1 (pos + (m + 1))).set2 (line + 1)).be⟩
          | false =>
            have hR1 := HR.out
            rw [if_neg (by rw [← HP1.out, ← HP2.out]; simp)] at hR1
            clear HR HP1 HP2
            have HR := Lib.hid hR1; clear hR1
            have hfi := Lib.hid (first_any c wr hc8)
            go_wp2_with fail
            refine hfi.out.mono ?_
            rintro e w' ⟨rfl, rfl⟩
            clear hfi
            obtain ⟨f, hf⟩ : ∃ f, f = isFirst c := ⟨_, rfl⟩
            rw [← hf] at HR ⊢
            clear hf
            cases f with
            | true =>
              have hR1 := HR.out
              rw [if_pos rfl] at hR1
              clear HR
              have HR := Lib.hid hR1; clear hR1
              have HCA := Lib.hid (show Calls _ _ _ wr (TokPost wr B s (wordR r line T)) by rw [HRD.out]; exact sc_word B pos line s v T wr S.out.sc (by omega) hs hT S.out.gl)
              go_wp2_with fail
              refine HCA.out.mono ?_
              rintro e w' he
              obtain ⟨le, ne, hR, rfl, hbe⟩ | ⟨rest, line', T', hR, rfl, v', pos', hpp, hdr, hS, hbe⟩ := he.parts
              · have HRR := Lib.hid (HR.out.trans hR); have HBE := Lib.hid hbe
                clear he hR hbe
                unfold faultE
                go_wp2_with fail
                rw [HRR.out]
                exact ⟨rfl, rfl, S.out.be.trans HBE.out⟩
              · have HRR := Lib.hid (HR.out.trans hR); have HBE := Lib.hid hbe; have HS := Lib.hid hS; have HDR := Lib.hid hdr
                clear he hR hbe hS hdr
                go_wp2_with fail
                go_end0
                rw [HRR.out]
                exact ⟨v', pos', rfl, hpp, HDR.out, HS.out, S.out.be.trans HBE.out⟩
            | false =>
              have hR1 := HR.out
              rw [if_neg (by decide)] at hR1
              clear HR
              have HR := Lib.hid hR1; clear hR1
              have hnu : Calls Tryz.prog 29 #[.pointer (some ⟨B, 0, none⟩)] wr (NumPost wr B pos line s v T r (numL r)) := by
                have := sc_number B pos line s v T wr S.out.sc hp hs hT
                rwa [← HRD.out] at this
              obtain ⟨N, hN⟩ : ∃ N, N = numL r := ⟨_, rfl⟩
              rw [← hN] at hnu
              have HNU := Lib.hid hnu; clear hnu
              cases N with
              | some xn =>
                obtain ⟨x, n⟩ := xn
                have hR1 : R = numberR x n r line T := by rw [HR.out]; unfold numR; rw [← hN]
                clear HR hN
                have HR := Lib.hid hR1; clear hR1
                go_wp2_with fail
                refine HNU.out.mono ?_
                rintro e w' he
                have he : BoolPost wr B s (numberR x n r line T) e w' := he
                rw [← HR.out] at he
                cases R with
                | err le ne =>
                  obtain ⟨rfl, hbe⟩ := he
                  have HBE := Lib.hid hbe; clear hbe
                  unfold faultE
                  go_wp2_with fail
                  exact ⟨rfl, rfl, S.out.be.trans HBE.out⟩
                | ok rest line' T' =>
                  obtain ⟨v', pos', rfl, hpp, hdr, hS, hbe⟩ := he
                  have HBE := Lib.hid hbe; have HS := Lib.hid hS; have HDR := Lib.hid hdr
                  clear hbe hS hdr
                  go_wp2_with fail
                  go_end0
                  exact ⟨v', pos', rfl, hpp, HDR.out, HS.out, S.out.be.trans HBE.out⟩
              | none =>
                have hR1 : R = (if c = 34 then textR (r.drop 1) line T else if c = 47 ∧ divides T = false then slashR (r.drop 1) line T else signR r line T) := by
                  have h9 : R = restR r line T := by rw [HR.out]; unfold numR; rw [← hN]
                  rw [h9, restR, HCB.out]
                clear HR hN
                have HR := Lib.hid hR1; clear hR1
                go_wp2_with fail
                refine HNU.out.mono ?_
                rintro e w' ⟨rfl, hS9, hbe9⟩
                have S9 : Hid (Sw w w' B s pos line v T) := S.out.below hbe9
                clear h0 h1 h2 hf1 hf2 S hS9 hbe9 HNU
                have S := S9; clear S9
                obtain ⟨wz, hwz⟩ : ∃ wz, wz = w' := ⟨_, rfl⟩
                rw [← hwz] at S ⊢
                clear hwz
                obtain ⟨wr, hwr⟩ : ∃ wr, wr = wz := ⟨_, rfl⟩
                rw [← hwr] at S ⊢
                clear hwr
                have h0 := S.out.sc.c0; have h1 := S.out.sc.c1; have h2 := S.out.sc.c2; have hf1 := S.out.sc.fz 1; have hf2 := S.out.sc.fz 2
                by_cases hb : c = 34
                · have hR1 := HR.out
                  rw [if_pos hb] at hR1
                  clear HR
                  have HR := Lib.hid hR1; clear hR1
                  have q34 : ((c : Int) == 34) = true := by rw [hb]; rfl
                  clear hb
                  have HCA := Lib.hid (show Calls _ _ _ wr (TokPost wr B s (textR (r.drop 1) line T)) by rw [HD1.out]; exact sc_text B pos line s v T wr S.out.sc hp hs (by omega) hT)
                  go_wp2_with fail
                  refine HCA.out.mono ?_
                  rintro e w' he
                  obtain ⟨le, ne, hR, rfl, hbe⟩ | ⟨rest, line', T', hR, rfl, v', pos', hpp, hdr, hS, hbe⟩ := he.parts
                  · have HRR := Lib.hid (HR.out.trans hR); have HBE := Lib.hid hbe
                    clear he hR hbe
                    unfold faultE
                    go_wp2_with fail
                    rw [HRR.out]
                    exact ⟨rfl, rfl, S.out.be.trans HBE.out⟩
                  · have HRR := Lib.hid (HR.out.trans hR); have HBE := Lib.hid hbe; have HS := Lib.hid hS; have HDR := Lib.hid hdr
                    clear he hR hbe hS hdr
                    go_wp2_with fail
                    go_end0
                    rw [HRR.out]
                    exact ⟨v', pos', rfl, hpp, HDR.out, HS.out, S.out.be.trans HBE.out⟩
                · have q34 : ((c : Int) == 34) = false := beq_eq_false_iff_ne.2 (by omega)
                  have hR1 := HR.out
                  rw [if_neg hb] at hR1
                  clear hb HR
                  have HR := Lib.hid hR1; clear hR1
                  by_cases hb : c = 47
                  · have q47 : ((c : Int) == 47) = true := by rw [hb]; rfl
                    have hdv := Lib.hid (sc_divides B pos line s v T wr S.out.sc hT)
                    obtain ⟨d, hd⟩ : ∃ d, d = divides T := ⟨_, rfl⟩
                    rw [← hd] at HR hdv
                    clear hd
                    have hR1 := HR.out
                    cases d with
                    | false =>
                      rw [if_pos ⟨hb, rfl⟩] at hR1
                      clear hb HR
                      have HR := Lib.hid hR1; clear hR1
                      go_wp2_with fail
                      refine hdv.out.mono ?_
                      rintro e w' ⟨rfl, hbe9⟩
                      have S9 : Hid (Sw w w' B s pos line v T) := S.out.below hbe9
                      clear h0 h1 h2 hf1 hf2 S hbe9 hdv
                      have S := S9; clear S9
                      obtain ⟨wr, hwr⟩ : ∃ wr, wr = w' := ⟨_, rfl⟩
                      rw [← hwr] at S ⊢
                      clear hwr
                      have h0 := S.out.sc.c0; have h1 := S.out.sc.c1; have h2 := S.out.sc.c2; have hf1 := S.out.sc.fz 1; have hf2 := S.out.sc.fz 2
                      have HCA := Lib.hid (show Calls _ _ _ wr (TokPost wr B s (slashR (r.drop 1) line T)) by rw [HD1.out]; exact sc_slash B pos line s v T wr S.out.sc hp hs hT)
                      go_wp2_with fail
                      refine HCA.out.mono ?_
                      rintro e w' he
                      obtain ⟨le, ne, hR, rfl, hbe⟩ | ⟨rest, line', T', hR, rfl, v', pos', hpp, hdr, hS, hbe⟩ := he.parts
                      · have HRR := Lib.hid (HR.out.trans hR); have HBE := Lib.hid hbe
                        clear he hR hbe
                        unfold faultE
                        go_wp2_with fail
                        rw [HRR.out]
                        exact ⟨rfl, rfl, S.out.be.trans HBE.out⟩
                      · have HRR := Lib.hid (HR.out.trans hR); have HBE := Lib.hid hbe; have HS := Lib.hid hS; have HDR := Lib.hid hdr
                        clear he hR hbe hS hdr
                        go_wp2_with fail
                        go_end0
                        rw [HRR.out]
                        exact ⟨v', pos', rfl, hpp, HDR.out, HS.out, S.out.be.trans HBE.out⟩
                    | true =>
                      rw [if_neg (by simp)] at hR1
                      clear hb HR
                      have HR := Lib.hid hR1; clear hR1
                      go_wp2_with fail
                      refine hdv.out.mono ?_
                      rintro e w' ⟨rfl, hbe9⟩
                      have S9 : Hid (Sw w w' B s pos line v T) := S.out.below hbe9
                      clear h0 h1 h2 hf1 hf2 S hbe9 hdv
                      have S := S9; clear S9
                      obtain ⟨wr, hwr⟩ : ∃ wr, wr = w' := ⟨_, rfl⟩
                      rw [← hwr] at S ⊢
                      clear hwr
                      have h0 := S.out.sc.c0; have h1 := S.out.sc.c1; have h2 := S.out.sc.c2; have hf1 := S.out.sc.fz 1; have hf2 := S.out.sc.fz 2
                      have HCA := Lib.hid (show Calls _ _ _ wr (TokPost wr B s (signR r line T)) by rw [HRD.out]; exact sc_sign B pos line s v T wr S.out.sc (by omega) hs hT)
                      go_wp2_with fail
                      refine HCA.out.mono ?_
                      rintro e w' he
                      obtain ⟨le, ne, hR, rfl, hbe⟩ | ⟨rest, line', T', hR, rfl, v', pos', hpp, hdr, hS, hbe⟩ := he.parts
                      · have HRR := Lib.hid (HR.out.trans hR); have HBE := Lib.hid hbe
                        clear he hR hbe
                        unfold faultE
                        go_wp2_with fail
                        rw [HRR.out]
                        exact ⟨rfl, rfl, S.out.be.trans HBE.out⟩
                      · have HRR := Lib.hid (HR.out.trans hR); have HBE := Lib.hid hbe; have HS := Lib.hid hS; have HDR := Lib.hid hdr
                        clear he hR hbe hS hdr
                        go_wp2_with fail
                        go_end0
                        rw [HRR.out]
                        exact ⟨v', pos', rfl, hpp, HDR.out, HS.out, S.out.be.trans HBE.out⟩
                  · have q47 : ((c : Int) == 47) = false := beq_eq_false_iff_ne.2 (by omega)
                    have hR1 := HR.out
                    rw [if_neg (fun h => hb h.1)] at hR1
                    clear hb HR
                    have HR := Lib.hid hR1; clear hR1
                    have HCA := Lib.hid (show Calls _ _ _ wr (TokPost wr B s (signR r line T)) by rw [HRD.out]; exact sc_sign B pos line s v T wr S.out.sc (by omega) hs hT)
                    go_wp2_with fail
                    refine HCA.out.mono ?_
                    rintro e w' he
                    obtain ⟨le, ne, hR, rfl, hbe⟩ | ⟨rest, line', T', hR, rfl, v', pos', hpp, hdr, hS, hbe⟩ := he.parts
                    · have HRR := Lib.hid (HR.out.trans hR); have HBE := Lib.hid hbe
                      clear he hR hbe
                      unfold faultE
                      go_wp2_with fail
                      rw [HRR.out]
                      exact ⟨rfl, rfl, S.out.be.trans HBE.out⟩
                    · have HRR := Lib.hid (HR.out.trans hR); have HBE := Lib.hid hbe; have HS := Lib.hid hS; have HDR := Lib.hid hdr
                      clear he hR hbe hS hdr
                      go_wp2_with fail
                      go_end0
                      rw [HRR.out]
                      exact ⟨v', pos', rfl, hpp, HDR.out, HS.out, S.out.be.trans HBE.out⟩

end Go.Proofs.YtifcibbhblhfiaaGreatDoor
