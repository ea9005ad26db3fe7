/- Walks of package lex: numbers. -/
import Derived.Test.YtifcibbhblhfiaaGreatDoorLexE
import Derived.Deep.RegionWith
namespace Go.Proofs.YtifcibbhblhfiaaGreatDoor
open Go.RowKit Pl
set_option linter.unusedVariables false

def fgt (x y : Nat) : Bool := Ieee.double.order x y == some .gt

/-- The number at hand; none: there is none. -/
def numL (r : List UInt8) : Option (Nat × Nat) :=
  if (byt r 0 < 48 ∧ byt r 0 ≠ 46) ∨ 57 < byt r 0 then none else if (literal r).2 = 0 then none else some (literal r)

def numberR (x n : Nat) (r : List UInt8) (line : Nat) (T : List Tk) : Res :=
  if fgt x 9218868437227405311 = true then .err line 201 else .ok (r.drop n) line (T ++ [⟨3, ⟨#[]⟩, x, line⟩])

def BoolPost (w : World) (B : Nat) (s : ByteArray) : Res → Ending → World → Prop
  | .err l n => fun e w' => e = faultE l n ∧ Below B w w'
  | .ok rest line T => fun e w' => ∃ v pos, e = .returned (.bool true) ∧ pos ≤ s.size ∧ (bl s).drop pos = rest ∧ Sc w' B s pos line v T ∧ Below B w w'

def NumPost (w : World) (B pos line : Nat) (s : ByteArray) (v : Value) (T : List Tk) (r : List UInt8) (N : Option (Nat × Nat)) (e : Ending) (w' : World) : Prop :=
  match N with
  | none => e = .returned (.bool false) ∧ Sc w' B s pos line v T ∧ Below w.heap.size w w'
  | some (x, n) => BoolPost w B s (numberR x n r line T) e w'

theorem literal_le (l : List UInt8) : (literal l).2 ≤ l.length := by
  unfold literal
  split
  · rename_i h
    have h2 := lit0x_len h.1
    have h3 := nhex_le (hexPart l)
    unfold hexPart at h3 ⊢
    rw [List.length_take, List.length_drop] at h3
    show 2 + _ ≤ _
    omega
  · split
    · exact Nat.zero_le _
    · exact (numeral_le l).2.2.2.2

set_option maxRecDepth 100000 in
set_option maxHeartbeats 2000000 in
theorem sc_number (B pos line : Nat) (s : ByteArray) (v : Value) (T : List Tk) (w : World) (h : Sc w B s pos line v T) (hp : pos < s.size) (hs : s.size ≤ 100000000) (hT : T.length ≤ 1000000) :
    Calls Tryz.prog 29 #[.pointer (some ⟨B, 0, none⟩)] w (NumPost w B pos line s v T ((bl s).drop pos) (numL ((bl s).drop pos))) := by
  have HL := Lib.hid (bl_len s)
  have hg := get_byt s
  have h0 := h.c0; have h1 := h.c1; have h2 := h.c2; have hf := h.fz 1
  have hgp := hg pos hp
  have hb0 : byt ((bl s).drop pos) 0 = byt (bl s) pos := by unfold byt; rw [List.getElem?_drop, Nat.add_zero]
  have hnl : numL ((bl s).drop pos) = if (byt (bl s) pos < 48 ∧ byt (bl s) pos ≠ 46) ∨ 57 < byt (bl s) pos then none else if (literal ((bl s).drop pos)).2 = 0 then none else some (literal ((bl s).drop pos)) := by unfold numL; rw [hb0]
  have HNL := Lib.hid hnl
  have hxs : (s.extract pos s.size).size ≤ 100000000 := by rw [← bl_len, bl_from, List.length_drop, bl_len]; omega
  have hlit : ∀ w, Calls Tryz.prog 41 #[.string (s.extract pos s.size)] w fun e w' => e = .returned (.tuple #[.float .f64 (literal ((bl s).drop pos)).1, .int .i64 ((literal ((bl s).drop pos)).2 : Int)]) ∧ Below w.heap.size w w' := by
    intro w; have := literal_any (s.extract pos s.size) w hxs; rwa [bl_from] at this
  have HLI := Lib.hid hlit
  have S := Lib.hid h
  have hBw : B ≤ w.heap.size := Nat.le_of_lt h.lt
  clear hb0 hnl hxs hlit h hg
  obtain ⟨c, hc⟩ : ∃ c, c = byt (bl s) pos := ⟨_, rfl⟩
  have hc8 : c < 256 := by rw [hc]; exact byt_lt _ _
  rw [← hc] at HNL hgp
  clear hc
  have hnle := literal_le ((bl s).drop pos)
  rw [List.length_drop, HL.out] at hnle
  generalize literal ((bl s).drop pos) = X at HLI HNL hnle
  obtain ⟨x, n⟩ := X
  simp only [] at HLI HNL hnle
  obtain ⟨N, hN⟩ : ∃ N, N = numL ((bl s).drop pos) := ⟨_, rfl⟩
  rw [← hN] at HNL ⊢
  clear hN
  go_enter Tryz.func29, Tryz.ntmps29
  go_wp2_with fail
  go_quiet (fail)
  have S2 := Lib.hid (S.out.drewN nq)
  have X2 : Hid (Below w.heap.size w (w.drewN nq)) := (Bx.drewN (Bx.refl w.heap.size w.heap.size w) nq).below (Nat.le_refl _)
  clear h0 h1 h2 hf S
  generalize w.drewN nq = wr at S2 X2 ⊢
  have h0 := S2.out.c0; have h1 := S2.out.c1; have h2 := S2.out.c2; have hf := S2.out.fz 1
  by_cases hno : (c < 48 ∧ c ≠ 46) ∨ 57 < c
  · have hN := HNL.out
    rw [if_pos hno] at hN
    have HN := Lib.hid hN; clear hN
    have hno2 : ((c : Int) < 48 ∧ ((c : Int) != 46) = true) ∨ (¬ ((c : Int) < 48) ∧ 57 < (c : Int)) := by
      rcases hno with ⟨h1, h2⟩ | h
      · exact .inl ⟨by omega, by simp; omega⟩
      · exact .inr ⟨by omega, by omega⟩
    clear hno
    rcases hno2 with ⟨h3, h4⟩ | ⟨h3, h4⟩
    all_goals
      go_wp2_with fail
      go_ret
      rw [HN.out]
      exact ⟨rfl, S2.out, X2.out⟩
  · have hN := HNL.out
    rw [if_neg hno] at hN
    have HN := Lib.hid hN; clear hN HNL
    have hno2 : ((c : Int) < 48 ∧ ((c : Int) != 46) = false ∧ ¬ (57 < (c : Int))) ∨ (¬ ((c : Int) < 48) ∧ ¬ (57 < (c : Int))) := by
      by_cases h : c < 48
      · exact .inl ⟨by omega, by rw [show c = 46 by omega]; rfl, by omega⟩
      · exact .inr ⟨by omega, by omega⟩
    clear hno
    go_upto_region 2 with (fail)
    go_cut [24] (fun v wx => v = .bool false ∧ wx = wr)
    case first =>
      rcases hno2 with ⟨h3, h4, h5⟩ | ⟨h3, h4⟩
      all_goals
        go_wp2_with fail
        go_meet
        exact ⟨rfl, rfl⟩
    case rest =>
      obtain ⟨rfl, rfl⟩ := hcut
      go_upto_region 4 with (fail)
      go_cut [4, 5] (fun v4 v5 wx => v4 = .float .f64 x ∧ v5 = .int .i64 (n : Int) ∧ Hid (Below wc.heap.size wc wx))
      case first =>
        go_region_with (go_at_call 41; refine (HLI.out _).mono ?_; rintro e w2 ⟨rfl, hb2⟩)
        all_goals
          go_wp2
          go_meet
          exact ⟨rfl, rfl, by first | exact hb2 | exact (Below.trans (show Below wc.heap.size wc wc.drew from (Below.refl _ _).drew) hb2)⟩
      case rest =>
        obtain ⟨rfl, rfl, hb2⟩ := hcut
        have S3 := Lib.hid (S2.out.below hb2.out)
        have X3 := Lib.hid (X2.out.trans (hb2.out.mono X2.out.size))
        clear h0 h1 h2 hf S2 X2 hb2
        have h0 := S3.out.c0; have h1 := S3.out.c1; have h2 := S3.out.c2; have hf := S3.out.fz 1
        by_cases hn : n = 0
        · rw [if_pos hn] at HN
          subst hn
          go_wp2_with fail
          go_ret
          rw [HN.out]
          exact ⟨rfl, S3.out, X3.out⟩
        · rw [if_neg hn] at HN
          have hn2 : ((n : Int) == 0) = false := beq_eq_false_iff_ne.2 (by omega)
          cases hgt : fgt x 9218868437227405311 with
          | true =>
            have hgt2 : (FloatKind.f64.format.order x 9218868437227405311 == some .gt) = true := hgt
            have HR : Hid (numberR x n ((bl s).drop pos) line T = .err line 201) := by show _ = _; unfold numberR; rw [if_pos hgt]
            clear hgt
            go_wp2_with fail
            refine (sc_fail _ _ _ _).mono ?_
            rintro e w' ⟨rfl, rfl⟩
            unfold faultE
            go_wp2_with fail
            rw [HN.out]
            refine ⟨rfl, ?_⟩
            show BoolPost w B s (numberR x n _ line T) _ _
            rw [HR.out]
            exact ⟨rfl, X3.out.mono hBw⟩
          | false =>
            have hgt2 : (FloatKind.f64.format.order x 9218868437227405311 == some .gt) = false := hgt
            have HR : Hid (numberR x n ((bl s).drop pos) line T = .ok ((bl s).drop (pos + n)) line (T ++ [⟨3, ⟨#[]⟩, x, line⟩])) := by show _ = _; unfold numberR; rw [if_neg (by rw [hgt]; simp), List.drop_drop]
            clear hgt
            go_upto_region 10 with (fail)
            have S4 : Hid (Sc (wc.setCell ⟨B, 1, none⟩ (.int .i64 ((pos : Int) + (n : Int)))) B s (pos + n) line v T) := S3.out.set1 (pos + n)
            have X4 : Hid (Below B w (wc.setCell ⟨B, 1, none⟩ (.int .i64 ((pos : Int) + (n : Int))))) := (X3.out.mono hBw).setCell (Nat.le_refl B) _
            clear h0 h1 h2 hf S3 X3
            generalize wc.setCell ⟨B, 1, none⟩ (.int .i64 ((pos : Int) + (n : Int))) = wz at S4 X4 ⊢
            have h0 := S4.out.c0; have h1 := S4.out.c1; have h2 := S4.out.c2; have hf := S4.out.fz 1
            have had := Lib.hid (sc_add B (pos + n) line 3 line x s ⟨#[]⟩ v T wz S4.out hT)
            go_wp2_with fail
            refine had.out.mono ?_
            rintro e w' ⟨v', rfl, hS, hBe⟩
            have HS := Lib.hid hS; have HBW := Lib.hid hBe; clear hS hBe
            go_wp2_with fail
            go_ret
            rw [HN.out]
            show BoolPost w B s (numberR x n _ line T) _ _
            rw [HR.out]
            exact ⟨v', pos + n, rfl, by omega, rfl, HS.out, X4.out.trans HBW.out⟩

end Go.Proofs.YtifcibbhblhfiaaGreatDoor
