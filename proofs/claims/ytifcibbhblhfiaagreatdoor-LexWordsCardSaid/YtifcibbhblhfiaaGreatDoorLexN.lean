/- Walks of package lex: Scan as a whole. -/
import Derived.Test.YtifcibbhblhfiaaGreatDoorLexM
namespace Go.Proofs.YtifcibbhblhfiaaGreatDoor
open Go.RowKit Pl
set_option linter.unusedVariables false

theorem owns_mono {w : World} {base b2 e size n : Nat} {v : Value} {xs : List Value} (h : w.ownsRow base e size v n xs) (hb : b2 ≤ base) : w.ownsRow b2 e size v n xs := by
  obtain ⟨h1, h2 | ⟨g, cap, cur, hv, hg, h3⟩⟩ := h
  · exact ⟨h1, .inl h2⟩
  · exact ⟨h1, .inr ⟨g, cap, cur, hv, by omega, h3⟩⟩

theorem three_cells {W : World} {R : Nat} {u0 u1 u2 x0 x1 x2 : Value} (h0 : W.cell? ⟨R, 0, none⟩ = some u0) (h1 : W.cell? ⟨R + 1, 0, none⟩ = some u1) (h2 : W.cell? ⟨R + 1 + 1, 0, none⟩ = some u2) :
    (((W.setCell ⟨R, 0, none⟩ x0).setCell ⟨R + 1, 0, none⟩ x1).setCell ⟨R + 1 + 1, 0, none⟩ x2).cell? ⟨R, 0, none⟩ = some x0 ∧
    (((W.setCell ⟨R, 0, none⟩ x0).setCell ⟨R + 1, 0, none⟩ x1).setCell ⟨R + 1 + 1, 0, none⟩ x2).cell? ⟨R + 1, 0, none⟩ = some x1 ∧
    (((W.setCell ⟨R, 0, none⟩ x0).setCell ⟨R + 1, 0, none⟩ x1).setCell ⟨R + 1 + 1, 0, none⟩ x2).cell? ⟨R + 1 + 1, 0, none⟩ = some x2 := by
  refine ⟨?_, ?_, ?_⟩
  · rw [World.cell?_of_block (heap_setCell_other _ ⟨R + 1 + 1, 0, none⟩ R _ (by show R ≠ R + 1 + 1; omega)), World.cell?_of_block (heap_setCell_other _ ⟨R + 1, 0, none⟩ R _ (by show R ≠ R + 1; omega))]
    exact World.cell?_setCell_same' _ _ _ (by rw [h0]; rfl)
  · rw [World.cell?_of_block (heap_setCell_other _ ⟨R + 1 + 1, 0, none⟩ (R + 1) _ (by show R + 1 ≠ R + 1 + 1; omega))]
    exact World.cell?_setCell_same' _ _ _ (by rw [World.cell?_of_block (w := W) (heap_setCell_other _ ⟨R, 0, none⟩ (R + 1) _ (by show R + 1 ≠ R; omega)), h1]; rfl)
  · exact World.cell?_setCell_same' _ _ _ (by rw [World.cell?_of_block (heap_setCell_other _ ⟨R + 1, 0, none⟩ (R + 1 + 1) _ (by show R + 1 + 1 ≠ R + 1; omega)), World.cell?_of_block (w := W) (heap_setCell_other _ ⟨R, 0, none⟩ (R + 1 + 1) _ (by show R + 1 + 1 ≠ R; omega)), h2]; rfl)
theorem three_below {W : World} {R : Nat} {x0 x1 x2 : Value} : Below R W (((W.setCell ⟨R, 0, none⟩ x0).setCell ⟨R + 1, 0, none⟩ x1).setCell ⟨R + 1 + 1, 0, none⟩ x2) :=
  (((Below.refl R W).setCell (p := ⟨R, 0, none⟩) (Nat.le_refl R) _).setCell (p := ⟨R + 1, 0, none⟩) (by show R ≤ R + 1; omega) _).setCell (p := ⟨R + 1 + 1, 0, none⟩) (by show R ≤ R + 1 + 1; omega) _

def endTk (n : Nat) : Tk := ⟨9, ⟨#[]⟩, 0, n⟩
def ScanPost (w : World) : Res → Ending → World → Prop
  | .err l e0 => fun e w' => e = .returned (.tuple #[.slice none 0 0, .int .i64 (l : Int), .int .i64 (e0 : Int)]) ∧ Below w.heap.size w w'
  | .ok _ n T => fun e w' => ∃ v, e = .returned (.tuple #[v, .int .i64 0, .int .i64 0]) ∧ w'.ownsRow w.heap.size 36 4 v (T ++ [endTk n]).length (cellsT (T ++ [endTk n])) ∧ Below w.heap.size w w'

/-- The results' cells while the tokens are read. -/
structure Rc (R : Nat) (w W : World) : Prop where
  c0 : W.cell? ⟨R, 0, none⟩ = some (.slice none 0 0)
  c1 : W.cell? ⟨R + 1, 0, none⟩ = some (.int .i64 0)
  c2 : W.cell? ⟨R + 1 + 1, 0, none⟩ = some (.int .i64 0)
  f0 : W.frozen? ⟨R, 0, none⟩ = false
  f1 : W.frozen? ⟨R + 1, 0, none⟩ = false
  f2 : W.frozen? ⟨R + 1 + 1, 0, none⟩ = false
  be : Below R w W
theorem Rc.below {R : Nat} {w W W' : World} (h : Rc R w W) (hb : Below (R + 1 + 1 + 1) W W') : Rc R w W' :=
  ⟨by rw [hb.cell (p := ⟨R, 0, none⟩) (by show R < _; omega)]; exact h.c0, by rw [hb.cell (p := ⟨R + 1, 0, none⟩) (by show R + 1 < _; omega)]; exact h.c1, by rw [hb.cell (p := ⟨R + 1 + 1, 0, none⟩) (by show R + 1 + 1 < _; omega)]; exact h.c2,
    by rw [hb.frozen (p := ⟨R, 0, none⟩) (by show R < _; omega)]; exact h.f0, by rw [hb.frozen (p := ⟨R + 1, 0, none⟩) (by show R + 1 < _; omega)]; exact h.f1, by rw [hb.frozen (p := ⟨R + 1 + 1, 0, none⟩) (by show R + 1 + 1 < _; omega)]; exact h.f2, h.be.trans (hb.mono (by omega))⟩

set_option maxRecDepth 100000 in
set_option maxHeartbeats 2000000 in
theorem scan_any (s : ByteArray) (w : World) (hs : s.size ≤ 400000) (hG : Gl w) :
    Calls Tryz.prog 14 #[.string s] w (ScanPost w (scanL (bl s))) := by
  have hmf : ∀ (fn : Fn) (first cap : Array Value) (w : World), (Instr.makeFunc fn first cap).run Tryz.prog w = .ok (.func fn first cap) w := fun _ _ _ _ => rfl
  have HL := Lib.hid (bl_len s)
  have HG := Lib.hid hG; clear hG
  obtain ⟨R, hR⟩ : ∃ R, R = w.heap.size := ⟨_, rfl⟩
  have HR := Lib.hid hR
  have hgR : 1 < R := by rw [hR]; exact HG.out.lt
  obtain ⟨S, hS⟩ : ∃ S, S = scanL (bl s) := ⟨_, rfl⟩
  rw [← hS]
  have HS := Lib.hid hS
  clear hS hR
  go_enter_defers Tryz.func14, Tryz.ntmps14
  go_wp2_with fail
  rw [← HR.out]
  go_loopw [13] (fun v13 wr => ∃ (p ln f : Nat) (v : Value) (T : List Tk), p ≤ s.size ∧ ln ≤ p + 1 ∧ Hid (T.length ≤ p ∧ Inv T ln) ∧ Hid (S = scanF f ((bl s).drop p) ln T ∧ s.size - p ≤ f) ∧ Hid (Sc wr (R + 1 + 1 + 1) s p ln v T) ∧ Hid (Rc R w wr)) (fun _ wr => (s.size - posOf (R + 1 + 1 + 1) wr).toNat)
  case atStart =>
    refine ⟨0, 1, s.size, .slice none 0 0, [], Nat.zero_le _, by omega, ⟨Nat.le_refl _, Inv.start⟩, ⟨?_, by omega⟩, ⟨?_, World.ownsRow_nil _ _ _ _⟩, ⟨?_, ?_, ?_, ?_, ?_, ?_, ?_⟩⟩
    · rw [HS.out, scanL, HL.out, List.drop_zero]
    · have h := heap_alloc_new (((w.alloc (.cells #[.slice none 0 0] 28)).alloc (.cells #[.int .i64 0] 3)).alloc (.cells #[.int .i64 0] 29)) (.cells #[.string s, .int .i64 0, .int .i64 1, .slice none 0 0] 44)
      simp only [World.size_alloc, ← HR.out] at h
      exact h
    · rw [HR.out]; simp [go_sem]
    · rw [HR.out]; simp [go_sem]
    · rw [HR.out]; simp [go_sem]
    · rw [HR.out]; simp [go_sem]
    · rw [HR.out]; simp [go_sem]
    · rw [HR.out]; simp [go_sem]
    · rw [HR.out]; exact (((((Below.refl _ w).alloc (Nat.le_refl _) _).alloc (by simp) _).alloc (by simp; omega) _).alloc (by simp; omega) _)
  case round =>
    obtain ⟨p, ln, f, v, T, hp, hln, hT, hsc, S0, K0⟩ := hrel
    have hTl : T.length ≤ p := hT.out.1
    have h0 := S0.out.c0; have h1 := S0.out.c1; have h2 := S0.out.c2; have h3 := S0.out.c3
    have MP := Lib.hid S0.out.pos
    by_cases hlt : p < s.size
    · have hne : (bl s).drop p ≠ [] := by
        intro h
        have := congrArg List.length h
        rw [List.length_drop, HL.out] at this
        simp at this; omega
      have hdl : ((bl s).drop p).length = s.size - p := by rw [List.length_drop, HL.out]
      have hstep : S = match tokR ((bl s).drop p) ln T with
          | .err l e => .err l e
          | .ok r' l' T' => scanF f r' l' T' := by rw [hsc.out.1]; exact scanF_step hne (by rw [hdl]; exact hsc.out.2)
      have hGr : Gl wr := HG.out.below K0.out.be hgR
      have htk := Lib.hid (sc_token (R + 1 + 1 + 1) p ln s v T wr S0.out hlt (by omega) (by omega) (by omega) hGr (by omega))
      have HST := Lib.hid hstep
      have HNE := Lib.hid hne
      have HDL := Lib.hid hdl
      clear hstep hne hdl hGr
      go_wp2_with fail
      refine htk.out.mono ?_
      rintro e w' he
      obtain ⟨le, ne, hR2, rfl, hbe⟩ | ⟨rest, line', T', hR2, rfl, v', pos', hpp, hdr, hS2, hbe⟩ := he.parts
      · have hSe : S = .err le ne := by rw [HST.out, hR2]
        have HSE := Lib.hid hSe
        have K1 := Lib.hid (K0.out.below hbe)
        clear he hR2 hbe hSe htk
        unfold faultE
        go_wp2_with fail
        refine leaves_cons (f := 19) (args := #[.pointer (some ⟨R, 0, none⟩), .pointer (some ⟨R + 1, 0, none⟩), .pointer (some ⟨R + 1 + 1, 0, none⟩)]) (by simp) (by simp [go_sem]) ?_
        refine (scan_catch R (le : Int) (ne : Int) _ _ _ _ K1.out.c0 K1.out.c1 K1.out.c2 K1.out.f0 K1.out.f1 K1.out.f2).mono ?_
        rintro e u' w'' ⟨rfl, rfl, q0, q1, q2, qb⟩
        have hfin : Hid (ScanPost w S (.returned (.tuple #[.slice none 0 0, .int .i64 (le : Int), .int .i64 (ne : Int)])) w'') := by
          show ScanPost w S _ _
          rw [HSE.out]
          exact ⟨rfl, by rw [← HR.out]; exact K1.out.be.trans qb⟩
        unfold faultV
        simp [Leaves, settle, results, Tryz.results14, go_sem, q0, q1, q2]
        exact hfin.out
      · obtain ⟨i1, i2, i3, i4, i5, i6, i7⟩ := step_inv HNE.out hR2 hT.out.2
        have hSe : S = scanF f rest line' T' := by rw [HST.out, hR2]
        have HSE := Lib.hid hSe
        have K1 := Lib.hid (K0.out.below hbe)
        have S1 := Lib.hid hS2
        rw [HDL.out, ← hdr, List.length_drop, HL.out] at i2 i7
        rw [← hdr] at hSe
        have HSE := Lib.hid hSe
        have hl2 : line' ≤ pos' + 1 := by omega
        have HIV : Hid (T'.length ≤ pos' ∧ Inv T' line') := ⟨by omega, i1⟩
        clear he hR2 hbe hSe htk hS2 i1 i3 i5 hdr
        have hf2 := hsc.out.2
        go_wp2_with fail
        go_roundw
        case rel => exact ⟨pos', line', f, v', T', hpp, hl2, HIV.out, ⟨HSE.out, by omega⟩, S1.out, K1.out⟩
        case measure => rw [S1.out.pos, MP.out]; omega
    · have hge : ¬ ((p : Int) < (s.size : Int)) := by omega
      have HSP : Hid (s.size ≤ p) := Nat.le_of_not_lt hlt
      have had := Lib.hid (sc_add (R + 1 + 1 + 1) p ln 9 ln 0 s ⟨#[]⟩ v T wr S0.out (by omega))
      go_wp2_with fail
      refine had.out.mono ?_
      rintro e w' ⟨v', rfl, hS2, hbe⟩
      have K1 := Lib.hid (K0.out.below hbe)
      have S1 := Lib.hid hS2
      obtain ⟨A, c, hv', _⟩ := hS2.shape
      subst hv'
      clear h0 h1 h2 h3 hS2 hbe had
      have h0 := S1.out.c0; have h1 := S1.out.c1; have h2 := S1.out.c2; have h3 := S1.out.c3
      have k0 := K1.out.c0; have k1 := K1.out.c1; have k2 := K1.out.c2
      have g0 := K1.out.f0; have g1 := K1.out.f1; have g2 := K1.out.f2
      go_wp2_with fail
      refine leaves_cons (f := 19) (args := #[.pointer (some ⟨R, 0, none⟩), .pointer (some ⟨R + 1, 0, none⟩), .pointer (some ⟨R + 1 + 1, 0, none⟩)]) (by simp) (by simp [go_sem]) ?_
      refine (scan_idle R _).mono ?_
      rintro e u' w'' ⟨rfl, rfl, hw⟩
      have q := three_cells (x0 := .slice A (T.length + 1) c) (x1 := .int .i64 0) (x2 := .int .i64 0) k0 k1 k2
      rw [← hw] at q
      obtain ⟨q0, q1, q2⟩ := q
      have hrow : w''.ownsRow R 36 4 (.slice A (T.length + 1) c) (T ++ [endTk ln]).length (cellsT (T ++ [endTk ln])) := by
        rw [hw]
        have h5 := ownsRow_setCell_below S1.out.row (a := ⟨R, 0, none⟩) (by show R < _; omega) (.slice A (T.length + 1) c)
        have h6 := ownsRow_setCell_below h5 (a := ⟨R + 1, 0, none⟩) (by show R + 1 < _; omega) (.int .i64 0)
        have h7 := ownsRow_setCell_below h6 (a := ⟨R + 1 + 1, 0, none⟩) (by show R + 1 + 1 < _; omega) (.int .i64 0)
        have h8 := owns_mono h7 (b2 := R) (by omega)
        rw [List.length_append, List.length_singleton] at h8 ⊢
        exact h8
      have hbe2 : Below R w w'' := by rw [hw]; exact K1.out.be.trans three_below
      have hSe : S = .ok [] ln T := by rw [hsc.out.1, List.drop_eq_nil_of_le (by rw [HL.out]; exact HSP.out), scanF_nil]
      have hfin : Hid (ScanPost w S (.returned (.tuple #[.slice A (T.length + 1) c, .int .i64 0, .int .i64 0])) w'') := by
        show ScanPost w S _ _
        rw [hSe]
        exact ⟨_, rfl, by rw [← HR.out]; exact hrow, by rw [← HR.out]; exact hbe2⟩
      clear hrow hbe2 hSe hw
      simp [Leaves, settle, results, Tryz.results14, go_sem, q0, q1, q2]
      exact hfin.out

end Go.Proofs.YtifcibbhblhfiaaGreatDoor
