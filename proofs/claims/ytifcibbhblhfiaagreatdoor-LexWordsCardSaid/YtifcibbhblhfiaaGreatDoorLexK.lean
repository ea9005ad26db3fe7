/- Walks of package lex: a sign. -/
import Derived.Test.YtifcibbhblhfiaaGreatDoorLexJ
namespace Go.Proofs.YtifcibbhblhfiaaGreatDoor
open Go.RowKit Go.Shelf Pl
set_option linter.unusedVariables false
attribute [local go_sem] Oper.semAt_some

def SignI (B d : Nat) (r : List UInt8) (w : World) (pre : List ByteArray) (W : World) : Prop :=
  (∀ x ∈ pre, Lib.hasPrefix r (bl x) = false) ∧ W.cell? ⟨d, 0, none⟩ = some (.pointer (some ⟨B, 0, none⟩)) ∧ Below d w W ∧ d + 4 ≤ W.heap.size
def SignX (B pos line : Nat) (s : ByteArray) (T : List Tk) (r : List UInt8) (w : World) (c : Code) (pre : List ByteArray) (W : World) : Prop :=
  c = .ret ∧ ∃ pre' x v', pre = pre' ++ [x] ∧ (∀ y ∈ pre', Lib.hasPrefix r (bl y) = false) ∧ Lib.hasPrefix r (bl x) = true ∧ Sc W B s (pos + x.size) line v' (T ++ [⟨7, x, 0, line⟩]) ∧ Below B w W

theorem SignX.find {B pos line : Nat} {s : ByteArray} {T : List Tk} {r : List UInt8} {w : World} {c : Code} {pre : List ByteArray} {W : World} (h : SignX B pos line s T r w c pre W) (hp : pre <+: signsL) :
    ∃ x v', signOf r = some x ∧ Sc W B s (pos + x.size) line v' (T ++ [⟨7, x, 0, line⟩]) ∧ Below B w W := by
  obtain ⟨_, pre', x, v', rfl, h1, h2, h3, h4⟩ := h
  obtain ⟨t, ht⟩ := hp
  refine ⟨x, v', ?_, h3, h4⟩
  unfold signOf
  rw [← ht, List.append_assoc, List.find?_append, List.find?_eq_none.2 (fun y hy => by rw [h1 y hy]; simp)]
  show (none : Option ByteArray).or (List.find? _ (x :: t)) = some x
  rw [List.find?_cons, h2]; rfl

theorem SignI.none {B d : Nat} {r : List UInt8} {w : World} {W : World} (h : SignI B d r w signsL W) : signOf r = none :=
  List.find?_eq_none.2 (fun y hy => by rw [h.1 y hy]; simp)

theorem prefix_len (r : List UInt8) (x : ByteArray) (h : Lib.hasPrefix r (bl x) = true) : x.size ≤ r.length := by
  have := (List.isPrefixOf_iff_prefix.1 h).length_le
  rwa [bl_len] at this

theorem leave_fail {P : Program} {n D : Nat} {fn : Func} {tmps : Array Value} {R : Ending → World → Prop} {W : World} {chain : List PanicEntry} (hK : W.heap[D]? = some (.deferred (some []))) (hR : R (.panicked chain) (W.putObj D (.deferred none))) :
    LeavesInM Fence.wide n P fn tmps R [{ target := .collected D, args := #[] }] (.panicking chain) W := ⟨by simp, .inl ⟨D, _, rfl, run_takeDeferred hK, hR⟩⟩
theorem leave_ret {P : Program} {n D : Nat} {fn : Func} {tmps : Array Value} {R : Ending → World → Prop} {W : World} {v : Value} (hK : W.heap[D]? = some (.deferred (some []))) (hv : (results fn tmps).run P (W.putObj D (.deferred none)) = .ok v (W.putObj D (.deferred none))) (hR : R (.returned v) (W.putObj D (.deferred none))) :
    LeavesInM Fence.wide n P fn tmps R [{ target := .collected D, args := #[] }] .returning W := ⟨by simp, .inl ⟨D, _, rfl, run_takeDeferred hK, v, hv, hR⟩⟩

set_option maxRecDepth 100000 in
set_option maxHeartbeats 2000000 in
theorem sc_sign (B pos line : Nat) (s : ByteArray) (v : Value) (T : List Tk) (w : World) (h : Sc w B s pos line v T) (hp : pos ≤ s.size) (hs : s.size ≤ 100000000) (hT : T.length ≤ 1000000) :
    Calls Tryz.prog 33 #[.pointer (some ⟨B, 0, none⟩)] w (TokPost w B s (signR ((bl s).drop pos) line T)) := by
  obtain ⟨r, hr⟩ : ∃ r, r = (bl s).drop pos := ⟨_, rfl⟩
  rw [← hr]
  have HR := Lib.hid hr
  have hrl : r.length = s.size - pos := by rw [hr, List.length_drop, bl_len]
  have HRL := Lib.hid hrl
  have hBd := h.lt
  have S := Lib.hid h
  obtain ⟨d, hd⟩ : ∃ d, d = w.heap.size := ⟨_, rfl⟩
  have HD := Lib.hid hd
  have HSQ := Lib.hid (SplitSeq_any signsS blankS (w.alloc (.cells #[.pointer (some ⟨B, 0, none⟩)] 42)))
  rw [← hd] at hBd
  clear h hr hrl hd
  refine (callsIn_wide (n := 8)).1 ?_
  refine callsIn_of_wp_marks Tryz.func33 rfl trivial ?_ rfl
  simp only [Tryz.ntmps33, List.size_toArray, List.length_cons, List.length_nil, Nat.reduceAdd, Nat.reduceSub, Array.replicate_succ, Array.replicate_zero, List.push_toArray, List.append_toArray, List.nil_append, List.cons_append]
  gi_wp2_with fail
  refine ⟨trivial, ?_⟩
  refine (callsIn_wide.2 HSQ.out).mono ?_
  rintro e wl ⟨rfl, hw⟩
  unfold seqV
  rw [World.size_alloc, ← HD.out]
  have hsz : wl.heap.size = d + 4 := by rw [hw, HD.out]; simp [seqW]
  have hB0 : Below d w wl := by
    rw [hw, HD.out]
    exact ((((Below.refl _ w).alloc (Nat.le_refl _) _).alloc (by simp) _).alloc (by simp; omega) _).alloc (by simp; omega) _
  have c0 : wl.cell? ⟨d, 0, none⟩ = some (.pointer (some ⟨B, 0, none⟩)) := by rw [hw, HD.out]; simp [seqW, go_sem]
  have c1 : wl.cell? ⟨d + 1, 0, none⟩ = some (.string signsS) := by rw [hw, HD.out]; simp [seqW, go_sem]
  have c2 : wl.cell? ⟨d + 2, 0, none⟩ = some (.string blankS) := by rw [hw, HD.out]; simp [seqW, go_sem]
  have c3 : wl.cell? ⟨d + 3, 0, none⟩ = some (.int .i64 0) := by rw [hw, HD.out]; simp [seqW, go_sem]
  have c4 : wl.frozen? ⟨d + 1, 0, none⟩ = false := by rw [hw, HD.out]; simp [seqW, go_sem]
  clear hw HSQ
  have HC1 := Lib.hid c1; have HC2 := Lib.hid c2; have HC3 := Lib.hid c3; have HC4 := Lib.hid c4; have HC0 := Lib.hid c0; have HSZ := Lib.hid hsz; have HB0 := Lib.hid hB0
  clear c1 c2 c3 c4 c0 hsz hB0
  gi_wp2_with fail
  refine wpIn_rangeCell (bs := d + 1) (n0 := d + 4) rfl (by decide) (gf := 66) (lb := #[.pointer (some ⟨d + 1 + 1, 0, none⟩), .pointer (some ⟨d + 1, 0, none⟩), .pointer (some ⟨d + 1 + 2, 0, none⟩)]) rfl trivial (enters_of Tryz.func66 (by kernel_rfl) rfl)
    (encs := fun x : ByteArray => #[.string x]) (by rw [HSZ.out]; omega) (by rw [HSZ.out]; omega)
    (split_seq 7 (d + 2) (d + 1) (d + 3) (d + 4) 200 signsS wl (by omega) (by omega) (by omega) (by omega) (by omega) (by rw [HSZ.out]; omega) (by decide) (by decide) HC2.out HC1.out HC3.out HC4.out) (fun _ => rfl)
    (SignI B d r w) (SignX B pos line s T r w) ?hI ?hIx ⟨by simp, HC0.out, HB0.out, by rw [HSZ.out]; omega⟩
    (fun x => { tmps := #[.pointer (some ⟨B, 0, none⟩), .pointer (some ⟨d, 0, none⟩), .string x, .func (.func 66) #[] #[.pointer (some ⟨d + 1 + 1, 0, none⟩), .pointer (some ⟨d + 1, 0, none⟩), .pointer (some ⟨d + 1 + 2, 0, none⟩)], .string x, undef, undef, undef, undef, undef, undef, undef, undef, undef, undef, undef, undef, undef, undef, undef, undef, undef, undef, undef, undef, undef, undef, undef, undef, undef], defers := [] }) ?assign ?body ?done ?stop
  case hI =>
    rintro pre A C ⟨h1, h2, h3, h4⟩ hst
    rw [HSZ.out] at hst
    refine ⟨h1, ?_, StepB.below h3 hst (by omega) (by omega) (by rw [HD.out]; omega), Nat.le_trans h4 hst.size⟩
    rw [World.cell?_of_block (hst.block d (by omega) (by omega) (.inl (by omega)))]; exact h2
  case hIx =>
    rintro c pre A C ⟨h1, pre', x, v', h2, h3, h4, h5, h6⟩ hst
    rw [HSZ.out] at hst
    refine ⟨h1, pre', x, v', h2, h3, h4, ⟨?_, ?_⟩, StepN.below h6 hst (by omega) (by rw [← HD.out]; omega)⟩
    · rw [hst.block B h5.lt (.inl (by omega))]; exact h5.blk
    · refine owns_keep h5.row fun g hg => ?_
      obtain ⟨_, ⟨hv, _⟩ | ⟨g2, cap, cur, hv, _, hg2, _⟩⟩ := h5.row
      · rw [hv] at hg; cases hg
      · rw [hv] at hg; cases hg
        exact hst.block _ (Array.getElem?_eq_some_iff.1 hg2).1 (.inr ⟨_, hg2, rfl⟩)
  case assign =>
    intro l x W K hK
    gi_wp2
    exact hK
  case body =>
    rintro l pre x W ⟨h1, h2, h3, h4⟩
    have hS : Sc W B s pos line v T := S.out.below (by rw [← HD.out]; exact h3)
    have HS := Lib.hid hS
    have HNO := Lib.hid h1
    have h3' := Lib.hid h3
    have hse := Lib.hid (sc_see B pos line s x v T W hS hp)
    rw [← HR.out] at hse
    clear h1 hS h3
    gi_wp2_with fail
    refine ⟨trivial, ?_⟩
    refine (CallsIn.inRound l (callsIn_wide.2 hse.out)).mono ?_
    rintro e w' ⟨rfl, m, rfl⟩
    have S1 := Lib.hid (HS.out.drewN m)
    have h2' : (W.drewN m).cell? ⟨d, 0, none⟩ = some (.pointer (some ⟨B, 0, none⟩)) := h2
    have hwd : Hid (Below (d + 4) W (W.drewN m)) := (Bx.drewN (Bx.refl (d + 4) (d + 4) W) m).below (Nat.le_refl _)
    have h4' : d + 4 ≤ (W.drewN m).heap.size := h4
    have HKD := Lib.hid (keeps_drewN W m)
    clear h2 HS hse
    generalize W.drewN m = Wd at S1 h2' hwd h4' HKD ⊢
    obtain ⟨q, hq⟩ : ∃ q, q = Lib.hasPrefix r (bl x) := ⟨_, rfl⟩
    rw [← hq]
    have HQ := Lib.hid hq; clear hq
    cases q with
    | false =>
      gi_wp2_with fail
      exact ⟨HKD.out, hwd.out, fun y hy => (List.mem_append.1 hy).elim (HNO.out y) (fun e => by rw [List.mem_singleton.1 e]; exact HQ.out.symm), h2', h3'.out.trans (hwd.out.mono (by omega)), h4'⟩
    | true =>
      have hxl := prefix_len r x HQ.out.symm
      rw [HRL.out] at hxl
      have h0 := S1.out.c0; have h1 := S1.out.c1; have hl2 := S1.out.c2; have hf := S1.out.fz 1
      have hxi : (pos : Int) + (x.size : Int) ≤ (s.size : Int) := by omega
      gi_wp2_with fail
      have S2 : Hid (Sc (Wd.setCell ⟨B, 1, none⟩ (.int .i64 ((pos : Int) + (x.size : Int)))) B s (pos + x.size) line v T) := S1.out.set1 (pos + x.size)
      have K2 : Hid (KeepsOthers Wd (Wd.setCell ⟨B, 1, none⟩ (.int .i64 ((pos : Int) + (x.size : Int))))) := KeepsOthers.setCell _ _ _
      have X2 : Hid (Below B Wd (Wd.setCell ⟨B, 1, none⟩ (.int .i64 ((pos : Int) + (x.size : Int))))) := (Below.refl B Wd).setCell (Nat.le_refl B) _
      have h2 : (Wd.setCell ⟨B, 1, none⟩ (.int .i64 ((pos : Int) + (x.size : Int)))).cell? ⟨d, 0, none⟩ = some (.pointer (some ⟨B, 0, none⟩)) := by
        rw [World.cell?_of_block (w := Wd) (heap_setCell_other Wd ⟨B, 1, none⟩ d _ (by show d ≠ B; omega))]; exact h2'
      clear h0 h1 hl2 hf h2'
      generalize Wd.setCell ⟨B, 1, none⟩ (.int .i64 ((pos : Int) + (x.size : Int))) = Wz at S2 K2 X2 h2 ⊢
      have h0 := S2.out.c0; have h1 := S2.out.c1; have hl2 := S2.out.c2
      have had := Lib.hid (sc_addK B (pos + x.size) line 7 line 0 s x v T Wz.drew ⟨S2.out.blk, S2.out.row⟩ hT)
      have hmx : Tryz.prog.follows .mixedOrders = true := by kernel_rfl
      gi_region_with_o (refine ⟨trivial, ?_⟩; refine (CallsIn.inRound l (callsIn_wide.2 had.out)).mono ?_; rintro e w' ⟨v', rfl, hS, hBe, hKo⟩; have HS := Lib.hid hS; have HBW := Lib.hid hBe; have HKO := Lib.hid hKo; clear hS hBe hKo)
      all_goals gi_wp2_with fail
      all_goals exact ⟨((HKD.out.trans K2.out).trans (KeepsOthers.drew Wz)).trans HKO.out, rfl, pre, x, v', rfl, HNO.out, HQ.out.symm, HS.out, ((((h3'.out.mono (by omega)).trans (hwd.out.mono (by omega))).trans X2.out).drew).trans HBW.out⟩
  case done =>
    rintro D xs W hD rfl hI hK
    have hno := Lib.hid hI.none
    obtain ⟨h1, h2, h3, h4⟩ := hI
    have hS : Sc W B s pos line v T := S.out.below (by rw [← HD.out]; exact h3)
    have h0 := hS.c0; have hl2 := hS.c2
    have HBL := Lib.hid h3
    have hmx : Tryz.prog.follows .mixedOrders = true := by kernel_rfl
    have HK := Lib.hid hK
    clear h1 h3 hS hK
    gi_wp2_with fail
    have hfin : Hid (TokPost w B s (signR r line T) (.panicked [{ v := .iface 41 (.agg #[.int .i64 (line : Int), .int .i64 200]), recovered := false }]) (W.drew.putObj D (.deferred none))) := by
      show TokPost w B s (signR r line T) _ _
      unfold signR
      rw [hno.out]
      exact ⟨rfl, ((HBL.out.drew).trans (belowK_b (n₀ := d) (w := w) (by rw [HD.out]; omega) W.drew D _ _ (by rw [HSZ.out, HD.out] at hD; omega) HK.out rfl rfl)).mono (by omega)⟩
    refine wpIn_wide.2 ?_
    go_still_tail 5, (by kernel_rfl)
    change wpList _ _ _ _ _ W.drew
    go_wp2_with fail
    refine (sc_fail _ _ _ _).mono ?_
    rintro e w' ⟨rfl, rfl⟩
    unfold faultE
    go_wp2_with fail
    exact leave_fail HK.out hfin.out
  case stop =>
    rintro D c pre W hD hSp hX hK
    obtain ⟨x, v', h1, h2, h3⟩ := hX.find hSp
    obtain ⟨rfl, _, _, _, _, _, hpx, _⟩ := hX
    have hst := StepN.put (b := d) (.deferred none) (by rw [HSZ.out] at hD; omega) hK rfl
    have hS3 : Sc (W.putObj D (.deferred none)) B s (pos + x.size) line v' (T ++ [⟨7, x, 0, line⟩]) := by
      refine ⟨by rw [hst.block B h2.lt (.inl hBd)]; exact h2.blk, owns_keep h2.row fun g hg => ?_⟩
      obtain ⟨_, ⟨hv, _⟩ | ⟨g2, cap, cur, hv, _, hg2, _⟩⟩ := h2.row
      · rw [hv] at hg; cases hg
      · rw [hv] at hg; cases hg
        exact hst.block _ (Array.getElem?_eq_some_iff.1 hg2).1 (.inr ⟨_, hg2, rfl⟩)
    have hfin : Hid (TokPost w B s (signR r line T) (.returned (.tuple #[])) (W.putObj D (.deferred none))) := by
      show TokPost w B s (signR r line T) _ _
      unfold signR
      rw [h1]
      have hxl : x.size ≤ r.length := prefix_len r x (by have := List.find?_some h1; exact this)
      rw [HRL.out] at hxl
      exact ⟨v', pos + x.size, rfl, by omega, by rw [HR.out, List.drop_drop], hS3, StepN.below h3 hst (by omega) (by rw [← HD.out]; omega)⟩
    have HK := Lib.hid hK
    clear h1 h2 h3 hK hS3 hst hpx
    gi_wp2_with fail
    exact leave_ret HK.out (results_none rfl _ _ _) hfin.out

end Go.Proofs.YtifcibbhblhfiaaGreatDoor
