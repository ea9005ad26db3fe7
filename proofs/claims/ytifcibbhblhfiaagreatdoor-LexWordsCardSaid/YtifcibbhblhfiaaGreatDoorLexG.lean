/- Walks of package lex: the language's words. -/
import Derived.Test.YtifcibbhblhfiaaGreatDoorLexF
import Derived.Lib.SplitLaws
namespace Go.Proofs.YtifcibbhblhfiaaGreatDoor
open Go.RowKit Pl
set_option linter.unusedVariables false

def builtinsS : ByteArray := ⟨#[97, 110, 100, 32, 97, 115, 111, 114, 116, 32, 97, 115, 111, 114, 116, 105, 32, 99, 108, 111, 115, 101, 32, 99, 111, 109, 112, 108, 32, 102, 102, 108, 117, 115, 104, 32, 103, 101, 110, 115, 117, 98, 32, 103, 115, 117, 98, 32, 105, 110, 100, 101, 120, 32, 105, 110, 116, 32, 105, 115, 97, 114, 114, 97, 121, 32, 108, 101, 110, 103, 116, 104, 32, 108, 115, 104, 105, 102, 116, 32, 109, 97, 116, 99, 104, 32, 109, 107, 116, 105, 109, 101, 32, 111, 114, 32, 112, 97, 116, 115, 112, 108, 105, 116, 32, 114, 97, 110, 100, 32, 114, 115, 104, 105, 102, 116, 32, 115, 112, 108, 105, 116, 32, 115, 112, 114, 105, 110, 116, 102, 32, 115, 114, 97, 110, 100, 32, 115, 116, 114, 102, 116, 105, 109, 101, 32, 115, 117, 98, 32, 115, 117, 98, 115, 116, 114, 32, 115, 121, 115, 116, 101, 109, 32, 115, 121, 115, 116, 105, 109, 101, 32, 116, 111, 108, 111, 119, 101, 114, 32, 116, 111, 117, 112, 112, 101, 114, 32, 116, 121, 112, 101, 111, 102, 32, 120, 111, 114]⟩
def wordsS : ByteArray := ⟨#[66, 69, 71, 73, 78, 32, 66, 69, 71, 73, 78, 70, 73, 76, 69, 32, 69, 78, 68, 32, 69, 78, 68, 70, 73, 76, 69, 32, 98, 114, 101, 97, 107, 32, 99, 97, 115, 101, 32, 99, 111, 110, 116, 105, 110, 117, 101, 32, 100, 101, 102, 97, 117, 108, 116, 32, 100, 101, 108, 101, 116, 101, 32, 100, 111, 32, 101, 108, 115, 101, 32, 101, 120, 105, 116, 32, 102, 111, 114, 32, 102, 117, 110, 99, 32, 102, 117, 110, 99, 116, 105, 111, 110, 32, 103, 101, 116, 108, 105, 110, 101, 32, 105, 102, 32, 105, 110, 32, 110, 101, 120, 116, 32, 110, 101, 120, 116, 102, 105, 108, 101, 32, 112, 114, 105, 110, 116, 32, 112, 114, 105, 110, 116, 102, 32, 114, 101, 116, 117, 114, 110, 32, 115, 119, 105, 116, 99, 104, 32, 119, 104, 105, 108, 101]⟩
def blankS : ByteArray := ⟨#[32]⟩
def builtinsL : List ByteArray := Lib.splitB blankS 0 (Lib.countB builtinsS blankS) builtinsS
def wordsL : List ByteArray := Lib.splitB blankS 0 (Lib.countB wordsS blankS) wordsS
def isBuiltin (s : ByteArray) : Bool := Lib.containsS builtinsL s
def isWord (s : ByteArray) : Bool := isBuiltin s || Lib.containsS wordsL s

/-- The library's variable is laid. -/
def Gl (w : World) : Prop := ∃ m, w.cell? ⟨1, 0, none⟩ = some (.int .i64 m)
theorem Gl.below {w w' : World} {B : Nat} (h : Gl w) (hb : Below B w w') (hB : 1 < B) : Gl w' := by
  obtain ⟨m, hm⟩ := h
  exact ⟨m, by rw [hb.cell (p := ⟨1, 0, none⟩) hB]; exact hm⟩
theorem Gl.lt {w : World} (h : Gl w) : 1 < w.heap.size := by obtain ⟨m, hm⟩ := h; exact World.block_lt_of_cell? w _ hm

theorem builtinsN : builtinsL.length = Lib.countB builtinsS blankS + 1 := Lib.splitB_all blankS (by decide) 0 _ _ rfl
theorem builtinsC : Lib.countB builtinsS blankS = 30 := by decide +kernel
theorem wordsN : wordsL.length = Lib.countB wordsS blankS + 1 := Lib.splitB_all blankS (by decide) 0 _ _ rfl
theorem wordsC : Lib.countB wordsS blankS = 24 := by decide +kernel

theorem cells_split (w : World) (zs : List ByteArray) (t : TypeId) : ∀ j, j < zs.length → (w.alloc (.cells ((zs.map Value.string).toArray) t)).cell? ⟨w.heap.size, 0 + j, none⟩ = some (.string (zs.getD j ByteArray.empty)) := by
  intro j hj
  rw [Nat.zero_add, World.cell?_alloc_new]
  simp [hj]

set_option maxRecDepth 100000 in
set_option maxHeartbeats 1000000 in
theorem lx_builtin (s : ByteArray) (w : World) (hG : Gl w) : Calls Tryz.prog 7 #[.string s] w fun e w' => e = .returned (.bool (isBuiltin s)) ∧ Below w.heap.size w w' := by
  obtain ⟨m, hm⟩ := hG
  have hsp := Lib.hid (Tryz.strings_Split builtinsS blankS m w (by decide) hm (by decide))
  have hct := Lib.hid (Tryz.slices_Contains_string w.heap.size 0 (Lib.countB builtinsS blankS + 1) (Lib.countB builtinsS blankS + 1) builtinsL s (w.alloc (.cells ((builtinsL.map Value.string).toArray) 9)) (Nat.le_of_eq builtinsN.symm) (by rw [builtinsC]; decide) (cells_split w _ _))
  clear hm
  go_enter Tryz.func7, Tryz.ntmps7
  go_wp2_with fail
  refine hsp.out.mono ?_
  rintro e w1 ⟨rfl, rfl⟩
  go_wp2_with fail
  refine hct.out.mono ?_
  rintro e w2 ⟨rfl, rfl⟩
  go_wp2_with fail
  go_ret
  refine ⟨ret_bool ?_, (Below.refl _ _).alloc (Nat.le_refl _) _⟩
  unfold isBuiltin
  rw [← builtinsN, List.take_length]

set_option maxRecDepth 100000 in
set_option maxHeartbeats 1000000 in
theorem lx_word (s : ByteArray) (w : World) (hG : Gl w) : Calls Tryz.prog 5 #[.string s] w fun e w' => e = .returned (.bool (isWord s)) ∧ Below w.heap.size w w' := by
  have hbu := Lib.hid (lx_builtin s w hG)
  have HG := Lib.hid hG; clear hG
  go_enter Tryz.func5, Tryz.ntmps5
  go_wp2_with fail
  refine hbu.out.mono ?_
  rintro e w0 ⟨rfl, hb⟩
  have HB := Lib.hid hb
  obtain ⟨m, hm⟩ := HG.out.below hb HG.out.lt
  clear hb
  cases hib : isBuiltin s with
  | true =>
    have HI := Lib.hid (show isWord s = true by unfold isWord; rw [hib]; rfl)
    clear hib hm
    go_wp2_with fail
    go_ret
    exact ⟨ret_bool HI.out.symm, HB.out⟩
  | false =>
    have HI := Lib.hid (show isWord s = Lib.containsS wordsL s by unfold isWord; rw [hib]; rfl)
    have hsp := Lib.hid (Tryz.strings_Split wordsS blankS m w0 (by decide) hm (by decide))
    have hct := Lib.hid (Tryz.slices_Contains_string w0.heap.size 0 (Lib.countB wordsS blankS + 1) (Lib.countB wordsS blankS + 1) wordsL s (w0.alloc (.cells ((wordsL.map Value.string).toArray) 9)) (Nat.le_of_eq wordsN.symm) (by rw [wordsC]; decide) (cells_split w0 _ _))
    clear hib hm
    go_wp2_with fail
    refine hsp.out.mono ?_
    rintro e w1 ⟨rfl, rfl⟩
    go_wp2_with fail
    refine hct.out.mono ?_
    rintro e w2 ⟨rfl, rfl⟩
    go_wp2_with fail
    go_ret
    refine ⟨ret_bool ?_, HB.out.alloc HB.out.size _⟩
    rw [HI.out, ← wordsN, List.take_length]

end Go.Proofs.YtifcibbhblhfiaaGreatDoor
