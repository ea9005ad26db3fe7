/- Strings as lists of bytes; the library's trimming. -/
import Derived.Test.YtifcibbhblhfiaaGreatDoorDecB
import Derived.Test.YtifcibbhblhfiaaGreatDoorShelf
import Derived.Shelf.Strings.SlTrimAscii
import Derived.Lib.SmallJoins
namespace Go.Proofs.YtifcibbhblhfiaaGreatDoor
open Go.RowKit Pl
set_option linter.unusedVariables false

def bl (s : ByteArray) : List UInt8 := s.data.toList
theorem bl_len (s : ByteArray) : (bl s).length = s.size := by unfold bl; rw [Array.length_toList]; rfl
theorem bl_ext {s t : ByteArray} (h : bl s = bl t) : s = t := ByteArray.ext (Array.toList_inj.1 h)
theorem bl_cut (s : ByteArray) (a b : Nat) : bl (s.extract a b) = ((bl s).drop a).take (b - a) := Lib.extract_data s a b
theorem bl_from (s : ByteArray) (a : Nat) : bl (s.extract a s.size) = (bl s).drop a := Lib.extract_to_end s a
theorem bl_app (s t : ByteArray) : bl (s ++ t) = bl s ++ bl t := Joins.data_append s t
theorem bl_mk (l : List UInt8) : bl ⟨l.toArray⟩ = l := rfl
theorem bl_empty (s : ByteArray) : s.toList.isEmpty = (bl s).isEmpty := by rw [ByteArray.toList_eq]; rfl
theorem bl_toList (s : ByteArray) : s.toList = bl s := ByteArray.toList_eq s

theorem get_byt (s : ByteArray) : ∀ (i : Nat) (h : i < s.size), ((s[i]'h).toNat : Int) = (byt (bl s) i : Int) := by
  intro i h
  rw [byt_eq (bl s) i (by rw [bl_len]; exact h)]
  rfl

def isDigs (l : List UInt8) : Prop := ∀ i, i < l.length → 48 ≤ byt l i ∧ byt l i ≤ 57

def digCut : ByteArray := ⟨#[48, 49, 50, 51, 52, 53, 54, 55, 56, 57]⟩
def isD (c : UInt8) : Bool := (bl digCut).contains c
theorem isD_iff (c : UInt8) : isD c = true ↔ 48 ≤ c.toNat ∧ c.toNat ≤ 57 := by
  have h : ∀ n : Fin 256, isD (UInt8.ofNat n.val) = decide (48 ≤ n.val ∧ n.val ≤ 57) := by decide +kernel
  have h2 := h ⟨c.toNat, c.toNat_lt⟩
  simp only [UInt8.ofNat_toNat] at h2
  rw [h2]; simp

theorem trimLeft_any (s cut : ByteArray) (w : World) (hcs : cut.size < 4294967281) (ha : (bl cut).all (fun b => decide (b.toNat < 128)) = true) :
    Calls Tryz.prog 63 #[.string s, .string cut] w fun e w' => ∃ t, e = .returned (.string t) ∧ bl t = Lib.trimLeftS (bl s) (bl cut) ∧ Below w.heap.size w w' :=
  (Any.strings_TrimLeft_laid Tryz.lays161 (by kernel_rfl) s cut w hcs (ascii_of_all ha)).mono fun _ _ ⟨h1, h2⟩ => ⟨_, h1, rfl, h2⟩

theorem trim_str (s cut : ByteArray) (w : World) (hs : s.size ≤ 9223372036854775807) (hcs : cut.size < 4294967281) (ha : (bl cut).all (fun b => decide (b.toNat < 128)) = true) :
    Calls Tryz.prog 64 #[.string s, .string cut] w fun e w' => ∃ t, e = .returned (.string t) ∧ bl t = Lib.trimS (bl s) (bl cut) ∧ Below w.heap.size w w' :=
  (Any.strings_Trim_laid Tryz.lays160 (by kernel_rfl) s cut w hs hcs (ascii_of_all ha)).mono fun _ _ ⟨h1, h2⟩ => ⟨_, h1, rfl, h2⟩

end Go.Proofs.YtifcibbhblhfiaaGreatDoor
