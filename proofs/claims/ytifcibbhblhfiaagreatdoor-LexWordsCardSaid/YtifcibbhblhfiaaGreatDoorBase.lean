/- Plain words for the walks of this seat: slices that read as lists. -/
import Derived.Test.YtifcibbhblhfiaaGreatDoorProg
import Derived.Test.YtifcibbhblhfiaaGreatDoorLimb
import Derived.WalkKit
import Derived.WalkSpells
import Derived.WalkLawsBesides
import Derived.Deep.LoopGhost
import Derived.Deep.QuietTactic
import Derived.BigQuiet
import Derived.Deep.DeepCutAuto
import Derived.Deep.CutBlock
import Derived.Deep.RegionHeld3
import Derived.Lib.Hide
import Derived.Handy
import Derived.IntWalk
namespace Go.Proofs.YtifcibbhblhfiaaGreatDoor
open Go.RowKit

open Pl

theorem ret_int {k : IntKind} {a b : Int} (h : a = b) : Ending.returned (.int k a) = .returned (.int k b) := by rw [h]

/-- A slice of u32 whose array begins at A reads as l in w; its cells lie below the heap's end. -/
def Rd (w : World) (A : Option Addr) (l : List Nat) : Prop :=
  ∀ i, i < l.length → ∃ b o, A = some ⟨b, o, none⟩ ∧ b < w.heap.size ∧ w.cell? ⟨b, o + i, none⟩ = some (.int .u32 (rd l i : Int))

theorem Rd.below {w w' : World} {A : Option Addr} {l : List Nat} (h : Rd w A l) (hb : Below w.heap.size w w') : Rd w' A l := by
  intro i hi
  obtain ⟨b, o, hA, hlt, hx⟩ := h i hi
  exact ⟨b, o, hA, Nat.lt_of_lt_of_le hlt hb.size, by rw [hb.cell (p := ⟨b, o + i, none⟩) hlt]; exact hx⟩

theorem Rd.nil (w : World) (A : Option Addr) : Rd w A [] := fun i hi => absurd hi (Nat.not_lt_zero i)

theorem Rd.take {w : World} {A : Option Addr} {l : List Nat} (h : Rd w A l) (k : Nat) : Rd w A (l.take k) := by
  intro i hi
  have hi' : i < l.length ∧ i < k := by rw [List.length_take] at hi; omega
  obtain ⟨b, o, hA, hlt, hx⟩ := h i hi'.1
  refine ⟨b, o, hA, hlt, ?_⟩
  rw [hx]; unfold rd; rw [List.getElem?_take_of_lt hi'.2]

end Go.Proofs.YtifcibbhblhfiaaGreatDoor
