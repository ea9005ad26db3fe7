/- The words and signs written out; a token by them. -/
import Derived.Test.YtifcibbhblhfiaaGreatDoorLexP
namespace Go.Proofs.YtifcibbhblhfiaaGreatDoor
open Go.RowKit Pl
set_option linter.unusedVariables false

def signsX : List ByteArray := [⟨#[38, 38]⟩, ⟨#[124, 124]⟩, ⟨#[43, 43]⟩, ⟨#[45, 45]⟩, ⟨#[43, 61]⟩, ⟨#[45, 61]⟩, ⟨#[42, 61]⟩, ⟨#[47, 61]⟩, ⟨#[37, 61]⟩, ⟨#[94, 61]⟩, ⟨#[61, 61]⟩, ⟨#[60, 61]⟩, ⟨#[62, 61]⟩, ⟨#[33, 61]⟩, ⟨#[62, 62]⟩, ⟨#[33, 126]⟩, ⟨#[123]⟩, ⟨#[125]⟩, ⟨#[40]⟩, ⟨#[41]⟩, ⟨#[91]⟩, ⟨#[93]⟩, ⟨#[59]⟩, ⟨#[44]⟩, ⟨#[43]⟩, ⟨#[45]⟩, ⟨#[42]⟩, ⟨#[47]⟩, ⟨#[37]⟩, ⟨#[94]⟩, ⟨#[33]⟩, ⟨#[62]⟩, ⟨#[60]⟩, ⟨#[124]⟩, ⟨#[63]⟩, ⟨#[58]⟩, ⟨#[126]⟩, ⟨#[36]⟩, ⟨#[61]⟩, ⟨#[64]⟩]
def wordsX : List ByteArray := [⟨#[66, 69, 71, 73, 78]⟩, ⟨#[66, 69, 71, 73, 78, 70, 73, 76, 69]⟩, ⟨#[69, 78, 68]⟩, ⟨#[69, 78, 68, 70, 73, 76, 69]⟩, ⟨#[98, 114, 101, 97, 107]⟩, ⟨#[99, 97, 115, 101]⟩, ⟨#[99, 111, 110, 116, 105, 110, 117, 101]⟩, ⟨#[100, 101, 102, 97, 117, 108, 116]⟩, ⟨#[100, 101, 108, 101, 116, 101]⟩, ⟨#[100, 111]⟩, ⟨#[101, 108, 115, 101]⟩, ⟨#[101, 120, 105, 116]⟩, ⟨#[102, 111, 114]⟩, ⟨#[102, 117, 110, 99]⟩, ⟨#[102, 117, 110, 99, 116, 105, 111, 110]⟩, ⟨#[103, 101, 116, 108, 105, 110, 101]⟩, ⟨#[105, 102]⟩, ⟨#[105, 110]⟩, ⟨#[110, 101, 120, 116]⟩, ⟨#[110, 101, 120, 116, 102, 105, 108, 101]⟩, ⟨#[112, 114, 105, 110, 116]⟩, ⟨#[112, 114, 105, 110, 116, 102]⟩, ⟨#[114, 101, 116, 117, 114, 110]⟩, ⟨#[115, 119, 105, 116, 99, 104]⟩, ⟨#[119, 104, 105, 108, 101]⟩]
def builtinsX : List ByteArray := [⟨#[97, 110, 100]⟩, ⟨#[97, 115, 111, 114, 116]⟩, ⟨#[97, 115, 111, 114, 116, 105]⟩, ⟨#[99, 108, 111, 115, 101]⟩, ⟨#[99, 111, 109, 112, 108]⟩, ⟨#[102, 102, 108, 117, 115, 104]⟩, ⟨#[103, 101, 110, 115, 117, 98]⟩, ⟨#[103, 115, 117, 98]⟩, ⟨#[105, 110, 100, 101, 120]⟩, ⟨#[105, 110, 116]⟩, ⟨#[105, 115, 97, 114, 114, 97, 121]⟩, ⟨#[108, 101, 110, 103, 116, 104]⟩, ⟨#[108, 115, 104, 105, 102, 116]⟩, ⟨#[109, 97, 116, 99, 104]⟩, ⟨#[109, 107, 116, 105, 109, 101]⟩, ⟨#[111, 114]⟩, ⟨#[112, 97, 116, 115, 112, 108, 105, 116]⟩, ⟨#[114, 97, 110, 100]⟩, ⟨#[114, 115, 104, 105, 102, 116]⟩, ⟨#[115, 112, 108, 105, 116]⟩, ⟨#[115, 112, 114, 105, 110, 116, 102]⟩, ⟨#[115, 114, 97, 110, 100]⟩, ⟨#[115, 116, 114, 102, 116, 105, 109, 101]⟩, ⟨#[115, 117, 98]⟩, ⟨#[115, 117, 98, 115, 116, 114]⟩, ⟨#[115, 121, 115, 116, 101, 109]⟩, ⟨#[115, 121, 115, 116, 105, 109, 101]⟩, ⟨#[116, 111, 108, 111, 119, 101, 114]⟩, ⟨#[116, 111, 117, 112, 112, 101, 114]⟩, ⟨#[116, 121, 112, 101, 111, 102]⟩, ⟨#[120, 111, 114]⟩]
def splY : Nat → List UInt8 → List (List UInt8)
  | 0, r => [r]
  | k + 1, r => if (r.takeWhile (fun c => c != 32)).length = r.length then [r] else r.takeWhile (fun c => c != 32) :: splY k (r.drop ((r.takeWhile (fun c => c != 32)).length + 1))

theorem tw_in {a b : List UInt8} (h : (32 : UInt8) ∉ a) : (a ++ 32 :: b).takeWhile (fun c => c != 32) = a := by
  induction a with
  | nil => rfl
  | cons c a ih =>
    rw [List.mem_cons, not_or] at h
    have hc : (c != 32) = true := by simpa using fun e => h.1 e.symm
    rw [List.cons_append, List.takeWhile_cons, hc, if_pos rfl, ih h.2]
theorem tw_out {a : List UInt8} (h : (32 : UInt8) ∉ a) : a.takeWhile (fun c => c != 32) = a := by
  induction a with
  | nil => rfl
  | cons c a ih =>
    rw [List.mem_cons, not_or] at h
    have hc : (c != 32) = true := by simpa using fun e => h.1 e.symm
    rw [List.takeWhile_cons, hc, if_pos rfl, ih h.2]
theorem splY_in {a b : List UInt8} (k : Nat) (h : (32 : UInt8) ∉ a) : splY (k + 1) (a ++ 32 :: b) = a :: splY k b := by
  rw [splY, tw_in h, if_neg (by simp)]
  congr 2
  rw [← List.drop_drop, List.drop_left]; rfl
theorem splY_out {a : List UInt8} (k : Nat) (h : (32 : UInt8) ∉ a) : splY k a = [a] := by
  cases k with
  | zero => rfl
  | succ k => rw [splY, tw_out h, if_pos rfl]

theorem spl_Y (k : Nat) (r : ByteArray) : (spl k r).map bl = splY k (bl r) := by
  induction k generalizing r with
  | zero => rfl
  | succ k ih =>
    rw [spl]
    by_cases h : Lib.indexByte (bl r) 32 < 0
    · rw [if_pos h, splY_out _ (ix_none h)]; rfl
    · rw [if_neg h]
      obtain ⟨a, b, hab, hn, hi⟩ := ix_some (Int.not_lt.1 h)
      rw [List.map_cons, ih, hi, bl_cut, bl_from, hab, splY_in k hn, List.drop_zero, Nat.sub_zero, List.take_left]
      congr 2
      rw [← List.drop_drop, List.drop_left]; rfl
theorem splitB_Y (k : Nat) (r : ByteArray) : (Lib.splitB blankS 0 k r).map bl = splY k (bl r) := by
  have hx : ∀ s, Lib.indexB s blankS = Lib.indexByte (bl s) 32 := fun s => Lib.one s blankS rfl
  induction k generalizing r with
  | zero => rfl
  | succ k ih =>
    rw [Lib.splitB, hx]
    by_cases h : Lib.indexByte (bl r) 32 < 0
    · have hge := Lib.indexByte_ge (bl r) 32
      rw [if_pos (by rw [show Lib.indexByte (bl r) 32 = -1 by omega]; rfl), splY_out _ (ix_none h)]; rfl
    · rw [if_neg (by simp; omega)]
      obtain ⟨a, b, hab, hn, hi⟩ := ix_some (Int.not_lt.1 h)
      rw [List.map_cons, ih, hi, bl_cut, show blankS.size = 1 from rfl, bl_from, hab, splY_in k hn, List.drop_zero, Nat.sub_zero, Nat.add_zero, List.take_left]
      congr 2
      rw [← List.drop_drop, List.drop_left]; rfl
theorem map_bl_inj {a b : List ByteArray} (h : a.map bl = b.map bl) : a = b := by
  induction a generalizing b with
  | nil => cases b with
    | nil => rfl
    | cons => cases h
  | cons x a ih => cases b with
    | nil => cases h
    | cons y b =>
      rw [List.map_cons, List.map_cons] at h
      injection h with h1 h2
      rw [bl_ext h1, ih h2]

theorem signsE : signsL = signsX := map_bl_inj (by unfold signsL; rw [spl_Y]; kernel_rfl)
theorem wordsE : wordsL = wordsX := map_bl_inj (by unfold wordsL; rw [wordsC, splitB_Y]; kernel_rfl)
theorem builtinsE : builtinsL = builtinsX := map_bl_inj (by unfold builtinsL; rw [builtinsC, splitB_Y]; kernel_rfl)

def isBuiltinX (s : ByteArray) : Bool := Lib.containsS builtinsX s
def isWordX (s : ByteArray) : Bool := isBuiltinX s || Lib.containsS wordsX s
theorem isBuiltin_eq (s : ByteArray) : isBuiltin s = isBuiltinX s := by unfold isBuiltin isBuiltinX; rw [builtinsE]
theorem isWord_eq (s : ByteArray) : isWord s = isWordX s := by unfold isWord isWordX; rw [isBuiltin_eq, wordsE]
def signOfX (r : List UInt8) : Option ByteArray := signsX.find? (fun t => Lib.hasPrefix r (bl t))
theorem signOf_eq (r : List UInt8) : signOf r = signOfX r := by unfold signOf signOfX; rw [signsE]

def wordKindX (r : List UInt8) : Nat :=
  if isWordX ⟨(r.take (wordN r)).toArray⟩ = true then 6 else if Lib.hasPrefix (r.drop (wordN r)) [40] = true then 2 else 1
def wordX (r : List UInt8) (line : Nat) (T : List Tk) : Res := .ok (r.drop (wordN r)) line (T ++ [⟨wordKindX r, ⟨(r.take (wordN r)).toArray⟩, 0, line⟩])
def signX (r : List UInt8) (line : Nat) (T : List Tk) : Res :=
  match signOfX r with
  | none => .err line 200
  | some t => .ok (r.drop t.size) line (T ++ [⟨7, t, 0, line⟩])
def restX (r : List UInt8) (line : Nat) (T : List Tk) : Res :=
  if byt r 0 = 34 then textR (r.drop 1) line T
  else if byt r 0 = 47 ∧ divides T = false then slashR (r.drop 1) line T
  else signX r line T
def numX (r : List UInt8) (line : Nat) (T : List Tk) : Res :=
  match numL r with
  | some (x, n) => numberR x n r line T
  | none => restX r line T
/-- A token, by the words and signs written out. -/
def tokX (r : List UInt8) (line : Nat) (T : List Tk) : Res :=
  if byt r 0 = 32 ∨ byt r 0 = 9 ∨ byt r 0 = 13 then .ok (r.drop 1) line T
  else if byt r 0 = 10 then .ok (r.drop 1) (line + 1) (T ++ [⟨8, ⟨#[]⟩, 0, line⟩])
  else if byt r 0 = 35 then .ok (r.drop (if Lib.indexByte r 10 < 0 then r.length else (Lib.indexByte r 10).toNat)) line T
  else if Lib.hasPrefix r [92, 10] = true ∨ Lib.hasPrefix r [92, 13, 10] = true then .ok (r.drop ((Lib.indexByte r 10).toNat + 1)) (line + 1) T
  else if isFirst (byt r 0) = true then wordX r line T
  else numX r line T

theorem tok_eq (r : List UInt8) (line : Nat) (T : List Tk) : tokR r line T = tokX r line T := by
  have h1 : wordR r line T = wordX r line T := by unfold wordR wordX wordKind wordKindX; rw [isWord_eq]
  have h2 : signR r line T = signX r line T := by unfold signR signX; rw [signOf_eq]; rfl
  have h3 : restR r line T = restX r line T := by unfold restR restX; rw [h2]
  have h4 : numR r line T = numX r line T := by unfold numR numX; rw [h3]; rfl
  unfold tokR tokX
  rw [h1, h4]

end Go.Proofs.YtifcibbhblhfiaaGreatDoor
