/- Walks of package lex: the scanner's memory, and its small functions. -/
import Derived.Test.YtifcibbhblhfiaaGreatDoorNumD
namespace Go.Proofs.YtifcibbhblhfiaaGreatDoor
open Go.RowKit Pl
set_option linter.unusedVariables false

/-- A token. -/
structure Tk where
  kind : Nat
  text : ByteArray
  n : Nat
  line : Nat

def Tk.cells (t : Tk) : List Value := [.int .i64 (t.kind : Int), .string t.text, .float .f64 t.n, .int .i64 (t.line : Int)]
def cellsT (T : List Tk) : List Value := T.flatMap Tk.cells

/-- Block B is a scanner: its text, its place, its line, its tokens. -/
structure Sc (w : World) (B : Nat) (s : ByteArray) (pos line : Nat) (v : Value) (T : List Tk) : Prop where
  blk : w.heap[B]? = some (.cells #[.string s, .int .i64 (pos : Int), .int .i64 (line : Int), v] 44 (0, 0))
  row : w.ownsRow (B + 1) 36 4 v T.length (cellsT T)

theorem cell_blk {w : World} {b : Nat} {cs : Array Value} {t : TypeId} (h : w.heap[b]? = some (.cells cs t (0, 0))) (i : Nat) : w.cell? ⟨b, i, none⟩ = cs[i]? := cell_of_row w b i cs t (0, 0) h

theorem Sc.c0 {w : World} {B : Nat} {s : ByteArray} {pos line : Nat} {v : Value} {T : List Tk} (h : Sc w B s pos line v T) : w.cell? ⟨B, 0, none⟩ = some (.string s) := cell_blk h.blk 0
theorem Sc.c1 {w : World} {B : Nat} {s : ByteArray} {pos line : Nat} {v : Value} {T : List Tk} (h : Sc w B s pos line v T) : w.cell? ⟨B, 1, none⟩ = some (.int .i64 (pos : Int)) := cell_blk h.blk 1
theorem Sc.c2 {w : World} {B : Nat} {s : ByteArray} {pos line : Nat} {v : Value} {T : List Tk} (h : Sc w B s pos line v T) : w.cell? ⟨B, 2, none⟩ = some (.int .i64 (line : Int)) := cell_blk h.blk 2
theorem Sc.c3 {w : World} {B : Nat} {s : ByteArray} {pos line : Nat} {v : Value} {T : List Tk} (h : Sc w B s pos line v T) : w.cell? ⟨B, 3, none⟩ = some v := cell_blk h.blk 3
theorem Sc.fz {w : World} {B : Nat} {s : ByteArray} {pos line : Nat} {v : Value} {T : List Tk} (h : Sc w B s pos line v T) (i : Nat) : w.frozen? ⟨B, i, none⟩ = false := frozen_of_row w B i _ _ h.blk
theorem Sc.lt {w : World} {B : Nat} {s : ByteArray} {pos line : Nat} {v : Value} {T : List Tk} (h : Sc w B s pos line v T) : B < w.heap.size := (Array.getElem?_eq_some_iff.1 h.blk).1

theorem Sc.drewN {w : World} {B : Nat} {s : ByteArray} {pos line : Nat} {v : Value} {T : List Tk} (h : Sc w B s pos line v T) (n : Nat) : Sc (w.drewN n) B s pos line v T := ⟨h.blk, h.row⟩

theorem Sc.set1 {w : World} {B : Nat} {s : ByteArray} {pos line : Nat} {v : Value} {T : List Tk} (h : Sc w B s pos line v T) (p : Nat) : Sc (w.setCell ⟨B, 1, none⟩ (.int .i64 (p : Int))) B s p line v T :=
  ⟨heap_setCell_same w B 1 _ _ _ h.blk, ownsRow_setCell_below h.row (by simp) _⟩
theorem Sc.set2 {w : World} {B : Nat} {s : ByteArray} {pos line : Nat} {v : Value} {T : List Tk} (h : Sc w B s pos line v T) (p : Nat) : Sc (w.setCell ⟨B, 2, none⟩ (.int .i64 (p : Int))) B s pos p v T :=
  ⟨heap_setCell_same w B 2 _ _ _ h.blk, ownsRow_setCell_below h.row (by simp) _⟩

/-- Between two worlds nothing below b has changed, but perhaps block B. -/
structure Bx (b B : Nat) (w w' : World) : Prop where
  os : w'.os = w.os
  tape : w'.tape = w.tape
  output : w'.output = w.output
  size : w.heap.size ≤ w'.heap.size
  block : ∀ k, k < b → k ≠ B → w'.heap[k]? = w.heap[k]?

theorem Bx.refl (b B : Nat) (w : World) : Bx b B w w := ⟨rfl, rfl, rfl, Nat.le_refl _, fun _ _ _ => rfl⟩
theorem Bx.trans {b B : Nat} {a c d : World} (h : Bx b B a c) (k : Bx b B c d) : Bx b B a d :=
  ⟨k.os.trans h.os, k.tape.trans h.tape, k.output.trans h.output, Nat.le_trans h.size k.size, fun i hi hn => (k.block i hi hn).trans (h.block i hi hn)⟩
theorem Bx.of {b B : Nat} {a c : World} (h : Below b a c) : Bx b B a c := ⟨h.os, h.tape, h.output, h.size, fun k hk _ => h.block k hk⟩
theorem Bx.mono {b b' B : Nat} {a c : World} (h : Bx b B a c) (hb : b' ≤ b) : Bx b' B a c := ⟨h.os, h.tape, h.output, h.size, fun k hk hn => h.block k (by omega) hn⟩
theorem Bx.below {b B : Nat} {a c : World} (h : Bx b B a c) (hb : B ≤ b) : Below B a c := ⟨h.os, h.tape, h.output, h.size, fun k hk => h.block k (by omega) (by omega)⟩
theorem Bx.set {b B : Nat} {a c : World} (h : Bx b B a c) (i : Nat) (v : Value) : Bx b B a (c.setCell ⟨B, i, none⟩ v) :=
  h.trans ⟨rfl, rfl, rfl, by simp, fun k _ hk => heap_setCell_other c ⟨B, i, none⟩ k v hk⟩
theorem Bx.drewN {b B : Nat} {a c : World} (h : Bx b B a c) (n : Nat) : Bx b B a (c.drewN n) := h.trans ⟨rfl, rfl, rfl, Nat.le_refl _, fun _ _ _ => rfl⟩

theorem owns_keep {w w' : World} {base e size n : Nat} {v : Value} {xs : List Value} (h : w.ownsRow base e size v n xs) (hk : ∀ g, v.ownBlock = some g → w'.heap[g]? = w.heap[g]?) : w'.ownsRow base e size v n xs := by
  obtain ⟨h1, h2 | ⟨g, cap, cur, rfl, hb, hg, hr⟩⟩ := h
  · exact ⟨h1, .inl h2⟩
  · exact ⟨h1, .inr ⟨g, cap, cur, rfl, hb, by rw [hk g rfl]; exact hg, hr⟩⟩

theorem Sc.below {w w' : World} {B : Nat} {s : ByteArray} {pos line : Nat} {v : Value} {T : List Tk} (h : Sc w B s pos line v T) (hb : Below w.heap.size w w') : Sc w' B s pos line v T :=
  ⟨by rw [hb.block B h.lt]; exact h.blk, owns_keep h.row fun g hg => hb.block g (h.row.lt g hg).2⟩

def isFirst (c : Nat) : Bool := c == 95 || (decide (97 ≤ c ||| 32) && decide (c ||| 32 ≤ 122))
def isLetter (c : Nat) : Bool := isFirst c || (decide (48 ≤ c) && decide (c ≤ 57))

theorem ret_bool {a b : Bool} (h : a = b) : Ending.returned (.bool a) = .returned (.bool b) := by rw [h]

theorem or32 (c : Nat) (hc : c < 256) : bits BinOp.or IntKind.u8 (c : Int) 32 = ((c ||| 32 : Nat) : Int) := u8_or_nat c 32 hc (by decide)

theorem first_any (c : Nat) (w : World) (hc : c < 256) : Calls Tryz.prog 27 #[.int .u8 (c : Int)] w fun e w' => e = .returned (.bool (isFirst c)) ∧ w = w' := by
  have hor := or32 c hc
  have hl : (c ||| 32) < 256 := Nat.or_lt_two_pow (n := 8) hc (by decide)
  have HI : Hid (isFirst c = (c == 95 || (decide (97 ≤ c ||| 32) && decide (c ||| 32 ≤ 122)))) := rfl
  generalize c ||| 32 = x at *
  go_enter Tryz.func27, Tryz.ntmps27
  by_cases h1 : c = 95
  · subst h1
    go_wp2
    go_ret
    exact ⟨by rw [HI.out]; rfl, rfl⟩
  · have h1' : ((c : Int) == 95) = false := beq_eq_false_iff_ne.2 (by omega)
    have h2 : (c == 95) = false := beq_eq_false_iff_ne.2 h1
    rw [h2, Bool.false_or] at HI
    by_cases h3 : 97 ≤ x
    · by_cases h4 : x ≤ 122
      · rw [decide_eq_true h3, decide_eq_true h4] at HI
        go_wp2
        go_ret
        exact ⟨ret_bool (by rw [HI.out]; exact decide_eq_true (by omega)), rfl⟩
      · rw [decide_eq_true h3, decide_eq_false h4] at HI
        go_wp2
        go_ret
        exact ⟨ret_bool (by rw [HI.out]; exact decide_eq_false (by omega)), rfl⟩
    · rw [decide_eq_false h3] at HI
      go_wp2
      go_ret
      exact ⟨by rw [HI.out]; rfl, rfl⟩

theorem letter_any (c : Nat) (w : World) (hc : c < 256) : Calls Tryz.prog 51 #[.int .u8 (c : Int)] w fun e w' => e = .returned (.bool (isLetter c)) ∧ w = w' := by
  have hf := Lib.hid (first_any c w hc)
  have HI : Hid (isLetter c = (isFirst c || (decide (48 ≤ c) && decide (c ≤ 57)))) := rfl
  generalize isFirst c = f at *
  go_enter Tryz.func51, Tryz.ntmps51
  go_wp2_with fail
  refine hf.out.mono ?_
  rintro e w' ⟨rfl, rfl⟩
  cases f with
  | true =>
    go_wp2
    go_ret
    exact ⟨by rw [HI.out]; rfl, rfl⟩
  | false =>
    rw [Bool.false_or] at HI
    by_cases h3 : 48 ≤ c
    · by_cases h4 : c ≤ 57
      · rw [decide_eq_true h3, decide_eq_true h4] at HI
        go_wp2
        go_ret
        exact ⟨ret_bool (by rw [HI.out]; exact decide_eq_true (by omega)), rfl⟩
      · rw [decide_eq_true h3, decide_eq_false h4] at HI
        go_wp2
        go_ret
        exact ⟨ret_bool (by rw [HI.out]; exact decide_eq_false (by omega)), rfl⟩
    · rw [decide_eq_false h3] at HI
      go_wp2
      go_ret
      exact ⟨by rw [HI.out]; rfl, rfl⟩

theorem sc_see (B pos line : Nat) (s t : ByteArray) (v : Value) (T : List Tk) (w : World) (h : Sc w B s pos line v T) (hp : pos ≤ s.size) :
    Calls Tryz.prog 26 #[.pointer (some ⟨B, 0, none⟩), .string t] w fun e w' => e = .returned (.bool (Lib.hasPrefix ((bl s).drop pos) (bl t))) ∧ ∃ m, w' = w.drewN m := by
  have h0 := h.c0; have h1 := h.c1
  have hp' : ∀ w, Calls Tryz.prog 39 #[.string (s.extract pos s.size), .string t] w fun e w' => e = .returned (.bool (Lib.hasPrefix ((bl s).drop pos) (bl t))) ∧ w' = w := by
    intro w
    have := Tryz.strings_HasPrefix (s.extract pos s.size) t w
    rwa [show (s.extract pos s.size).data.toList = (bl s).drop pos from bl_from s pos] at this
  have HP := Lib.hid hp'; clear hp'
  go_enter Tryz.func26, Tryz.ntmps26
  go_wp2_with fail
  go_quiet (first | (go_at_call 39; refine Calls.quiet_of_same (HP.out _)))
  go_wp2
  go_ret
  exact ⟨rfl, _, rfl⟩

def faultE (line e0 : Int) : Ending := .panicked [{ v := .iface 41 (.agg #[.int .i64 line, .int .i64 e0]), recovered := false }]

theorem sc_fail (B : Nat) (line e0 : Int) (w : World) :
    Calls Tryz.prog 42 #[.pointer (some ⟨B, 0, none⟩), .int .i64 line, .int .i64 e0] w fun e w' => e = faultE line e0 ∧ w = w' := by
  go_enter Tryz.func42, Tryz.ntmps42
  go_wp2
  exact ⟨rfl, rfl, rfl⟩

def nameN (l : List UInt8) : Nat := (l.takeWhile (fun c => isLetter c.toNat)).length
theorem nameN_le (l : List UInt8) : nameN l ≤ l.length := (List.takeWhile_prefix _).length_le

/-- takeWhile by places. -/
theorem takeWhile_at {p : UInt8 → Bool} (l : List UInt8) (i : Nat) (hi : i ≤ l.length) (h : ∀ j, j < i → p (l.getD j 0) = true) (he : i < l.length → p (l.getD i 0) = false) : (l.takeWhile p).length = i := by
  induction l generalizing i with
  | nil => simp at hi; subst hi; rfl
  | cons c l ih =>
    rw [List.takeWhile_cons]
    cases i with
    | zero =>
      have := he (by simp)
      rw [List.getD_cons_zero] at this
      rw [this]; rfl
    | succ i =>
      have h0 := h 0 (by omega)
      rw [List.getD_cons_zero] at h0
      rw [h0, if_pos rfl, List.length_cons]
      congr 1
      refine ih i (by simpa using hi) (fun j hj => ?_) (fun hl => ?_)
      · have := h (j + 1) (by omega); rwa [List.getD_cons_succ] at this
      · have := he (by simpa using hl); rwa [List.getD_cons_succ] at this

theorem drop_getD (l : List UInt8) (k j : Nat) : (l.drop k).getD j 0 = l.getD (k + j) 0 := by
  rw [List.getD_eq_getElem?_getD, List.getElem?_drop, List.getD_eq_getElem?_getD]

theorem byt_getD (l : List UInt8) (i : Nat) : byt l i = (l.getD i 0).toNat := by unfold byt; rw [List.getD_eq_getElem?_getD]

set_option maxHeartbeats 400000 in
theorem sc_name (B pos line k : Nat) (s : ByteArray) (v : Value) (T : List Tk) (w : World) (h : Sc w B s pos line v T) (hk : k ≤ s.size) (hs : s.size ≤ 100000000) :
    Calls Tryz.prog 40 #[.pointer (some ⟨B, 0, none⟩), .int .i64 (k : Int)] w fun e w' => e = .returned (.string (s.extract k (k + nameN ((bl s).drop k)))) ∧ w = w' := by
  have h0 := h.c0
  have HL := Lib.hid (bl_len s)
  have hg := get_byt s
  clear h
  go_enter Tryz.func40, Tryz.ntmps40
  go_wp2_with fail
  go_loopw [5] (fun vi wx => ∃ i : Nat, wx = w ∧ k ≤ i ∧ i ≤ s.size ∧ vi = .int .i64 (i : Int) ∧ Hid (∀ j, j < i - k → isLetter (byt (bl s) (k + j)) = true)) (fun vi _ => (s.size - intOf vi).toNat)
  case atStart => exact ⟨k, rfl, Nat.le_refl _, hk, rfl, fun j hj => absurd hj (by omega)⟩
  case round =>
    obtain ⟨i, rfl, hki, hi, rfl, hh⟩ := hrel
    have hfin : (i < s.size → isLetter (byt (bl s) i) = false) → k + nameN ((bl s).drop k) = i := by
      intro he
      have : nameN ((bl s).drop k) = i - k := by
        refine takeWhile_at _ _ (by rw [List.length_drop, HL.out]; omega) (fun j hj => ?_) (fun hl => ?_)
        · rw [drop_getD, ← byt_getD]; exact hh.out j hj
        · rw [drop_getD, ← byt_getD, show k + (i - k) = i by omega]; exact he (by rw [List.length_drop, HL.out] at hl; omega)
      omega
    have HF := Lib.hid hfin; clear hfin
    by_cases hlt : i < s.size
    · have hle := Lib.hid (letter_any (byt (bl s) i) wr (byt_lt _ _))
      go_wp2_with fail
      refine hle.out.mono ?_
      rintro e w' ⟨rfl, rfl⟩
      cases hb : isLetter (byt (bl s) i) with
      | true =>
        have hh2 : ∀ j, j < i + 1 - k → isLetter (byt (bl s) (k + j)) = true := by
          intro j hj
          by_cases hjk : k + j = i
          · rw [hjk]; exact hb
          · exact hh.out j (by omega)
        have HH := Lib.hid hh2
        clear hh2 hb
        go_wp2_with fail
        go_roundw
        case rel => exact ⟨i + 1, trivial, by omega, by omega, by go_num, HH.out⟩
        case measure => simp [intOf]; omega
      | false =>
        have hf := Lib.hid (HF.out (fun _ => hb))
        clear hb
        go_wp2_with fail
        go_ret
        exact ⟨by rw [hf.out]; rfl, rfl⟩
    · have hf := Lib.hid (HF.out (fun h => absurd h hlt))
      go_wp2_with fail
      go_ret
      exact ⟨by rw [hf.out]; rfl, rfl⟩

theorem tk_cells_len (t : Tk) : t.cells.length = 4 := rfl
theorem cellsT_len (T : List Tk) : (cellsT T).length = T.length * 4 := by
  induction T with
  | nil => rfl
  | cons t T ih => rw [cellsT, List.flatMap_cons, List.length_append, ← cellsT, ih, tk_cells_len, List.length_cons]; omega
theorem cellsT_app (T : List Tk) (t : Tk) : cellsT (T ++ [t]) = cellsT T ++ t.cells := by unfold cellsT; rw [List.flatMap_append]; simp

/-- The tokens' own row lies below block b. -/
def Low (v : Value) (b : Nat) : Prop := ∀ g, v.ownBlock = some g → g < b

theorem infoTok : (Tryz.prog.info? 36).map (fun i => (i.zero, i.size, i.bytes)) = some (some (.agg #[.int .i64 0, .string ⟨#[]⟩, .float .f64 0, .int .i64 0]), 4, 40) := by kernel_rfl

set_option maxHeartbeats 400000 in
theorem sc_add (B pos line k ln x : Nat) (s t : ByteArray) (v : Value) (T : List Tk) (w : World) (h : Sc w B s pos line v T) (hT : T.length ≤ 1000000) :
    Calls Tryz.prog 21 #[.pointer (some ⟨B, 0, none⟩), .int .i64 (k : Int), .string t, .float .f64 x, .int .i64 (ln : Int)] w fun e w' => ∃ v', e = .returned (.tuple #[]) ∧ Sc w' B s pos line v' (T ++ [⟨k, t, x, ln⟩]) ∧ Below B w w' := by
  have h3 := h.c3
  have HS := Lib.hid h
  clear h
  go_enter Tryz.func21, Tryz.ntmps21
  go_wp2_with (at_builtin; go_must (refine wpList_appN (W := w) rfl _ _ 28 rfl (B + 1) 36 (.agg #[.int .i64 0, .string ⟨#[]⟩, .float .f64 0, .int .i64 0]) 4 40 Tryz.underlying28 infoTok (by decide) (by decide) _ T.length (cellsT T) rfl (by exact HS.out.row) _ 1 1 (by decide) rfl rfl (by simp [Value.oneCell']) (by unfold maxLen; omega) (by omega) HS.out.lt ?_))
  intro g c w' hown hb
  have hf : w'.frozen? ⟨B, 3, none⟩ = false := by rw [hb.frozen (Nat.lt_succ_self B)]; exact HS.out.fz 3
  have hc3 : w'.cell? ⟨B, 3, none⟩ = some v := by rw [hb.cell (p := ⟨B, 3, none⟩) (Nat.lt_succ_self B)]; exact h3
  have hblk : w'.heap[B]? = _ := (hb.block B (Nat.lt_succ_self B)).trans HS.out.blk
  have HO := Lib.hid hown; have HB := Lib.hid hb; have HK := Lib.hid hblk
  clear hown hb hblk h3
  go_wp2
  go_end0
  refine ⟨_, rfl, ⟨heap_setCell_same w' B 3 _ _ _ HK.out, ?_⟩, (HB.out.mono (Nat.le_succ B)).setCell (Nat.le_refl B) _⟩
  have h := ownsRow_setCell_below HO.out (a := ⟨B, 3, none⟩) (Nat.lt_succ_self B) (.slice (some ⟨g, 0, none⟩) (T.length + 1) c)
  rw [cellsT_app, List.length_append]
  exact h

end Go.Proofs.YtifcibbhblhfiaaGreatDoor
