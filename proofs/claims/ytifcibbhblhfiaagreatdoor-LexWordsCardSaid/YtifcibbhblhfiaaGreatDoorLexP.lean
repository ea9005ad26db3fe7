/- Plain laws of the tokens: what a step takes, how many lines that is, and that an end of a line behind a text changes nothing. -/
import Derived.Test.YtifcibbhblhfiaaGreatDoorLexL
namespace Go.Proofs.YtifcibbhblhfiaaGreatDoor
open Go.RowKit Pl
set_option linter.unusedVariables false

/-- Ends of lines. -/
def nl (l : List UInt8) : Nat := l.count 10
theorem nl_app (a b : List UInt8) : nl (a ++ b) = nl a + nl b := List.count_append
theorem nl_cons (c : UInt8) (l : List UInt8) : nl (c :: l) = nl l + if c = 10 then 1 else 0 := by
  unfold nl; rw [List.count_cons]; simp
theorem nl_zero {l : List UInt8} (h : ∀ c ∈ l, c ≠ 10) : nl l = 0 := by
  unfold nl; exact List.count_eq_zero.2 fun h' => h 10 h' rfl
theorem take_add (l : List UInt8) (a b : Nat) : l.take (a + b) = l.take a ++ (l.drop a).take b := by
  rw [List.take_add]

theorem tw_app {p : UInt8 → Bool} (h : p 10 = false) (l b : List UInt8) : (l ++ 10 :: b).takeWhile p = l.takeWhile p := by
  induction l with
  | nil => rw [List.nil_append, List.takeWhile_cons, h]; simp
  | cons c l ih => rw [List.cons_append, List.takeWhile_cons, List.takeWhile_cons, ih]
theorem tw_nl {p : UInt8 → Bool} (h : p 10 = false) (l : List UInt8) : nl (l.takeWhile p) = 0 := by
  induction l with
  | nil => rfl
  | cons c l ih =>
    rw [List.takeWhile_cons]
    cases hc : p c with
    | false => rfl
    | true =>
      have hne : c ≠ 10 := by rintro rfl; rw [h] at hc; cases hc
      rw [if_pos rfl, nl_cons, ih, if_neg hne]
theorem take_tw {p : UInt8 → Bool} (l : List UInt8) : l.take (l.takeWhile p).length = l.takeWhile p :=
  List.prefix_iff_eq_take.1 (List.takeWhile_prefix _) |>.symm

theorem hp_app (t : List UInt8) (h : ∀ c ∈ t, c ≠ 10) (l b : List UInt8) : Lib.hasPrefix (l ++ 10 :: b) t = Lib.hasPrefix l t := by
  unfold Lib.hasPrefix
  induction t generalizing l with
  | nil => simp [List.isPrefixOf]
  | cons c t ih =>
    cases l with
    | nil =>
      show ((c == 10) && _) = false
      have : (c == 10) = false := beq_eq_false_iff_ne.2 (h c (by simp))
      rw [this]; rfl
    | cons d l =>
      show ((c == d) && t.isPrefixOf (l ++ 10 :: b)) = ((c == d) && t.isPrefixOf l)
      rw [ih (fun c hc => h c (by simp [hc])) l]

theorem byt_app (l b : List UInt8) (i : Nat) (h : i < l.length) : byt (l ++ b) i = byt l i := by unfold byt; rw [List.getElem?_append_left h]
theorem byt_end (l b : List UInt8) : byt (l ++ 10 :: b) l.length = 10 := by unfold byt; rw [List.getElem?_append_right (Nat.le_refl _)]; simp
theorem drop_app (l b : List UInt8) (k : Nat) (h : k ≤ l.length) : (l ++ b).drop k = l.drop k ++ b := List.drop_append_of_le_length h
theorem take_app (l b : List UInt8) (k : Nat) (h : k ≤ l.length) : (l ++ b).take k = l.take k := List.take_append_of_le_length h

theorem ndig_app (l b : List UInt8) : ndig (l ++ 10 :: b) = ndig l := by unfold ndig; rw [tw_app (by decide)]
theorem hp_lt {l : List UInt8} {k : Nat} {c : UInt8} (h : Lib.hasPrefix (l.drop k) [c] = true) : k < l.length := by
  have := (List.isPrefixOf_iff_prefix.1 h).length_le
  rw [List.length_drop] at this
  simp at this; omega

theorem mant_app (l b : List UInt8) : mant (l ++ 10 :: b) = mant l := by
  have h1 := ndig_app l b
  have h2 := ndig_le l
  unfold mant
  rw [h1, drop_app _ _ _ h2, hp_app [46] (by decide)]
  by_cases hp : Lib.hasPrefix (l.drop (ndig l)) [46] = true
  · have h3 := hp_lt hp
    rw [drop_app _ _ _ (by omega), ndig_app, take_app _ _ _ h2, take_app _ _ _ (ndig_le _)]
  · rw [if_neg (fun h => hp h.1), if_neg (fun h => hp h.1), take_app _ _ _ h2]

theorem expo_app (r b : List UInt8) : expo (r ++ 10 :: b) = expo r := by
  have hn : ∀ l : List UInt8, ndig (l ++ 10 :: b) = ndig l := fun l => ndig_app l b
  match r with
  | [] => simp [expo, byt]
  | [c] =>
    unfold expo
    have e1 : byt ([c] ++ 10 :: b) 0 = byt [c] 0 := rfl
    have e2 : byt ([c] ++ 10 :: b) 1 = 10 := rfl
    have e3 : ([c] ++ 10 :: b).drop 1 = [] ++ 10 :: b := rfl
    rw [e1, e2, e3, hn]
    simp [ndig]
  | c :: d :: r =>
    unfold expo
    have e1 : byt ((c :: d :: r) ++ 10 :: b) 0 = byt (c :: d :: r) 0 := rfl
    have e2 : byt ((c :: d :: r) ++ 10 :: b) 1 = byt (c :: d :: r) 1 := rfl
    have e3 : ((c :: d :: r) ++ 10 :: b).drop 1 = (d :: r) ++ 10 :: b := rfl
    have e4 : ((c :: d :: r) ++ 10 :: b).drop 2 = r ++ 10 :: b := rfl
    have e5 : (c :: d :: r).drop 1 = d :: r := rfl
    have e6 : (c :: d :: r).drop 2 = r := rfl
    rw [e1, e2, e3, e4, e5, e6, hn, hn, take_app _ _ _ (ndig_le _), take_app _ _ _ (ndig_le _)]
    simp

theorem numeral_app (l b : List UInt8) : numeral (l ++ 10 :: b) = numeral l := by
  unfold numeral
  rw [mant_app, drop_app _ _ _ (mant_le l).2.2.2.2, expo_app]

theorem hexPart_eq (l : List UInt8) : hexPart l = (l.drop 2).take 13 := by
  unfold hexPart
  by_cases h : l.length ≤ 15
  · rw [List.take_of_length_le (by rw [List.length_drop]; omega), List.take_of_length_le (by rw [List.length_drop]; omega)]
  · rw [show min l.length 15 - 2 = 13 by omega]

theorem hexTw (m b : List UInt8) (k : Nat) : ((m ++ 10 :: b).take k).takeWhile isHex = (m.take k).takeWhile isHex := by
  by_cases h : k ≤ m.length
  · rw [take_app _ _ _ h]
  · obtain ⟨j, hj⟩ : ∃ j, k = m.length + (j + 1) := ⟨k - m.length - 1, by omega⟩
    rw [hj, List.take_length_add_append, List.take_succ_cons, tw_app (by decide), List.take_of_length_le (by omega)]

theorem lit_eq (l : List UInt8) : literal l = if lit0x l = true ∧ 0 < (((l.drop 2).take 13).takeWhile isHex).length then (hexVal (((l.drop 2).take 13).takeWhile isHex), 2 + (((l.drop 2).take 13).takeWhile isHex).length)
    else if (numeral l).2.2 = 0 then (0, 0) else (readNum (numeral l).1 (numeral l).2.1, (numeral l).2.2) := by
  unfold literal nhex
  rw [hexPart_eq, take_tw]

theorem literal_app (l b : List UInt8) : literal (l ++ 10 :: b) = literal l := by
  rw [lit_eq, lit_eq, numeral_app]
  have h0 : lit0x (l ++ 10 :: b) = lit0x l := by unfold lit0x; rw [hp_app _ (by decide), hp_app _ (by decide)]
  rw [h0]
  by_cases h : lit0x l = true
  · rw [drop_app _ _ _ (lit0x_len h), hexTw]
  · simp [h]

theorem split_nl {r : List UInt8} {n : Nat} (h : nl (r.take n) ≠ 0) : ∃ l b, r = l ++ 10 :: b ∧ l.length < n := by
  have hm : (10 : UInt8) ∈ r.take n := by
    apply Classical.byContradiction
    intro hm
    exact h (nl_zero fun c hc e => hm (e ▸ hc))
  obtain ⟨l, b, hlb⟩ := List.append_of_mem hm
  refine ⟨l, b ++ r.drop n, ?_, ?_⟩
  · calc r = r.take n ++ r.drop n := (List.take_append_drop n r).symm
      _ = (l ++ 10 :: b) ++ r.drop n := by rw [hlb]
      _ = _ := by rw [List.append_assoc]; rfl
  · have := congrArg List.length hlb
    rw [List.length_take, List.length_append, List.length_cons] at this
    omega

theorem literal_nl (r : List UInt8) : nl (r.take (literal r).2) = 0 := by
  apply Classical.byContradiction
  intro h
  obtain ⟨l, b, rfl, hl⟩ := split_nl h
  rw [literal_app] at hl
  have := literal_le l
  omega

theorem nameN_app (l b : List UInt8) : nameN (l ++ 10 :: b) = nameN l := by unfold nameN; rw [tw_app (by decide)]
theorem name_nl (l : List UInt8) : nl (l.take (nameN l)) = 0 := by unfold nameN; rw [take_tw]; exact tw_nl (by decide) l
theorem hp2_lt {l : List UInt8} {k : Nat} {c d : UInt8} (h : Lib.hasPrefix (l.drop k) [c, d] = true) : k + 2 ≤ l.length := by
  have := (List.isPrefixOf_iff_prefix.1 h).length_le
  rw [List.length_drop] at this
  simp at this; omega

theorem wordD_app (l b : List UInt8) : wordD (l ++ 10 :: b) = wordD l := by
  unfold wordD
  rw [nameN_app, drop_app _ _ _ (nameN_le l), hp_app _ (by decide)]
  by_cases hp : Lib.hasPrefix (l.drop (nameN l)) [58, 58] = true
  · have h2 := hp2_lt hp
    rw [hp, Bool.true_and, Bool.true_and]
    by_cases h3 : nameN l + 2 < l.length
    · rw [byt_app _ _ _ h3, decide_eq_true h3, decide_eq_true (by rw [List.length_append]; omega)]
    · have h4 : nameN l + 2 = l.length := by omega
      rw [h4, byt_end, decide_eq_false (Nat.lt_irrefl _), Bool.false_and, show isFirst 10 = false from by decide, Bool.and_false]
  · rw [Bool.not_eq_true] at hp
    rw [hp, Bool.false_and, Bool.false_and]
theorem wordD_lt {l : List UInt8} (h : wordD l = true) : nameN l + 2 < l.length := by
  unfold wordD at h
  exact of_decide_eq_true (Bool.and_eq_true_iff.1 (Bool.and_eq_true_iff.1 h).2).1
theorem wordN_app (l b : List UInt8) : wordN (l ++ 10 :: b) = wordN l := by
  unfold wordN
  rw [wordD_app, nameN_app]
  by_cases h : wordD l = true
  · rw [if_pos h, if_pos h, drop_app _ _ _ (Nat.le_of_lt (wordD_lt h)), nameN_app]
  · rw [if_neg h, if_neg h]
theorem word_nl (r : List UInt8) : nl (r.take (wordN r)) = 0 := by
  apply Classical.byContradiction
  intro h
  obtain ⟨l, b, rfl, hl⟩ := split_nl h
  rw [wordN_app] at hl
  have := wordN_le l
  omega
theorem wordKind_app (l b : List UInt8) : wordKind (l ++ 10 :: b) = wordKind l := by
  unfold wordKind
  rw [wordN_app, take_app _ _ _ (wordN_le l), drop_app _ _ _ (wordN_le l), hp_app _ (by decide)]
theorem wordN_pos {r : List UInt8} (h0 : r ≠ []) (h : isFirst (byt r 0) = true) : 0 < wordN r := by
  have h1 : 0 < nameN r := by
    cases r with
    | nil => exact absurd rfl h0
    | cons c r =>
      unfold nameN
      rw [List.takeWhile_cons]
      have : isLetter c.toNat = true := by unfold isLetter; rw [show isFirst c.toNat = true from h]; rfl
      rw [this, if_pos rfl]; simp
  unfold wordN
  split <;> omega

/-- The number of an index. -/
theorem ix_some {l : List UInt8} {c : UInt8} (h : 0 ≤ Lib.indexByte l c) : ∃ a b, l = a ++ c :: b ∧ c ∉ a ∧ (Lib.indexByte l c).toNat = a.length := by
  induction l with
  | nil => simp [Lib.indexByte] at h
  | cons d l ih =>
    rw [Lib.indexByte] at h ⊢
    by_cases hd : (d == c) = true
    · rw [if_pos hd]
      have := eq_of_beq hd
      exact ⟨[], l, by rw [this]; rfl, by simp, rfl⟩
    · rw [if_neg hd] at h ⊢
      by_cases h1 : (Lib.indexByte l c == -1) = true
      · rw [if_pos h1] at h; exact absurd h (by decide)
      · rw [if_neg h1] at h ⊢
        have hge := Lib.indexByte_ge l c
        have hne : Lib.indexByte l c ≠ -1 := fun e => h1 (by rw [e]; rfl)
        obtain ⟨a, b, h2, h3, h4⟩ := ih (by omega)
        refine ⟨d :: a, b, by rw [h2]; rfl, ?_, by rw [List.length_cons, ← h4]; omega⟩
        rw [List.mem_cons]
        rintro (h5 | h5)
        · exact hd (by rw [h5]; simp)
        · exact h3 h5
theorem ix_none {l : List UInt8} {c : UInt8} (h : Lib.indexByte l c < 0) : c ∉ l := by
  induction l with
  | nil => simp
  | cons d l ih =>
    rw [Lib.indexByte] at h
    by_cases hd : (d == c) = true
    · rw [if_pos hd] at h; exact absurd h (by decide)
    · rw [if_neg hd] at h
      rw [List.mem_cons]
      rintro (h5 | h5)
      · exact hd (by rw [h5]; simp)
      · have hge := Lib.indexByte_ge l c
        by_cases h1 : (Lib.indexByte l c == -1) = true
        · exact ih (by rw [eq_of_beq h1]; decide) h5
        · rw [if_neg h1] at h; exact ih (by omega) h5
theorem ix_app {a b : List UInt8} {c : UInt8} (h : c ∉ a) : Lib.indexByte (a ++ c :: b) c = a.length := by
  induction a with
  | nil => rw [List.nil_append, Lib.indexByte, if_pos (by simp)]; rfl
  | cons d a ih =>
    rw [List.mem_cons, not_or] at h
    rw [List.cons_append, Lib.indexByte, if_neg (by simpa using fun e => h.1 e.symm), ih h.2, if_neg (by simp), List.length_cons, Int.natCast_add]; rfl

theorem digL_nl (base m : Nat) (r : List UInt8) (v : Nat) : nl (r.take (digL base m r v).2) = 0 := by
  induction m generalizing r v with
  | zero => simp [digL, nl]
  | succ m ih =>
    cases r with
    | nil => simp [digL, nl]
    | cons c r =>
      rw [digL]
      split
      · simp [nl]
      · rename_i h
        rw [List.take_succ_cons, nl_cons, ih, if_neg]
        rintro rfl
        exact h (.inl (by decide))

theorem digL_app (base m : Nat) (r X : List UInt8) (v : Nat) (h : (digL base m r v).2 < r.length) : digL base m (r ++ X) v = digL base m r v := by
  induction m generalizing r v with
  | zero => cases r <;> simp [digL]
  | succ m ih =>
    cases r with
    | nil => simp at h
    | cons c r =>
      rw [List.cons_append, digL, digL]
      rw [digL] at h
      split
      · rfl
      · rename_i hc
        rw [if_neg hc] at h
        rw [ih r _ (by simpa using h)]

theorem esc_nl (r : List UInt8) : (esc r).2.2 = nl (r.take (esc r).2.1) := by
  cases r with
  | nil => simp [esc, nl]
  | cons b r =>
    rw [esc]
    by_cases h1 : 0 ≤ Lib.indexByte ctlL b
    · rw [if_pos h1]
      simp only [List.take_succ_cons, List.take_zero, nl_cons]
      have hb : b ≠ 10 := by rintro rfl; exact absurd h1 (by decide)
      rw [if_neg hb]; simp [nl]
    · rw [if_neg h1]
      by_cases h2 : b = 10
      · rw [if_pos h2]; simp [h2, nl]
      · rw [if_neg h2]
        by_cases h3 : 48 ≤ b.toNat ∧ b.toNat ≤ 55
        · rw [if_pos h3]; exact (digL_nl 8 3 (b :: r) 0).symm
        · rw [if_neg h3]
          by_cases h4 : b = 120
          · rw [if_pos h4]
            split
            · show 0 = nl ((b :: r).take (1 + _))
              rw [Nat.add_comm 1, List.take_succ_cons, nl_cons, digL_nl, if_neg h2]
            · simp [h2, nl]
          · rw [if_neg h4]; simp [h2, nl]

theorem esc_app (r X : List UInt8) (h0 : r ≠ []) (h : (esc r).2.1 < r.length) : esc (r ++ X) = esc r := by
  cases r with
  | nil => exact absurd rfl h0
  | cons b r =>
    rw [esc] at h
    rw [List.cons_append, esc, esc]
    by_cases h1 : 0 ≤ Lib.indexByte ctlL b
    · rw [if_pos h1, if_pos h1]
    · rw [if_neg h1] at h ⊢; rw [if_neg h1]
      by_cases h2 : b = 10
      · rw [if_pos h2, if_pos h2]
      · rw [if_neg h2] at h ⊢; rw [if_neg h2]
        by_cases h3 : 48 ≤ b.toNat ∧ b.toNat ≤ 55
        · rw [if_pos h3] at h ⊢; rw [if_pos h3]
          rw [show b :: (r ++ X) = (b :: r) ++ X from rfl, digL_app 8 3 (b :: r) X 0 h]
        · rw [if_neg h3] at h ⊢; rw [if_neg h3]
          by_cases h4 : b = 120
          · rw [if_pos h4] at h ⊢; rw [if_pos h4]
            have h5 : (digL 16 2 r 0).2 < r.length := by
              by_cases h6 : 0 < (digL 16 2 r 0).2
              · rw [if_pos h6] at h
                have h : 1 + (digL 16 2 r 0).2 < (b :: r).length := h
                rw [List.length_cons] at h; omega
              · rw [if_neg h6] at h
                have h : 1 < (b :: r).length := h
                rw [List.length_cons] at h; omega
            rw [digL_app 16 2 r X 0 h5]
          · rw [if_neg h4, if_neg h4]

/-- A string that ends: what it takes, its lines; whatever stands behind it. -/
theorem textGo_ok (X : List UInt8) : ∀ (n : Nat) (r out : List UInt8) (line : Nat) (o rest : List UInt8) (l' : Nat), r.length ≤ n → textGo r out line = some (o, rest, l') →
    (∃ k, 0 < k ∧ k ≤ r.length ∧ rest = r.drop k ∧ l' = line + nl (r.take k)) ∧ textGo (r ++ X) out line = some (o, rest ++ X, l') := by
  intro n
  induction n with
  | zero =>
    intro r out line o rest l' hn h
    obtain rfl : r = [] := List.eq_nil_of_length_eq_zero (by omega)
    rw [textGo] at h; cases h
  | succ n ih =>
    intro r out line o rest l' hn h
    cases r with
    | nil => rw [textGo] at h; cases h
    | cons b t =>
      rw [List.cons_append, textGo]
      rw [textGo] at h
      by_cases h1 : b.toNat = 10 ∨ 1024 < out.length
      · rw [if_pos h1] at h; cases h
      · rw [if_neg h1] at h ⊢
        have hb : b ≠ 10 := by rintro rfl; exact h1 (.inl rfl)
        by_cases h2 : b.toNat = 34
        · rw [if_pos h2] at h ⊢
          cases h
          exact ⟨⟨1, by omega, by simp, rfl, by simp [hb, nl]⟩, rfl⟩
        · rw [if_neg h2] at h ⊢
          by_cases h3 : b.toNat = 92 ∧ t ≠ []
          · rw [dif_pos h3] at h
            have hl := esc_len t h3.2
            have hd : (t.drop (esc t).2.1).length ≤ n := by rw [List.length_drop]; rw [List.length_cons] at hn; omega
            obtain ⟨⟨k, hk0, hk1, hk2, hk3⟩, hX⟩ := ih _ _ _ _ _ _ hd h
            rw [List.length_drop] at hk1
            have he : (esc t).2.1 < t.length := by omega
            have h4 : b.toNat = 92 ∧ t ++ X ≠ [] := ⟨h3.1, fun e => h3.2 (List.append_eq_nil_iff.1 e).1⟩
            rw [dif_pos h4, esc_app t X h3.2 he, drop_app _ _ _ (Nat.le_of_lt he)]
            refine ⟨⟨1 + ((esc t).2.1 + k), by omega, by rw [List.length_cons]; omega, ?_, ?_⟩, hX⟩
            · rw [hk2, List.drop_drop, Nat.add_comm 1, List.drop_succ_cons]
            · rw [hk3, esc_nl, Nat.add_comm 1, List.take_succ_cons, nl_cons, if_neg hb, take_add, nl_app]; omega
          · rw [dif_neg h3] at h
            by_cases h5 : t = []
            · subst h5; rw [textGo] at h; cases h
            · have h6 : ¬ (b.toNat = 92 ∧ t ++ X ≠ []) := fun h7 => h3 ⟨h7.1, h5⟩
              rw [dif_neg h6]
              obtain ⟨⟨k, hk0, hk1, hk2, hk3⟩, hX⟩ := ih t _ _ _ _ _ (by rw [List.length_cons] at hn; omega) h
              refine ⟨⟨1 + k, by omega, by rw [List.length_cons]; omega, ?_, ?_⟩, hX⟩
              · rw [hk2, Nat.add_comm 1, List.drop_succ_cons]
              · rw [hk3, Nat.add_comm 1, List.take_succ_cons, nl_cons, if_neg hb]; omega

theorem slashGo_ok (X : List UInt8) : ∀ (n : Nat) (r out : List UInt8) (o rest : List UInt8), r.length ≤ n → slashGo r out = some (o, rest) →
    (∃ k, 0 < k ∧ k ≤ r.length ∧ rest = r.drop k ∧ nl (r.take k) = 0) ∧ slashGo (r ++ X) out = some (o, rest ++ X) := by
  intro n
  induction n with
  | zero =>
    intro r out o rest hn h
    obtain rfl : r = [] := List.eq_nil_of_length_eq_zero (by omega)
    cases h
  | succ n ih =>
    intro r out o rest hn h
    cases r with
    | nil => cases h
    | cons b t =>
      rw [List.cons_append, slashGo_cons]
      rw [slashGo_cons] at h
      rw [List.length_cons] at hn
      by_cases h1 : b.toNat = 10
      · rw [if_pos h1] at h; cases h
      · rw [if_neg h1] at h ⊢
        have hb : b ≠ 10 := by rintro rfl; exact h1 rfl
        by_cases h2 : b.toNat = 47
        · rw [if_pos h2] at h ⊢
          cases h
          exact ⟨⟨1, by omega, by simp, rfl, by simp [hb, nl]⟩, rfl⟩
        · rw [if_neg h2] at h ⊢
          by_cases h3 : b.toNat = 92
          · rw [if_pos h3] at h ⊢
            cases t with
            | nil => cases h
            | cons c u =>
              simp only [] at h
              show _ ∧ (if c.toNat = 10 then none else _) = _
              by_cases h4 : c.toNat = 10
              · rw [if_pos h4] at h; cases h
              · rw [if_neg h4] at h ⊢
                have hc : c ≠ 10 := by rintro rfl; exact h4 rfl
                rw [List.length_cons] at hn
                obtain ⟨⟨k, hk0, hk1, hk2, hk3⟩, hX⟩ := ih u _ _ _ (by omega) h
                refine ⟨⟨k + 2, by omega, by simp only [List.length_cons]; omega, by rw [hk2]; rfl, ?_⟩, hX⟩
                rw [List.take_succ_cons, List.take_succ_cons, nl_cons, nl_cons, hk3, if_neg hb, if_neg hc]
          · rw [if_neg h3] at h ⊢
            obtain ⟨⟨k, hk0, hk1, hk2, hk3⟩, hX⟩ := ih t _ _ _ (by omega) h
            refine ⟨⟨k + 1, by omega, by simp only [List.length_cons]; omega, by rw [hk2]; rfl, ?_⟩, hX⟩
            rw [List.take_succ_cons, nl_cons, hk3, if_neg hb]

end Go.Proofs.YtifcibbhblhfiaaGreatDoor
