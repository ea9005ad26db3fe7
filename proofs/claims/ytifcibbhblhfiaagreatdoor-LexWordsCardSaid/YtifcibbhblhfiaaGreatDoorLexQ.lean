/- Plain laws of the tokens: one step, all steps; two texts one behind the other. -/
import Derived.Test.YtifcibbhblhfiaaGreatDoorLexP
namespace Go.Proofs.YtifcibbhblhfiaaGreatDoor
open Go.RowKit Pl
set_option linter.unusedVariables false

theorem signs_ok : signsL.all (fun t => decide (0 < t.size) && (bl t).all (fun c => c != 10)) = true := by decide +kernel
theorem sign_mem {r : List UInt8} {t : ByteArray} (h : signOf r = some t) : 0 < t.size ∧ (∀ c ∈ bl t, c ≠ 10) ∧ Lib.hasPrefix r (bl t) = true := by
  have h1 := List.mem_of_find?_eq_some h
  have h2 := List.all_eq_true.1 signs_ok t h1
  rw [Bool.and_eq_true] at h2
  refine ⟨of_decide_eq_true h2.1, fun c hc => ?_, by simpa using List.find?_some h⟩
  have := List.all_eq_true.1 h2.2 c hc
  simpa using this
theorem signOf_app (l b : List UInt8) : signOf (l ++ 10 :: b) = signOf l := by
  unfold signOf
  refine Lib.find_congr fun t ht => ?_
  have h2 := List.all_eq_true.1 signs_ok t ht
  rw [Bool.and_eq_true] at h2
  exact hp_app _ (fun c hc => by have := List.all_eq_true.1 h2.2 c hc; simpa using this) l b

theorem wordKind_of (r : List UInt8) : wordKind r = 6 ∨ wordKind r = 2 ∨ wordKind r = 1 := by
  unfold wordKind
  split
  · exact .inl rfl
  · split
    · exact .inr (.inl rfl)
    · exact .inr (.inr rfl)

theorem sign92 : signOf [92] = none ∧ signOf [92, 13] = none := by decide +kernel
theorem at92 (r : List UInt8) (h : r = [92] ∨ r = [92, 13]) : signOf r = none ∧ isFirst (byt r 0) = false ∧ numL r = none ∧ byt r 0 = 92 := by
  rcases h with rfl | rfl
  · exact ⟨sign92.1, by decide, rfl, rfl⟩
  · exact ⟨sign92.2, by decide, rfl, rfl⟩

theorem hp_cons (c : UInt8) (l : List UInt8) (d : UInt8) (t : List UInt8) : Lib.hasPrefix (c :: l) (d :: t) = ((d == c) && Lib.hasPrefix l t) := rfl
theorem hp_nil (l : List UInt8) : Lib.hasPrefix l [] = true := by cases l <;> rfl
theorem hp_nil2 (d : UInt8) (t : List UInt8) : Lib.hasPrefix [] (d :: t) = false := rfl

theorem hp_new {r b : List UInt8} (h0 : r ≠ []) (h4 : ¬ (Lib.hasPrefix r [92, 10] = true ∨ Lib.hasPrefix r [92, 13, 10] = true))
    (h6 : Lib.hasPrefix (r ++ 10 :: b) [92, 10] = true ∨ Lib.hasPrefix (r ++ 10 :: b) [92, 13, 10] = true) : r = [92] ∨ r = [92, 13] := by
  cases r with
  | nil => exact absurd rfl h0
  | cons c r =>
    cases r with
    | nil =>
      left
      have : ((92 : UInt8) == c) = true := by
        rcases h6 with h | h
        · rw [List.cons_append, hp_cons, Bool.and_eq_true] at h; exact h.1
        · rw [List.cons_append, hp_cons, Bool.and_eq_true] at h; exact h.1
      rw [← eq_of_beq this]
    | cons d r =>
      cases r with
      | nil =>
        rw [List.cons_append, List.cons_append, hp_cons, hp_cons, hp_cons, hp_cons, hp_nil] at h6
        rw [hp_cons, hp_cons, hp_cons, hp_cons, hp_nil, hp_nil2] at h4
        simp only [Bool.and_eq_true, Bool.and_false, Bool.false_eq_true, or_false, and_true, not_and] at h4 h6
        rcases h6 with ⟨h, h2⟩ | ⟨h, h2, _⟩
        · exact absurd h2 (h4 h)
        · right; rw [← eq_of_beq h, ← eq_of_beq h2]
      | cons e u =>
        exfalso; apply h4
        simp only [List.cons_append, hp_cons, hp_nil] at h6 ⊢
        exact h6

/-- What an outcome of one step says. -/
def StepOk (r : List UInt8) (line : Nat) (T : List Tk) : Res → Prop
  | .err l e => l = line ∧ e ≠ 0
  | .ok r' l' T' => ∃ k, 0 < k ∧ k ≤ r.length ∧ r' = r.drop k ∧ l' = line + nl (r.take k) ∧ (T' = T ∨ ∃ t, T' = T ++ [t] ∧ t.line = line ∧ t.kind ≠ 9 ∧ (t.kind = 8 → nl (r.take k) = 1))

theorem stepOk_tok {r : List UInt8} {line k kd x : Nat} {T : List Tk} {tx : ByteArray} (h0 : 0 < k) (h1 : k ≤ r.length) (h2 : nl (r.take k) = 0) (hk : kd ≠ 9) (hk8 : kd ≠ 8) : StepOk r line T (.ok (r.drop k) line (T ++ [⟨kd, tx, x, line⟩])) :=
  ⟨k, h0, h1, rfl, by rw [h2]; rfl, .inr ⟨⟨kd, tx, x, line⟩, rfl, rfl, hk, fun h => absurd h hk8⟩⟩

theorem prefix_take {r t : List UInt8} (h : Lib.hasPrefix r t = true) : r.take t.length = t ∧ t.length ≤ r.length := by
  have h := List.isPrefixOf_iff_prefix.1 h
  exact ⟨(List.prefix_iff_eq_take.1 h).symm, h.length_le⟩

theorem nl_one {r : List UInt8} (h : r ≠ []) (hb : byt r 0 ≠ 10) : nl (r.take 1) = 0 := by
  cases r with
  | nil => exact absurd rfl h
  | cons c r =>
    have hc : c ≠ 10 := by rintro rfl; exact hb rfl
    rw [List.take_succ_cons, List.take_zero, nl_cons, if_neg hc]; rfl

theorem tok_ok {r : List UInt8} (line : Nat) (T : List Tk) (h0 : r ≠ []) : StepOk r line T (tokR r line T) := by
  have hlen : 0 < r.length := List.length_pos_iff.2 h0
  unfold tokR
  by_cases h1 : byt r 0 = 32 ∨ byt r 0 = 9 ∨ byt r 0 = 13
  · rw [if_pos h1]
    exact ⟨1, by omega, hlen, rfl, by rw [nl_one h0 (by omega)]; rfl, .inl rfl⟩
  · rw [if_neg h1]
    by_cases h2 : byt r 0 = 10
    · rw [if_pos h2]
      have h3 : nl (r.take 1) = 1 := by
        cases r with
        | nil => exact absurd rfl h0
        | cons c r =>
          have hc : c = 10 := UInt8.toNat_inj.1 h2
          rw [hc]; rfl
      exact ⟨1, by omega, hlen, rfl, by rw [h3], .inr ⟨_, rfl, rfl, by simp, fun _ => h3⟩⟩
    · rw [if_neg h2]
      by_cases h3 : byt r 0 = 35
      · rw [if_pos h3]
        by_cases h4 : Lib.indexByte r 10 < 0
        · rw [if_pos h4]
          exact ⟨r.length, hlen, Nat.le_refl _, rfl, by rw [List.take_length, nl_zero (fun c hc e => ix_none h4 (e ▸ hc))]; rfl, .inl rfl⟩
        · rw [if_neg h4]
          obtain ⟨a, b, hab, hn, hi⟩ := ix_some (Int.not_lt.1 h4)
          rw [hi]
          have ha : 0 < a.length := by
            cases a with
            | nil =>
              rw [hab] at h3
              have h3 : (10 : Nat) = 35 := h3
              omega
            | cons c a => simp
          refine ⟨a.length, ha, by rw [hab]; simp, rfl, ?_, .inl rfl⟩
          rw [hab, take_app _ _ _ (Nat.le_refl _), List.take_length, nl_zero (fun c hc e => hn (e ▸ hc))]; rfl
      · rw [if_neg h3]
        by_cases h4 : Lib.hasPrefix r [92, 10] = true ∨ Lib.hasPrefix r [92, 13, 10] = true
        · rw [if_pos h4]
          rcases h4 with h4 | h4
          · obtain ⟨t, rfl⟩ := List.isPrefixOf_iff_prefix.1 h4
            refine ⟨2, by omega, by simp, rfl, ?_, .inl rfl⟩
            show line + 1 = line + nl [92, 10]
            rfl
          · obtain ⟨t, rfl⟩ := List.isPrefixOf_iff_prefix.1 h4
            refine ⟨3, by omega, by simp, rfl, ?_, .inl rfl⟩
            show line + 1 = line + nl [92, 13, 10]
            rfl
        · rw [if_neg h4]
          by_cases h5 : isFirst (byt r 0) = true
          · rw [if_pos h5]
            unfold wordR
            have hk := wordKind_of r
            exact stepOk_tok (wordN_pos h0 h5) (wordN_le r) (word_nl r) (by omega) (by omega)
          · rw [if_neg h5]
            unfold numR
            cases hN : numL r with
            | some xn =>
              obtain ⟨x, n⟩ := xn
              have hn : 0 < n ∧ n = (literal r).2 := by
                unfold numL at hN
                split at hN
                · cases hN
                · split at hN
                  · cases hN
                  · have h9 := (congrArg Prod.snd (Option.some.inj hN)).symm
                    have h9 : n = (literal r).2 := h9
                    exact ⟨by omega, h9⟩
              show StepOk r line T (numberR x n r line T)
              unfold numberR
              split
              · exact ⟨rfl, by decide⟩
              · refine stepOk_tok hn.1 (by rw [hn.2]; exact literal_le r) (by rw [hn.2]; exact literal_nl r) (by decide) (by decide)
            | none =>
              show StepOk r line T (restR r line T)
              unfold restR
              obtain ⟨c, u, rfl⟩ : ∃ c u, r = c :: u := by
                cases r with
                | nil => exact absurd rfl h0
                | cons c u => exact ⟨c, u, rfl⟩
              have hc : c ≠ 10 := by rintro rfl; exact h2 rfl
              have hd1 : (c :: u).drop 1 = u := rfl
              rw [hd1]
              split
              · unfold textR
                cases hg : textGo u [] line with
                | none => exact ⟨rfl, by decide⟩
                | some x =>
                  obtain ⟨o, rest, l'⟩ := x
                  show StepOk _ _ _ (if 1024 < o.length then _ else _)
                  split
                  · exact ⟨rfl, by decide⟩
                  · obtain ⟨⟨k, k0, k1, k2, k3⟩, _⟩ := textGo_ok [] _ u [] line o rest l' (Nat.le_refl _) hg
                    exact ⟨k + 1, by omega, by simp only [List.length_cons]; omega, by rw [k2]; rfl, by rw [k3, List.take_succ_cons, nl_cons, if_neg hc]; rfl, .inr ⟨_, rfl, rfl, by simp, fun h => by simp at h⟩⟩
              · split
                · unfold slashR
                  cases hg : slashGo u [] with
                  | none => exact ⟨rfl, by decide⟩
                  | some x =>
                    obtain ⟨o, rest⟩ := x
                    show StepOk _ _ _ (if 1024 < o.length then _ else _)
                    split
                    · exact ⟨rfl, by decide⟩
                    · obtain ⟨⟨k, k0, k1, k2, k3⟩, _⟩ := slashGo_ok [] _ u [] o rest (Nat.le_refl _) hg
                      exact ⟨k + 1, by omega, by simp only [List.length_cons]; omega, by rw [k2]; rfl, by rw [List.take_succ_cons, nl_cons, if_neg hc, k3]; rfl, .inr ⟨_, rfl, rfl, by simp, fun h => by simp at h⟩⟩
                · unfold signR
                  cases hs : signOf (c :: u) with
                  | none => exact ⟨rfl, by decide⟩
                  | some t =>
                    obtain ⟨m1, m2, m3⟩ := sign_mem hs
                    obtain ⟨p1, p2⟩ := prefix_take m3
                    rw [bl_len] at p1 p2
                    exact stepOk_tok m1 p2 (by rw [p1]; exact nl_zero m2) (by decide) (by decide)

theorem numL_app (r b : List UInt8) (h0 : r ≠ []) : numL (r ++ 10 :: b) = numL r := by
  unfold numL
  rw [literal_app, byt_app _ _ _ (List.length_pos_iff.2 h0)]

theorem hp_cont {r b : List UInt8} {t : List UInt8} (h : Lib.hasPrefix r t = true) : Lib.hasPrefix (r ++ b) t = true := by
  obtain ⟨u, rfl⟩ := List.isPrefixOf_iff_prefix.1 h
  exact List.isPrefixOf_iff_prefix.2 ⟨u ++ b, by simp⟩

theorem isWord_toks : True := trivial

/-- A step that goes well goes the same way where an end of a line and more stand behind. -/
theorem tok_app {r b r' : List UInt8} {line l' : Nat} {T T' : List Tk} (h0 : r ≠ []) (h : tokR r line T = .ok r' l' T') : tokR (r ++ 10 :: b) line T = .ok (r' ++ 10 :: b) l' T' := by
  have hlen : 0 < r.length := List.length_pos_iff.2 h0
  have hb0 : byt (r ++ 10 :: b) 0 = byt r 0 := byt_app _ _ _ hlen
  unfold tokR at h ⊢
  rw [hb0]
  by_cases h1 : byt r 0 = 32 ∨ byt r 0 = 9 ∨ byt r 0 = 13
  · rw [if_pos h1] at h ⊢; cases h; rw [drop_app _ _ _ hlen]
  · rw [if_neg h1] at h ⊢
    by_cases h2 : byt r 0 = 10
    · rw [if_pos h2] at h ⊢; cases h; rw [drop_app _ _ _ hlen]
    · rw [if_neg h2] at h ⊢
      by_cases h3 : byt r 0 = 35
      · rw [if_pos h3] at h ⊢
        cases h
        by_cases h4 : Lib.indexByte r 10 < 0
        · have := ix_app (b := b) (ix_none h4)
          rw [if_pos h4, this, if_neg (by omega), Int.toNat_natCast, drop_app _ _ _ (Nat.le_refl _)]
        · obtain ⟨a, c, hac, hn, hi⟩ := ix_some (Int.not_lt.1 h4)
          have h5 : Lib.indexByte (r ++ 10 :: b) 10 = a.length := by rw [hac, List.append_assoc]; exact ix_app hn
          rw [if_neg h4, h5, if_neg (by omega), Int.toNat_natCast, hi, drop_app _ _ _ (by rw [hac]; simp)]
      · rw [if_neg h3] at h ⊢
        by_cases h4 : Lib.hasPrefix r [92, 10] = true ∨ Lib.hasPrefix r [92, 13, 10] = true
        · have h5 : Lib.hasPrefix (r ++ 10 :: b) [92, 10] = true ∨ Lib.hasPrefix (r ++ 10 :: b) [92, 13, 10] = true := h4.imp hp_cont hp_cont
          rw [if_pos h4] at h
          rw [if_pos h5]
          cases h
          obtain ⟨a, c, hac, hn, hi⟩ := ix_some (idx_cont r h4)
          have h6 : Lib.indexByte (r ++ 10 :: b) 10 = a.length := by rw [hac, List.append_assoc]; exact ix_app hn
          rw [h6, Int.toNat_natCast, hi, drop_app _ _ _ (by rw [hac]; simp)]
        · rw [if_neg h4] at h
          by_cases h6 : Lib.hasPrefix (r ++ 10 :: b) [92, 10] = true ∨ Lib.hasPrefix (r ++ 10 :: b) [92, 13, 10] = true
          · -- the text ends in a backslash, or one and a return: it is no sign
            exfalso
            obtain ⟨x1, x2, x3, x4⟩ := at92 r (hp_new h0 h4 h6)
            rw [if_neg (by rw [x2]; simp)] at h
            unfold numR restR signR at h
            rw [x3, x1, if_neg (by omega), if_neg (by omega)] at h
            cases h
          · rw [if_neg h6]
            by_cases h5 : isFirst (byt r 0) = true
            · rw [if_pos h5] at h ⊢
              unfold wordR at h ⊢
              cases h
              rw [wordN_app, wordKind_app, drop_app _ _ _ (wordN_le r), take_app _ _ _ (wordN_le r)]
            · rw [if_neg h5] at h ⊢
              unfold numR at h ⊢
              rw [numL_app _ _ h0]
              cases hN : numL r with
              | some xn =>
                obtain ⟨x, n⟩ := xn
                rw [hN] at h
                have h : numberR x n r line T = .ok r' l' T' := h
                show numberR x n (r ++ 10 :: b) line T = _
                have hn : n ≤ r.length := by
                  unfold numL at hN
                  split at hN
                  · cases hN
                  · split at hN
                    · cases hN
                    · have h9 : n = (literal r).2 := (congrArg Prod.snd (Option.some.inj hN)).symm
                      rw [h9]; exact literal_le r
                unfold numberR at h ⊢
                split at h
                · cases h
                · rename_i hg
                  rw [if_neg hg]
                  cases h
                  rw [drop_app _ _ _ hn]
              | none =>
                rw [hN] at h
                have h : restR r line T = .ok r' l' T' := h
                show restR (r ++ 10 :: b) line T = _
                unfold restR at h ⊢
                rw [hb0, drop_app _ _ _ hlen]
                by_cases h7 : byt r 0 = 34
                · rw [if_pos h7] at h ⊢
                  unfold textR at h ⊢
                  cases hg : textGo (r.drop 1) [] line with
                  | none => rw [hg] at h; cases h
                  | some x =>
                    obtain ⟨o, rest, ln⟩ := x
                    rw [hg] at h
                    rw [(textGo_ok (10 :: b) _ _ _ _ _ _ _ (Nat.le_refl _) hg).2]
                    have h : (if 1024 < o.length then Res.err line 201 else .ok rest ln _) = .ok r' l' T' := h
                    show (if 1024 < o.length then Res.err line 201 else .ok (rest ++ 10 :: b) ln _) = _
                    split at h
                    · cases h
                    · rename_i hg2; rw [if_neg hg2]; cases h; rfl
                · rw [if_neg h7] at h ⊢
                  by_cases h8 : byt r 0 = 47 ∧ divides T = false
                  · rw [if_pos h8] at h ⊢
                    unfold slashR at h ⊢
                    cases hg : slashGo (r.drop 1) [] with
                    | none => rw [hg] at h; cases h
                    | some x =>
                      obtain ⟨o, rest⟩ := x
                      rw [hg] at h
                      rw [(slashGo_ok (10 :: b) _ _ _ _ _ (Nat.le_refl _) hg).2]
                      have h : (if 1024 < o.length then Res.err line 202 else .ok rest line _) = .ok r' l' T' := h
                      show (if 1024 < o.length then Res.err line 202 else .ok (rest ++ 10 :: b) line _) = _
                      split at h
                      · cases h
                      · rename_i hg2; rw [if_neg hg2]; cases h; rfl
                  · rw [if_neg h8] at h ⊢
                    unfold signR at h ⊢
                    rw [signOf_app]
                    cases hs : signOf r with
                    | none => rw [hs] at h; cases h
                    | some t =>
                      rw [hs] at h
                      have h : Res.ok (r.drop t.size) line _ = .ok r' l' T' := h
                      cases h
                      obtain ⟨m1, m2, m3⟩ := sign_mem hs
                      have p2 := (prefix_take m3).2
                      rw [bl_len] at p2
                      show Res.ok ((r ++ 10 :: b).drop t.size) line _ = _
                      rw [drop_app _ _ _ p2]

/-! ### Lines moved on -/
def sh (n : Nat) (t : Tk) : Tk := { t with line := t.line + n }
def Res.shift (n : Nat) (P : List Tk) : Res → Res
  | .err l e => .err (l + n) e
  | .ok r l T => .ok r (l + n) (P ++ T.map (sh n))

theorem divides_shift (n : Nat) (P T : List Tk) (hP : divides P = false) : divides (P ++ T.map (sh n)) = divides T := by
  cases hT : T.getLast? with
  | none =>
    have : T = [] := by simpa using hT
    subst this
    rw [List.map_nil, List.append_nil, hP]; rfl
  | some t =>
    unfold divides
    rw [List.getLast?_append, List.getLast?_map, hT]; rfl

theorem textGo_shift (n : Nat) : ∀ (m : Nat) (r out : List UInt8) (line : Nat), r.length ≤ m → textGo r out (line + n) = (textGo r out line).map (fun x => (x.1, x.2.1, x.2.2 + n)) := by
  intro m
  induction m with
  | zero =>
    intro r out line hm
    obtain rfl : r = [] := List.eq_nil_of_length_eq_zero (by omega)
    rw [textGo, textGo]; rfl
  | succ m ih =>
    intro r out line hm
    cases r with
    | nil => rw [textGo, textGo]; rfl
    | cons b t =>
      rw [List.length_cons] at hm
      rw [textGo]
      conv => rhs; rw [textGo]
      by_cases h1 : b.toNat = 10 ∨ 1024 < out.length
      · rw [if_pos h1, if_pos h1]; rfl
      · rw [if_neg h1, if_neg h1]
        by_cases h2 : b.toNat = 34
        · rw [if_pos h2, if_pos h2]; rfl
        · rw [if_neg h2, if_neg h2]
          by_cases h3 : b.toNat = 92 ∧ t ≠ []
          · rw [dif_pos h3, dif_pos h3, Nat.add_right_comm]
            exact ih _ _ _ (by rw [List.length_drop]; omega)
          · rw [dif_neg h3, dif_neg h3]
            exact ih _ _ _ (by omega)

theorem sh_app (n : Nat) (P T : List Tk) (k : Nat) (tx : ByteArray) (x line : Nat) : P ++ T.map (sh n) ++ [(⟨k, tx, x, line + n⟩ : Tk)] = P ++ (T ++ [(⟨k, tx, x, line⟩ : Tk)]).map (sh n) := by
  rw [List.map_append, List.append_assoc]; rfl

theorem num_shift (n : Nat) (P T : List Tk) (hP : divides P = false) (r : List UInt8) (line : Nat) : numR r (line + n) (P ++ T.map (sh n)) = (numR r line T).shift n P := by
  unfold numR
  cases numL r with
  | some xn =>
    obtain ⟨x, m⟩ := xn
    show numberR x m r (line + n) _ = (numberR x m r line T).shift n P
    unfold numberR
    by_cases h : fgt x 9218868437227405311 = true
    · rw [if_pos h, if_pos h]; rfl
    · rw [if_neg h, if_neg h, sh_app]; rfl
  | none =>
    show restR r (line + n) _ = (restR r line T).shift n P
    unfold restR
    rw [divides_shift n P T hP]
    by_cases h1 : byt r 0 = 34
    · rw [if_pos h1, if_pos h1]
      unfold textR
      rw [textGo_shift n _ _ _ _ (Nat.le_refl _)]
      cases textGo (r.drop 1) [] line with
      | none => rfl
      | some x =>
        obtain ⟨o, rest, ln⟩ := x
        show (if 1024 < o.length then Res.err (line + n) 201 else .ok rest (ln + n) (P ++ T.map (sh n) ++ [⟨4, ⟨o.toArray⟩, 0, line + n⟩])) = Res.shift n P (if 1024 < o.length then Res.err line 201 else .ok rest ln (T ++ [⟨4, ⟨o.toArray⟩, 0, line⟩]))
        by_cases h2 : 1024 < o.length
        · rw [if_pos h2, if_pos h2]; rfl
        · rw [if_neg h2, if_neg h2, sh_app]; rfl
    · rw [if_neg h1, if_neg h1]
      by_cases h3 : byt r 0 = 47 ∧ divides T = false
      · rw [if_pos h3, if_pos h3]
        unfold slashR
        cases slashGo (r.drop 1) [] with
        | none => rfl
        | some x =>
          obtain ⟨o, rest⟩ := x
          show (if 1024 < o.length then Res.err (line + n) 202 else .ok rest (line + n) (P ++ T.map (sh n) ++ [⟨5, ⟨o.toArray⟩, 0, line + n⟩])) = Res.shift n P (if 1024 < o.length then Res.err line 202 else .ok rest line (T ++ [⟨5, ⟨o.toArray⟩, 0, line⟩]))
          by_cases h2 : 1024 < o.length
          · rw [if_pos h2, if_pos h2]; rfl
          · rw [if_neg h2, if_neg h2, sh_app]; rfl
      · rw [if_neg h3, if_neg h3]
        unfold signR
        cases signOf r with
        | none => rfl
        | some t =>
          show Res.ok _ _ (P ++ T.map (sh n) ++ [(⟨7, t, 0, line + n⟩ : Tk)]) = _
          rw [sh_app]; rfl

theorem tok_shift (n : Nat) (P T : List Tk) (hP : divides P = false) (r : List UInt8) (line : Nat) : tokR r (line + n) (P ++ T.map (sh n)) = (tokR r line T).shift n P := by
  unfold tokR
  by_cases h1 : byt r 0 = 32 ∨ byt r 0 = 9 ∨ byt r 0 = 13
  · rw [if_pos h1, if_pos h1]; rfl
  · rw [if_neg h1, if_neg h1]
    by_cases h2 : byt r 0 = 10
    · rw [if_pos h2, if_pos h2, sh_app, Nat.add_right_comm]; rfl
    · rw [if_neg h2, if_neg h2]
      by_cases h3 : byt r 0 = 35
      · rw [if_pos h3, if_pos h3]; rfl
      · rw [if_neg h3, if_neg h3]
        by_cases h4 : Lib.hasPrefix r [92, 10] = true ∨ Lib.hasPrefix r [92, 13, 10] = true
        · rw [if_pos h4, if_pos h4, Nat.add_right_comm]; rfl
        · rw [if_neg h4, if_neg h4]
          by_cases h5 : isFirst (byt r 0) = true
          · rw [if_pos h5, if_pos h5]
            unfold wordR; rw [sh_app]; rfl
          · rw [if_neg h5, if_neg h5]
            exact num_shift n P T hP r line

/-! ### All steps -/
def scanF : Nat → List UInt8 → Nat → List Tk → Res
  | 0, r, line, T => .ok r line T
  | _ + 1, [], line, T => .ok [] line T
  | f + 1, c :: r, line, T => match tokR (c :: r) line T with
    | .err l e => .err l e
    | .ok r' l' T' => scanF f r' l' T'
/-- The tokens of a text, but for the end. -/
def scanL (l : List UInt8) : Res := scanF l.length l 1 []

theorem scanF_nil (f line : Nat) (T : List Tk) : scanF f [] line T = .ok [] line T := by cases f <;> rfl

theorem scanF_fuel : ∀ (f g : Nat) (r : List UInt8) (line : Nat) (T : List Tk), r.length ≤ f → r.length ≤ g → scanF f r line T = scanF g r line T := by
  intro f
  induction f with
  | zero =>
    intro g r line T hf hg
    obtain rfl : r = [] := List.eq_nil_of_length_eq_zero (by omega)
    rw [scanF_nil, scanF_nil]
  | succ f ih =>
    intro g r line T hf hg
    cases r with
    | nil => rw [scanF_nil, scanF_nil]
    | cons c r =>
      cases g with
      | zero => simp at hg
      | succ g =>
        rw [scanF, scanF]
        have hk := tok_ok line T (List.cons_ne_nil c r)
        cases ht : tokR (c :: r) line T with
        | err l e => rfl
        | ok r' l' T' =>
          rw [ht] at hk
          obtain ⟨k, k0, k1, k2, _⟩ := hk
          have hl : r'.length + k = (c :: r).length := by rw [k2, List.length_drop]; omega
          exact ih g r' l' T' (by rw [List.length_cons] at *; omega) (by rw [List.length_cons] at *; omega)

theorem scanF_step {f : Nat} {r : List UInt8} {line : Nat} {T : List Tk} (h0 : r ≠ []) (hf : r.length ≤ f) : scanF f r line T = match tokR r line T with
    | .err l e => .err l e
    | .ok r' l' T' => scanF f r' l' T' := by
  cases r with
  | nil => exact absurd rfl h0
  | cons c r =>
    cases f with
    | zero => simp at hf
    | succ f =>
      rw [scanF]
      have hk := tok_ok line T (List.cons_ne_nil c r)
      cases ht : tokR (c :: r) line T with
      | err l e => rfl
      | ok r' l' T' =>
        rw [ht] at hk
        obtain ⟨k, k0, k1, k2, _⟩ := hk
        have hl : r'.length + k = (c :: r).length := by rw [k2, List.length_drop]; omega
        exact scanF_fuel _ _ _ _ _ (by rw [List.length_cons] at *; omega) (by rw [List.length_cons] at *; omega)

theorem scanF_app (b : List UInt8) : ∀ (m f : Nat) (r : List UInt8) (line l' : Nat) (T T' : List Tk) (z : List UInt8), r.length ≤ m → (r ++ 10 :: b).length ≤ f → scanF f r line T = .ok z l' T' → scanF f (r ++ 10 :: b) line T = scanF f (10 :: b) l' T' := by
  intro m
  induction m with
  | zero =>
    intro f r line l' T T' z hm hf h
    obtain rfl : r = [] := List.eq_nil_of_length_eq_zero (by omega)
    rw [scanF_nil] at h; cases h; rfl
  | succ m ih =>
    intro f r line l' T T' z hm hf h
    by_cases h0 : r = []
    · subst h0; rw [scanF_nil] at h; cases h; rfl
    · have hrl : r.length ≤ f := by rw [List.length_append] at hf; omega
      rw [scanF_step h0 hrl] at h
      rw [scanF_step (by simp) hf]
      have hk := tok_ok line T h0
      cases ht : tokR r line T with
      | err l e => rw [ht] at h; cases h
      | ok r' l2 T2 =>
        rw [ht] at h hk
        rw [tok_app h0 ht]
        obtain ⟨k, k0, k1, k2, _⟩ := hk
        have hl : r'.length + k = r.length := by rw [k2, List.length_drop]; omega
        exact ih f r' l2 l' T2 T' z (by omega) (by rw [List.length_append] at hf ⊢; omega) h

theorem scanF_shift (n : Nat) (P : List Tk) (hP : divides P = false) : ∀ (m f : Nat) (r : List UInt8) (line : Nat) (T : List Tk), r.length ≤ m → r.length ≤ f → scanF f r (line + n) (P ++ T.map (sh n)) = (scanF f r line T).shift n P := by
  intro m
  induction m with
  | zero =>
    intro f r line T hm hf
    obtain rfl : r = [] := List.eq_nil_of_length_eq_zero (by omega)
    rw [scanF_nil, scanF_nil]; rfl
  | succ m ih =>
    intro f r line T hm hf
    by_cases h0 : r = []
    · subst h0; rw [scanF_nil, scanF_nil]; rfl
    · rw [scanF_step h0 hf, scanF_step h0 hf, tok_shift n P T hP]
      have hk := tok_ok line T h0
      cases ht : tokR r line T with
      | err l e => rfl
      | ok r' l2 T2 =>
        rw [ht] at hk
        obtain ⟨k, k0, k1, k2, _⟩ := hk
        have hl : r'.length + k = r.length := by rw [k2, List.length_drop]; omega
        exact ih f r' l2 T2 (by omega) (by omega)

/-- **Two texts with an end of a line between.** -/
theorem scan_join (a b : List UInt8) {z : List UInt8} {n : Nat} {T : List Tk} (h : scanL a = .ok z n T) : scanL (a ++ 10 :: b) = (scanL b).shift n (T ++ [⟨8, ⟨#[]⟩, 0, n⟩]) := by
  unfold scanL at h ⊢
  have hl : (a ++ 10 :: b).length = a.length + b.length + 1 := by rw [List.length_append, List.length_cons]; omega
  rw [hl]
  have h1 : scanF (a.length + b.length + 1) a 1 [] = .ok z n T := by rw [← h]; exact scanF_fuel _ _ _ _ _ (by omega) (Nat.le_refl _)
  rw [scanF_app b _ _ _ _ _ _ _ _ (Nat.le_refl _) (by rw [hl]; exact Nat.le_refl _) h1]
  rw [scanF_step (by simp) (by rw [List.length_cons]; omega)]
  have ht : tokR (10 :: b) n T = .ok b (n + 1) (T ++ [⟨8, ⟨#[]⟩, 0, n⟩]) := by
    unfold tokR
    have hb : byt (10 :: b) 0 = 10 := rfl
    rw [hb, if_neg (by decide), if_pos rfl]; rfl
  rw [ht]
  have hP : divides (T ++ [⟨8, ⟨#[]⟩, 0, n⟩]) = false := by unfold divides; rw [List.getLast?_append]; rfl
  have := scanF_shift n (T ++ [⟨8, ⟨#[]⟩, 0, n⟩]) hP b.length (a.length + b.length + 1) b 1 [] (Nat.le_refl _) (by omega)
  rw [List.map_nil, List.append_nil, Nat.add_comm 1] at this
  show scanF _ b (n + 1) _ = _
  rw [this, scanF_fuel (a.length + b.length + 1) b.length b 1 [] (by omega) (Nat.le_refl _)]

end Go.Proofs.YtifcibbhblhfiaaGreatDoor
