/- Plain laws: a string quoted is read as itself; a regular expression that was read, written and read again is the same. -/
import Derived.Test.YtifcibbhblhfiaaDoorLexX
namespace Go.Proofs.YtifcibbhblhfiaaDoor
open Go.RowKit Pl
set_option linter.unusedVariables false

theorem esc_plain {c : UInt8} (r : List UInt8) (h : c.toNat = 34 ∨ c.toNat = 92) : esc (c :: r) = ([c], 1, 0) := by
  have hc : c = 34 ∨ c = 92 := h.imp (fun h => UInt8.toNat_inj.1 h) (fun h => UInt8.toNat_inj.1 h)
  rcases hc with rfl | rfl
  · rw [esc, if_neg (by decide), if_neg (by decide), if_neg (by decide), if_neg (by decide)]
  · rw [esc, if_neg (by decide), if_neg (by decide), if_neg (by decide), if_neg (by decide)]

theorem oct_dig : ∀ a : Fin 8, ¬ (48 + a.val < 48 ∨ hexDig (48 + a.val) < 0 ∨ ((8 : Nat) : Int) ≤ hexDig (48 + a.val)) ∧ (hexDig (48 + a.val)).toNat = a.val := by decide +kernel
theorem oct_byte : ∀ a : Fin 4, ¬ (0 ≤ Lib.indexByte ctlL (48 + a.val).toUInt8) ∧ (48 + a.val).toUInt8 ≠ 10 ∧ (48 + a.val).toUInt8.toNat = 48 + a.val := by decide +kernel
theorem oct_nat : ∀ a : Fin 8, (48 + a.val).toUInt8.toNat = 48 + a.val := by decide +kernel

theorem esc_oct (c : UInt8) (r : List UInt8) : esc ((48 + c.toNat / 64).toUInt8 :: (48 + c.toNat / 8 % 8).toUInt8 :: (48 + c.toNat % 8).toUInt8 :: r) = ([c], 3, 0) := by
  have hc := c.toNat_lt
  obtain ⟨b1, b2, b3⟩ := oct_byte ⟨c.toNat / 64, by omega⟩
  have n1 := oct_nat ⟨c.toNat / 64, by omega⟩
  have n2 := oct_nat ⟨c.toNat / 8 % 8, by omega⟩
  have n3 := oct_nat ⟨c.toNat % 8, by omega⟩
  obtain ⟨d1, e1⟩ := oct_dig ⟨c.toNat / 64, by omega⟩
  obtain ⟨d2, e2⟩ := oct_dig ⟨c.toNat / 8 % 8, by omega⟩
  obtain ⟨d3, e3⟩ := oct_dig ⟨c.toNat % 8, by omega⟩
  simp only [] at b1 b2 b3 n1 n2 n3 d1 d2 d3 e1 e2 e3
  have hd : digL 8 3 ((48 + c.toNat / 64).toUInt8 :: (48 + c.toNat / 8 % 8).toUInt8 :: (48 + c.toNat % 8).toUInt8 :: r) 0 = (c.toNat, 3) := by
    rw [digL, n1, if_neg d1, digL, n2, if_neg d2, digL, n3, if_neg d3, digL, e1, e2, e3]
    simp only [Prod.mk.injEq, and_true]
    omega
  rw [esc, if_neg b1, if_neg b2, if_pos (by rw [b3]; omega), hd]
  simp only [Nat.mod_eq_of_lt hc]
  congr 2
  simp

theorem textGo_quote : ∀ (l out : List UInt8) (line : Nat), out.length + l.length ≤ 1024 → textGo (l.flatMap quoteB ++ [34]) out line = some (out ++ l, [], line) := by
  intro l
  induction l with
  | nil =>
    intro out line h
    rw [List.flatMap_nil, List.nil_append, textGo, if_neg (by simp at h ⊢; omega), if_pos (by decide), List.append_nil]
  | cons c l ih =>
    intro out line h
    rw [List.length_cons] at h
    have hne : l.flatMap quoteB ++ [34] ≠ [] := by simp
    have hrec := ih (out ++ [c]) line (by rw [List.length_append, List.length_singleton]; omega)
    rw [List.append_assoc] at hrec
    have ho : ¬ (1024 < out.length) := by omega
    rw [List.flatMap_cons, List.append_assoc]
    have h92 : (92 : UInt8).toNat = 92 := rfl
    unfold quoteB
    by_cases h1 : c.toNat = 34 ∨ c.toNat = 92
    · rw [if_pos h1]
      show textGo (92 :: c :: (l.flatMap quoteB ++ [34])) out line = _
      rw [textGo, if_neg (by rw [h92]; omega), if_neg (by decide), dif_pos ⟨rfl, by simp⟩, esc_plain _ h1]
      exact hrec
    · rw [if_neg h1]
      by_cases h2 : c.toNat = 10
      · rw [if_pos h2]
        have hc : c = 10 := UInt8.toNat_inj.1 h2
        show textGo (92 :: 110 :: (l.flatMap quoteB ++ [34])) out line = _
        rw [textGo, if_neg (by rw [h92]; omega), if_neg (by decide), dif_pos ⟨rfl, by simp⟩, show esc (110 :: (l.flatMap quoteB ++ [34])) = ([10], 1, 0) by rw [esc, if_pos (by decide)]; rfl]
        rw [hc] at hrec ⊢; exact hrec
      · rw [if_neg h2]
        by_cases h3 : c.toNat = 9
        · rw [if_pos h3]
          have hc : c = 9 := UInt8.toNat_inj.1 h3
          show textGo (92 :: 116 :: (l.flatMap quoteB ++ [34])) out line = _
          rw [textGo, if_neg (by rw [h92]; omega), if_neg (by decide), dif_pos ⟨rfl, by simp⟩, show esc (116 :: (l.flatMap quoteB ++ [34])) = ([9], 1, 0) by rw [esc, if_pos (by decide)]; rfl]
          rw [hc] at hrec ⊢; exact hrec
        · rw [if_neg h3]
          by_cases h4 : c.toNat < 32 ∨ 126 < c.toNat
          · rw [if_pos h4]
            show textGo (92 :: (48 + c.toNat / 64).toUInt8 :: (48 + c.toNat / 8 % 8).toUInt8 :: (48 + c.toNat % 8).toUInt8 :: (l.flatMap quoteB ++ [34])) out line = _
            rw [textGo, if_neg (by rw [h92]; omega), if_neg (by decide), dif_pos ⟨rfl, by simp⟩, esc_oct]
            exact hrec
          · rw [if_neg h4]
            show textGo (c :: (l.flatMap quoteB ++ [34])) out line = _
            rw [textGo, if_neg (by omega), if_neg (by omega), dif_neg (by omega)]
            exact hrec

theorem tok_quote (u : List UInt8) (line : Nat) (T : List Tk) : tokR (34 :: u) line T = textR u line T := by
  unfold tokR numR numL restR
  have hb : byt (34 :: u) 0 = 34 := rfl
  rw [hb, if_neg (by decide), if_neg (by decide), if_neg (by decide), if_neg (by simp [hp_cons]), if_neg (by decide), if_pos (by decide)]
  show (if (34 : Nat) = 34 then _ else _) = _
  rw [if_pos rfl]; rfl
theorem tok_slash (u : List UInt8) (line : Nat) (T : List Tk) (h : divides T = false) : tokR (47 :: u) line T = slashR u line T := by
  unfold tokR numR numL restR
  have hb : byt (47 :: u) 0 = 47 := rfl
  rw [hb, if_neg (by decide), if_neg (by decide), if_neg (by decide), if_neg (by simp [hp_cons]), if_neg (by decide), if_pos (by decide)]
  show (if (47 : Nat) = 34 then _ else _) = _
  rw [if_neg (by decide), if_pos ⟨rfl, h⟩]; rfl

/-- **A string quoted is read as itself.** -/
theorem scan_quote (l : List UInt8) (h : l.length ≤ 1024) : scanL (quoteL l) = .ok [] 1 [⟨4, ⟨l.toArray⟩, 0, 1⟩] := by
  unfold scanL
  rw [show quoteL l = 34 :: (l.flatMap quoteB ++ [34]) from rfl, scanF_step (by simp) (Nat.le_refl _), tok_quote]
  unfold textR
  rw [textGo_quote l [] 1 (by simpa using h)]
  show (match (if 1024 < l.length then Res.err 1 201 else .ok [] 1 ([] ++ [⟨4, ⟨l.toArray⟩, 0, 1⟩])) with | .err l e => Res.err l e | .ok r' l' T' => scanF _ r' l' T') = _
  rw [if_neg (by omega)]
  show scanF _ [] 1 _ = _
  rw [scanF_nil]; rfl

/-- The pieces of a regular expression as it is kept. -/
def RxU (u : List UInt8) : Prop := (∃ c : UInt8, u = [c] ∧ c.toNat ≠ 10 ∧ c.toNat ≠ 92) ∨ (∃ d : UInt8, u = [92, d] ∧ d.toNat ≠ 10 ∧ d.toNat ≠ 47)
def RxOk (o : List UInt8) : Prop := ∃ us : List (List UInt8), o = us.flatten ∧ ∀ u ∈ us, RxU u
theorem RxOk.snoc {o u : List UInt8} (h : RxOk o) (hu : RxU u) : RxOk (o ++ u) := by
  obtain ⟨us, rfl, hs⟩ := h
  exact ⟨us ++ [u], by simp, fun x hx => (List.mem_append.1 hx).elim (hs x) (fun e => by rw [List.mem_singleton.1 e]; exact hu)⟩

theorem slashGo_rx : ∀ (n : Nat) (r out o rest : List UInt8), r.length ≤ n → slashGo r out = some (o, rest) → RxOk out → RxOk o := by
  intro n
  induction n with
  | zero =>
    intro r out o rest hn h
    obtain rfl : r = [] := List.eq_nil_of_length_eq_zero (by omega)
    cases h
  | succ n ih =>
    intro r out o rest hn h hk
    cases r with
    | nil => cases h
    | cons b t =>
      rw [slashGo_cons] at h
      rw [List.length_cons] at hn
      by_cases h1 : b.toNat = 10
      · rw [if_pos h1] at h; cases h
      · rw [if_neg h1] at h
        by_cases h2 : b.toNat = 47
        · rw [if_pos h2] at h; cases h; exact hk
        · rw [if_neg h2] at h
          by_cases h3 : b.toNat = 92
          · rw [if_pos h3] at h
            cases t with
            | nil => cases h
            | cons c u =>
              simp only [] at h
              rw [List.length_cons] at hn
              by_cases h4 : c.toNat = 10
              · rw [if_pos h4] at h; cases h
              · rw [if_neg h4] at h
                have hb : b = 92 := UInt8.toNat_inj.1 h3
                by_cases h5 : c.toNat = 47
                · rw [if_pos h5] at h
                  exact ih u _ _ _ (by omega) h (hk.snoc (.inl ⟨c, rfl, h4, by omega⟩))
                · rw [if_neg h5] at h
                  exact ih u _ _ _ (by omega) h (hk.snoc (.inr ⟨c, by rw [hb], h4, h5⟩))
          · rw [if_neg h3] at h
            exact ih t _ _ _ (by omega) h (hk.snoc (.inl ⟨b, rfl, h1, h3⟩))

theorem slash_units : ∀ (us : List (List UInt8)), (∀ u ∈ us, RxU u) → ∀ out, slashGo (slashB us.flatten ++ [47]) out = some (out ++ us.flatten, []) := by
  intro us
  induction us with
  | nil => intro _ out; rw [List.flatten_nil, slashB, List.nil_append, slashGo_cons, if_neg (by decide), if_pos (by decide), List.append_nil]
  | cons u us ih =>
    intro hu out
    have hrec := ih (fun x hx => hu x (by simp [hx]))
    rw [List.flatten_cons]
    rcases hu u (by simp) with ⟨c, rfl, h1, h2⟩ | ⟨d, rfl, h1, h2⟩
    · rw [List.singleton_append, slashB_cons]
      by_cases h3 : c.toNat = 47
      · have hc : c = 47 := UInt8.toNat_inj.1 h3
        rw [if_pos h3]
        show slashGo (92 :: 47 :: (slashB us.flatten ++ [47])) out = _
        rw [slashGo_cons, if_neg (by decide), if_neg (by decide), if_pos (by decide)]
        show (if (47 : UInt8).toNat = 10 then none else slashGo _ (if (47 : UInt8).toNat = 47 then out ++ [47] else _)) = _
        rw [if_neg (by decide), if_pos (by decide), hrec, hc, List.append_assoc]; rfl
      · rw [if_neg h3, if_neg (fun h => h2 h.1)]
        show slashGo (c :: (slashB us.flatten ++ [47])) out = _
        rw [slashGo_cons, if_neg h1, if_neg h3, if_neg h2, hrec, List.append_assoc]; rfl
    · rw [show [92, d] ++ us.flatten = 92 :: d :: us.flatten from rfl, slashB_cons, if_neg (by decide), if_pos ⟨by decide, by simp⟩]
      show slashGo (92 :: d :: (slashB us.flatten ++ [47])) out = _
      rw [slashGo_cons, if_neg (by decide), if_neg (by decide), if_pos (by decide)]
      show (if d.toNat = 10 then none else slashGo _ (if d.toNat = 47 then _ else out ++ [92, d])) = _
      rw [if_neg h1, if_neg h2, hrec, List.append_assoc]; rfl

/-- **A regular expression that was read, written and read again is the same.** -/
theorem scan_slash {s z : List UInt8} {n : Nat} {T : List Tk} (h : scanL (47 :: s) = .ok z n T) : ∃ o U, T = ⟨5, ⟨o.toArray⟩, 0, 1⟩ :: U ∧ o.length ≤ 1024 ∧ scanL (slashW o) = .ok [] 1 [⟨5, ⟨o.toArray⟩, 0, 1⟩] := by
  unfold scanL at h
  rw [scanF_step (by simp) (Nat.le_refl _), tok_slash _ _ _ rfl] at h
  unfold slashR at h
  cases hg : slashGo s [] with
  | none => rw [hg] at h; cases h
  | some x =>
    obtain ⟨o, rest⟩ := x
    rw [hg] at h
    have h : (match (if 1024 < o.length then Res.err 1 202 else .ok rest 1 ([] ++ [⟨5, ⟨o.toArray⟩, 0, 1⟩])) with | .err l e => Res.err l e | .ok r' l' T' => scanF _ r' l' T') = .ok z n T := h
    by_cases ho : 1024 < o.length
    · rw [if_pos ho] at h; cases h
    · rw [if_neg ho] at h
      have h : scanF _ rest 1 [⟨5, ⟨o.toArray⟩, 0, 1⟩] = .ok z n T := h
      have hpre : ∀ (m f : Nat) (r : List UInt8) (line : Nat) (A : List Tk) (z : List UInt8) (n : Nat) (T : List Tk), r.length ≤ m → scanF f r line A = .ok z n T → ∃ U, T = A ++ U := by
        intro m
        induction m with
        | zero =>
          intro f r line A z n T hm h
          obtain rfl : r = [] := List.eq_nil_of_length_eq_zero (by omega)
          rw [scanF_nil] at h; cases h; exact ⟨[], by simp⟩
        | succ m ih =>
          intro f r line A z n T hm h
          cases f with
          | zero => cases h; exact ⟨[], by simp⟩
          | succ f =>
            cases r with
            | nil => cases h; exact ⟨[], by simp⟩
            | cons c r =>
              rw [scanF] at h
              have hk := tok_ok line A (List.cons_ne_nil c r)
              cases ht : tokR (c :: r) line A with
              | err l e => rw [ht] at h; cases h
              | ok r' l' A' =>
                rw [ht] at h hk
                obtain ⟨k, k0, k1, k2, _, hA⟩ := hk
                have hl : r'.length + k = (c :: r).length := by rw [k2, List.length_drop]; omega
                obtain ⟨U, hU⟩ := ih f r' l' A' z n T (by omega) h
                rcases hA with rfl | ⟨t, rfl, _⟩
                · exact ⟨U, hU⟩
                · exact ⟨t :: U, by rw [hU, List.append_assoc]; rfl⟩
      obtain ⟨U, hU⟩ := hpre _ _ _ _ _ _ _ _ (Nat.le_refl _) h
      refine ⟨o, U, hU, by omega, ?_⟩
      obtain ⟨us, hus, huu⟩ := slashGo_rx _ _ _ _ _ (Nat.le_refl _) hg ⟨[], rfl, by simp⟩
      unfold scanL
      rw [show slashW o = 47 :: (slashB o ++ [47]) from rfl, scanF_step (by simp) (Nat.le_refl _), tok_slash _ _ _ rfl]
      unfold slashR
      have hgo : slashGo (slashB o ++ [47]) [] = some (o, []) := by rw [hus]; exact slash_units us huu []
      rw [hgo]
      show (match (if 1024 < o.length then Res.err 1 202 else .ok [] 1 ([] ++ [⟨5, ⟨o.toArray⟩, 0, 1⟩])) with | .err l e => Res.err l e | .ok r' l' T' => scanF _ r' l' T') = _
      rw [if_neg ho]
      show scanF _ [] 1 _ = _
      rw [scanF_nil]; rfl

end Go.Proofs.YtifcibbhblhfiaaDoor
