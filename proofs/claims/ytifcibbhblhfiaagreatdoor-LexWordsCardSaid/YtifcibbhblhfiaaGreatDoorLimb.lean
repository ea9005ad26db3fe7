/- Plain: naturals as lists of limbs of 32 bits. No program in sight. -/
namespace Go.Proofs.YtifcibbhblhfiaaGreatDoor.Pl

def limbs (n : Nat) : List Nat := if h : n = 0 then [] else n % 4294967296 :: limbs (n / 4294967296)
termination_by n
decreasing_by omega

def val : List Nat → Nat
  | [] => 0
  | x :: l => x + 4294967296 * val l

def Gd (l : List Nat) : Prop := ∀ x ∈ l, x < 4294967296

theorem limbs_zero : limbs 0 = [] := by unfold limbs; rfl
theorem limbs_pos {n : Nat} (h : n ≠ 0) : limbs n = n % 4294967296 :: limbs (n / 4294967296) := by rw [limbs, dif_neg h]

theorem val_limbs (n : Nat) : val (limbs n) = n := by
  induction n using Nat.strongRecOn with
  | _ n ih =>
    by_cases h : n = 0
    · subst h; rw [limbs_zero]; rfl
    · rw [limbs_pos h, val, ih _ (by omega)]; omega

theorem limbs_good (n : Nat) : Gd (limbs n) := by
  induction n using Nat.strongRecOn with
  | _ n ih =>
    by_cases h : n = 0
    · subst h; rw [limbs_zero]; intro x hx; cases hx
    · rw [limbs_pos h]
      intro x hx
      cases hx with
      | head => omega
      | tail _ hx => exact ih _ (by omega) x hx

theorem good_nil : Gd [] := by intro x hx; cases hx
theorem Gd.tail {x : Nat} {l : List Nat} (h : Gd (x :: l)) : Gd l := fun y hy => h y (List.mem_cons_of_mem _ hy)
theorem Gd.head {x : Nat} {l : List Nat} (h : Gd (x :: l)) : x < 4294967296 := h x List.mem_cons_self
theorem Gd.get {l : List Nat} (h : Gd l) (i : Nat) (hi : i < l.length) : l[i] < 4294967296 := h _ (List.getElem_mem hi)

theorem val_zero {l : List Nat} (h : val l = 0) : ∀ x ∈ l, x = 0 := by
  induction l with
  | nil => intro x hx; cases hx
  | cons y l ih =>
    rw [val] at h
    intro x hx
    cases hx with
    | head => omega
    | tail _ hx => exact ih (by omega) x hx

theorem limbs_val {l : List Nat} (hg : Gd l) (hl : ∀ h : l ≠ [], l.getLast h ≠ 0) : limbs (val l) = l := by
  induction l with
  | nil => rw [val, limbs_zero]
  | cons x l ih =>
    have hx := hg.head
    have hl' : ∀ h : l ≠ [], l.getLast h ≠ 0 := fun h => by have := hl (by simp); rwa [List.getLast_cons h] at this
    have ih := ih hg.tail hl'
    have hne : val (x :: l) ≠ 0 := by
      intro h
      have := val_zero h
      exact hl (by simp) (this _ (List.getLast_mem _))
    rw [limbs_pos hne, val]
    rw [show (x + 4294967296 * val l) % 4294967296 = x by omega, show (x + 4294967296 * val l) / 4294967296 = val l by omega, ih]

theorem limbs_last (n : Nat) (h : limbs n ≠ []) : (limbs n).getLast h ≠ 0 := by
  induction n using Nat.strongRecOn with
  | _ n ih =>
    by_cases h0 : n = 0
    · subst h0; exact absurd limbs_zero h
    · by_cases h1 : n / 4294967296 = 0
      · have e : limbs n = [n] := by rw [limbs_pos h0, h1, limbs_zero, Nat.mod_eq_of_lt (by omega)]
        simp only [e]; exact h0
      · have hne : limbs (n / 4294967296) ≠ [] := by rw [limbs_pos h1]; simp
        have := ih _ (by omega) hne
        simp only [limbs_pos h0]
        rwa [List.getLast_cons hne]

theorem val_append (a b : List Nat) : val (a ++ b) = val a + 4294967296 ^ a.length * val b := by
  induction a with
  | nil => simp [val]
  | cons x a ih =>
    rw [List.cons_append, val, ih, val, List.length_cons, Nat.pow_succ]
    rw [Nat.mul_add, Nat.mul_comm (4294967296 ^ a.length) 4294967296, Nat.mul_assoc]; omega

theorem val_lt {l : List Nat} (h : Gd l) : val l < 4294967296 ^ l.length := by
  induction l with
  | nil => simp [val]
  | cons x l ih =>
    have := ih h.tail
    have hx := h.head
    rw [val, List.length_cons, Nat.pow_succ]; omega

theorem val_zeros (n : Nat) : val (List.replicate n 0) = 0 := by
  induction n with
  | zero => rfl
  | succ n ih => rw [List.replicate_succ, val, ih]

/-- The limbs of a list's value: the list without its noughts at the end. -/
theorem limbs_val_take {l : List Nat} (hg : Gd l) (k : Nat) (hk : k ≤ l.length) (hz : ∀ j, k ≤ j → (h : j < l.length) → l[j] = 0)
    (hl : ∀ h : 0 < k, l[k - 1]'(by omega) ≠ 0) : limbs (val l) = l.take k := by
  have e1 : val l = val (l.take k) := by
    have e2 : l.drop k = List.replicate (l.length - k) 0 := by
      apply List.ext_getElem
      · simp
      · intro i h1 h2
        simp only [List.getElem_drop, List.getElem_replicate]
        simp only [List.length_drop] at h1
        exact hz _ (by omega) (by omega)
    have e3 := val_append (l.take k) (l.drop k)
    rw [List.take_append_drop, e2, val_zeros, Nat.mul_zero, Nat.add_zero] at e3
    exact e3
  rw [e1]
  apply limbs_val
  · intro x hx; exact hg x (List.mem_of_mem_take hx)
  · intro h
    have hk0 : 0 < k := by
      cases k with
      | zero => simp at h
      | succ k => omega
    rw [List.getLast_eq_getElem]
    simp only [List.length_take, List.getElem_take]
    have : min k l.length - 1 = k - 1 := by omega
    simp only [this]
    exact hl hk0

/-- The limbs of a list's value are the list's first ones. -/
theorem limbs_take {l : List Nat} (hg : Gd l) : limbs (val l) = l.take (limbs (val l)).length := by
  induction l with
  | nil => rw [val, limbs_zero]; rfl
  | cons x l ih =>
    have hx := hg.head
    by_cases h : val (x :: l) = 0
    · rw [h, limbs_zero]; rfl
    · rw [limbs_pos h, val, show (x + 4294967296 * val l) % 4294967296 = x by omega, show (x + 4294967296 * val l) / 4294967296 = val l by omega, List.length_cons, List.take_succ_cons, ← ih hg.tail]

theorem limbs_length_le {n k : Nat} (h : n < 4294967296 ^ k) : (limbs n).length ≤ k := by
  induction k generalizing n with
  | zero => have : n = 0 := by simpa using h
            subst this; rw [limbs_zero]; simp
  | succ k ih =>
    by_cases h0 : n = 0
    · subst h0; rw [limbs_zero]; simp
    · rw [limbs_pos h0, List.length_cons]
      have : n / 4294967296 < 4294967296 ^ k := by rw [Nat.pow_succ] at h; omega
      have := ih this
      omega

theorem limbs_lt (n : Nat) : n < 4294967296 ^ (limbs n).length := by
  have h := val_lt (limbs_good n); rwa [val_limbs] at h

theorem limbs_length_lt {n k : Nat} (h : (limbs n).length ≤ k) : n < 4294967296 ^ k :=
  Nat.lt_of_lt_of_le (limbs_lt n) (Nat.pow_le_pow_right (by decide) h)

theorem limbs_length_mono {a b : Nat} (h : a ≤ b) : (limbs a).length ≤ (limbs b).length :=
  limbs_length_le (Nat.lt_of_le_of_lt h (limbs_lt b))

theorem limbs_nil_iff (n : Nat) : limbs n = [] ↔ n = 0 := by
  constructor
  · intro h; have := val_limbs n; rw [h] at this; exact this.symm
  · rintro rfl; exact limbs_zero


def rd (l : List Nat) (i : Nat) : Nat := l[i]?.getD 0
theorem rd_eq (l : List Nat) (i : Nat) (h : i < l.length) : rd l i = l[i] := by unfold rd; rw [List.getElem?_eq_getElem h]; rfl
theorem rd_lt {l : List Nat} (h : Gd l) (i : Nat) : rd l i < 4294967296 := by
  by_cases hi : i < l.length
  · rw [rd_eq l i hi]; exact h.get i hi
  · unfold rd; rw [List.getElem?_eq_none (by omega)]; decide
theorem rd_out {l : List Nat} {i : Nat} (h : l.length ≤ i) : rd l i = 0 := by unfold rd; rw [List.getElem?_eq_none h]; rfl

def cmpN (a b : Nat) : Int := if a < b then -1 else if b < a then 1 else 0

theorem split_at (l : List Nat) (k : Nat) (hk : k < l.length) : val l = val (l.take k) + 4294967296 ^ k * (rd l k + 4294967296 * val (l.drop (k + 1))) := by
  have h1 := val_append (l.take k) (l.drop k)
  rw [List.take_append_drop, List.length_take, Nat.min_eq_left (by omega), List.drop_eq_getElem_cons hk, val] at h1
  rw [h1, rd_eq l k hk]

theorem Gd.take {l : List Nat} (h : Gd l) (k : Nat) : Gd (l.take k) := fun x hx => h x (List.mem_of_mem_take hx)
theorem Gd.drop {l : List Nat} (h : Gd l) (k : Nat) : Gd (l.drop k) := fun x hx => h x (List.mem_of_mem_drop hx)

theorem drop_same {l m : List Nat} (hlm : l.length = m.length) (k : Nat) (h : ∀ j, k ≤ j → j < l.length → rd l j = rd m j) : l.drop k = m.drop k := by
  apply List.ext_getElem
  · simp [hlm]
  · intro i h1 h2
    rw [List.length_drop] at h1 h2
    have := h (k + i) (by omega) (by omega)
    rw [rd_eq l _ (by omega), rd_eq m _ (by omega)] at this
    simpa using this

theorem cmp_at {l m : List Nat} (hl : Gd l) (hlm : l.length = m.length) (k : Nat) (hk : k < l.length)
    (h : ∀ j, k + 1 ≤ j → j < l.length → rd l j = rd m j) (hlt : rd l k < rd m k) : val l < val m := by
  rw [split_at l k hk, split_at m k (by omega), drop_same hlm (k + 1) h]
  have h1 := val_lt (hl.take k)
  rw [List.length_take, Nat.min_eq_left (by omega)] at h1
  generalize val (List.drop (k + 1) m) = D
  generalize 4294967296 ^ k = B at *
  have h2 : B * (rd l k + 4294967296 * D + 1) ≤ B * (rd m k + 4294967296 * D) := Nat.mul_le_mul_left _ (by omega)
  rw [Nat.mul_add] at h2
  omega

theorem cmpN_lt {a b : Nat} (h : a < b) : cmpN a b = -1 := by unfold cmpN; rw [if_pos h]
theorem cmpN_gt {a b : Nat} (h : b < a) : cmpN a b = 1 := by unfold cmpN; rw [if_neg (by omega), if_pos h]
theorem cmpN_eq {a b : Nat} (h : a = b) : cmpN a b = 0 := by unfold cmpN; rw [if_neg (by omega), if_neg (by omega)]

theorem limbs_length_lt_lt {a b : Nat} (h : (limbs a).length < (limbs b).length) : a < b := by
  by_cases h1 : b ≤ a
  · have := limbs_length_mono h1; omega
  · omega

theorem val_take_succ (l : List Nat) (i : Nat) : val (l.take (i + 1)) = val (l.take i) + 4294967296 ^ i * rd l i := by
  by_cases h : i < l.length
  · rw [List.take_succ_eq_append_getElem h, val_append, List.length_take, Nat.min_eq_left (by omega), val, val, rd_eq l i h, Nat.mul_zero, Nat.add_zero]
  · rw [List.take_of_length_le (by omega), List.take_of_length_le (by omega), rd_out (by omega), Nat.mul_zero, Nat.add_zero]

theorem val_snoc (l : List Nat) (x : Nat) : val (l ++ [x]) = val l + 4294967296 ^ l.length * x := by
  rw [val_append, val, val, Nat.mul_zero, Nat.add_zero]

theorem gd_snoc {l : List Nat} {x : Nat} (h : Gd l) (hx : x < 4294967296) : Gd (l ++ [x]) := by
  intro y hy
  rcases List.mem_append.1 hy with hy | hy
  · exact h y hy
  · simp at hy; omega

/-- One step of a subtraction from the low limb up. -/
theorem less_step {D M L P b x y s b' : Nat} (h : D + M = L + b * P) (hs : s + y + b = x + 4294967296 * b') :
    D + P * s + (M + P * y) = L + P * x + b' * (P * 4294967296) := by
  have := congrArg (P * ·) hs
  simp only [Nat.mul_add] at this
  rw [Nat.mul_comm b P] at h
  rw [show b' * (P * 4294967296) = P * (4294967296 * b') by rw [Nat.mul_comm b', Nat.mul_assoc]]
  omega

theorem less_end {D M L P b : Nat} (h : D + M = L + b * P) (hD : D < P) (hb : b ≤ 1) (hML : M ≤ L) : D = L - M := by
  cases b with
  | zero => omega
  | succ b => have : b = 0 := by omega
              subst this; omega

theorem val_set (l : List Nat) (k v : Nat) (hk : k < l.length) : val (l.set k v) + 4294967296 ^ k * rd l k = val l + 4294967296 ^ k * v := by
  have h1 := split_at (l.set k v) k (by simpa using hk)
  have h2 := split_at l k hk
  rw [List.take_set_of_le (Nat.le_refl _)] at h1
  rw [show (l.set k v).drop (k + 1) = l.drop (k + 1) by rw [List.drop_set_of_lt (by omega)]] at h1
  have e : rd (l.set k v) k = v := by unfold rd; rw [List.getElem?_set_self hk]; rfl
  rw [e] at h1
  rw [h1, h2, Nat.mul_add, Nat.mul_add]
  omega

theorem rd_set_ne (l : List Nat) (k j v : Nat) (h : k ≠ j) : rd (l.set k v) j = rd l j := by
  unfold rd; rw [List.getElem?_set_ne h]

theorem rd_set_self (l : List Nat) (k v : Nat) (h : k < l.length) : rd (l.set k v) k = v := by
  unfold rd; rw [List.getElem?_set_self h]; rfl

theorem Gd.set {l : List Nat} (h : Gd l) (k v : Nat) (hv : v < 4294967296) : Gd (l.set k v) := by
  intro x hx
  rcases List.mem_or_eq_of_mem_set hx with h1 | h1
  · exact h x h1
  · omega

theorem rd_high {l : List Nat} {k : Nat} (h : val l < 4294967296 ^ k) : rd l k = 0 := by
  by_cases hk : k < l.length
  · have h1 := split_at l k hk
    by_cases hz : rd l k = 0
    · exact hz
    · have : 4294967296 ^ k * 1 ≤ 4294967296 ^ k * (rd l k + 4294967296 * val (l.drop (k + 1))) := Nat.mul_le_mul_left _ (by omega)
      omega
  · exact rd_out (by omega)

theorem gd_zeros (n : Nat) : Gd (List.replicate n 0) := by
  intro x hx
  have := List.eq_of_mem_replicate hx
  omega

theorem mul_le32 {x y : Nat} (hx : x < 4294967296) (hy : y < 4294967296) : x * y ≤ 18446744065119617025 := by
  have := Nat.mul_le_mul (show x ≤ 4294967295 by omega) (show y ≤ 4294967295 by omega)
  omega

theorem mul_step {V V' P c x y o s c' R : Nat} (h : V + c * P = R) (hset : V' + P * o = V + P * s) (hs : c + (x * y + o) = s + 4294967296 * c') :
    V' + c' * (P * 4294967296) = R + x * y * P := by grind

theorem mul_next (i j v x vb y : Nat) : v + x * (vb + 4294967296 ^ j * y) * 4294967296 ^ i = v + x * vb * 4294967296 ^ i + x * y * 4294967296 ^ (i + j) := by grind

theorem shl_split (x r c : Nat) (hr : r < 32) (hc : c < 2 ^ r) : (x * 2 ^ r % 4294967296) ||| c = x * 2 ^ r % 4294967296 + c := by
  have e : (4294967296 : Nat) = 2 ^ r * 2 ^ (32 - r) := by rw [← Nat.pow_add, show r + (32 - r) = 32 by omega]
  have e2 : x * 2 ^ r % 4294967296 = 2 ^ r * (x % 2 ^ (32 - r)) := by rw [e, Nat.mul_comm, Nat.mul_mod_mul_left]
  rw [e2, Nat.two_pow_add_eq_or_of_lt hc]

theorem shl_lt (x r : Nat) (hx : x < 4294967296) (hr : r < 32) : x * 2 ^ r < 9223372036854775808 := by
  have h1 : 2 ^ r ≤ 2 ^ 31 := Nat.pow_le_pow_right (by decide) (by omega)
  have h2 := Nat.mul_le_mul (show x ≤ 4294967295 by omega) h1
  omega

theorem shl_high (x r : Nat) (hx : x < 4294967296) : x * 2 ^ r / 4294967296 < 2 ^ r := by
  rw [Nat.div_lt_iff_lt_mul (by decide), Nat.mul_comm (2 ^ r)]
  exact Nat.mul_lt_mul_of_pos_right hx (Nat.two_pow_pos r)

theorem shl_elem (x r c : Nat) (hr : r < 32) (hc : c < 2 ^ r) : x * 2 ^ r % 4294967296 + c < 4294967296 := by
  have e : (4294967296 : Nat) = 2 ^ r * 2 ^ (32 - r) := by rw [← Nat.pow_add, show r + (32 - r) = 32 by omega]
  have e2 : x * 2 ^ r % 4294967296 = 2 ^ r * (x % 2 ^ (32 - r)) := by rw [e, Nat.mul_comm, Nat.mul_mod_mul_left]
  have h3 : x % 2 ^ (32 - r) < 2 ^ (32 - r) := Nat.mod_lt _ (Nat.two_pow_pos _)
  have h4 : 2 ^ r * (x % 2 ^ (32 - r) + 1) ≤ 2 ^ r * 2 ^ (32 - r) := Nat.mul_le_mul_left _ h3
  rw [e2]
  have e' := e
  rw [← e'] at h4
  rw [Nat.mul_add] at h4
  omega

theorem shl_step {Q L P c x r s c' : Nat} (h : Q + c * P = L * r) (hs : x * r + c = s + 4294967296 * c') : Q + P * s + c' * (P * 4294967296) = (L + P * x) * r := by grind

/-- A list without a nought at its top, told by its value. -/
theorem limbs_of_val {l : List Nat} (hg : Gd l) (h : l.length = 0 ∨ 4294967296 ^ (l.length - 1) ≤ val l) : limbs (val l) = l := by
  have h1 := limbs_take hg
  have h2 : (limbs (val l)).length ≤ l.length := limbs_length_le (val_lt hg)
  have h3 : l.length ≤ (limbs (val l)).length := by
    rcases h with h | h
    · omega
    · have h4 := limbs_lt (val l)
      have h5 : 4294967296 ^ (l.length - 1) < 4294967296 ^ (limbs (val l)).length := Nat.lt_of_le_of_lt h h4
      have h6 := (Nat.pow_lt_pow_iff_right (a := 4294967296) (by decide)).1 h5
      omega
  rw [h1, List.take_of_length_le h3]

theorem limbs_val_ge (n : Nat) : (limbs n).length = 0 ∨ 4294967296 ^ ((limbs n).length - 1) ≤ n := by
  by_cases h : (limbs n).length = 0
  · exact .inl h
  · refine .inr ?_
    have hne : limbs n ≠ [] := fun e => h (by rw [e]; rfl)
    have h1 := split_at (limbs n) ((limbs n).length - 1) (by omega)
    have hr : rd (limbs n) ((limbs n).length - 1) ≠ 0 := by
      rw [rd_eq _ _ (by omega), ← List.getLast_eq_getElem hne]; exact limbs_last n hne
    rw [val_limbs] at h1
    have h2 : 4294967296 ^ ((limbs n).length - 1) * 1 ≤ 4294967296 ^ ((limbs n).length - 1) * (rd (limbs n) ((limbs n).length - 1) + 4294967296 * val (List.drop ((limbs n).length - 1 + 1) (limbs n))) := Nat.mul_le_mul_left _ (by omega)
    omega

theorem ten_step {Q P L c x s c' d : Nat} (h : Q + c * P = 10 * L + d) (hs : c + x * 10 = s + 4294967296 * c') : Q + P * s + c' * (P * 4294967296) = 10 * (L + P * x) + d := by grind

theorem rd_val {l : List Nat} (hg : Gd l) (j : Nat) : rd l j = val l / 4294967296 ^ j % 4294967296 := by
  by_cases hj : j < l.length
  · have h1 := split_at l j hj
    have h2 := val_lt (hg.take j)
    rw [List.length_take, Nat.min_eq_left (by omega)] at h2
    have h3 := rd_lt hg j
    rw [h1, Nat.add_mul_div_left _ _ (Nat.pow_pos (by decide)), Nat.div_eq_of_lt h2, Nat.zero_add, Nat.add_mul_mod_self_left, Nat.mod_eq_of_lt h3]
  · rw [rd_out (by omega), Nat.div_eq_of_lt]
    exact Nat.lt_of_lt_of_le (val_lt hg) (Nat.pow_le_pow_right (by decide) (by omega))

theorem pow32 (j : Nat) : 4294967296 ^ j = 2 ^ (32 * j) := by rw [Nat.pow_mul]

theorem bit_of {l : List Nat} (hg : Gd l) (j r : Nat) (hr : r < 32) : rd l j / 2 ^ r % 2 = val l / 2 ^ (32 * j + r) % 2 := by
  rw [rd_val hg, pow32, Nat.pow_add, ← Nat.div_div_eq_div_mul]
  generalize val l / 2 ^ (32 * j) = x
  have e : (4294967296 : Nat) = 2 ^ r * (2 * 2 ^ (31 - r)) := by
    rw [← Nat.pow_succ', ← Nat.pow_add, show r + (31 - r + 1) = 32 by omega]
  rw [e, Nat.mod_mul_right_div_self, Nat.mod_mul_right_mod]

theorem low_of {l : List Nat} (hg : Gd l) (j r : Nat) (hr : r < 32) (h : val l % 2 ^ (32 * j + r + 1) = 0) : rd l j % 2 ^ (r + 1) = 0 := by
  rw [rd_val hg, pow32]
  have e : (4294967296 : Nat) = 2 ^ (r + 1) * 2 ^ (31 - r) := by rw [← Nat.pow_add, show r + 1 + (31 - r) = 32 by omega]
  rw [e, Nat.mod_mul_right_mod]
  obtain ⟨t, ht⟩ := Nat.dvd_of_mod_eq_zero h
  rw [ht, show 32 * j + r + 1 = 32 * j + (r + 1) by omega, Nat.pow_add, Nat.mul_assoc, Nat.mul_div_cancel_left _ (Nat.two_pow_pos _), Nat.mul_mod_right]

theorem half_step (n i : Nat) : n / 2 ^ i = 2 * (n / 2 ^ (i + 1)) + n / 2 ^ i % 2 := by
  have h : n / 2 ^ (i + 1) = n / 2 ^ i / 2 := by rw [Nat.pow_succ, Nat.div_div_eq_div_mul]
  omega

theorem div_ge {N b m : Nat} (hm : 0 < m) (hb : b ≤ 1) (h : m ≤ 2 * (N % m) + b) : (2 * N + b) / m = 2 * (N / m) + 1 ∧ (2 * N + b) % m = 2 * (N % m) + b - m := by
  have h1 := Nat.div_add_mod N m
  have h2 := Nat.mod_lt N hm
  have e : 2 * N + b = (2 * (N % m) + b - m) + m * (2 * (N / m) + 1) := by
    rw [Nat.mul_add, Nat.mul_one, show m * (2 * (N / m)) = 2 * (m * (N / m)) by rw [Nat.mul_left_comm]]; omega
  rw [e, Nat.add_mul_div_left _ _ hm, Nat.add_mul_mod_self_left, Nat.div_eq_of_lt (by omega), Nat.mod_eq_of_lt (by omega)]
  omega

theorem div_lt' {N b m : Nat} (hm : 0 < m) (h : 2 * (N % m) + b < m) : (2 * N + b) / m = 2 * (N / m) ∧ (2 * N + b) % m = 2 * (N % m) + b := by
  have h1 := Nat.div_add_mod N m
  have e : 2 * N + b = (2 * (N % m) + b) + m * (2 * (N / m)) := by
    rw [show m * (2 * (N / m)) = 2 * (m * (N / m)) by rw [Nat.mul_left_comm]]; omega
  rw [e, Nat.add_mul_div_left _ _ hm, Nat.add_mul_mod_self_left, Nat.div_eq_of_lt h, Nat.mod_eq_of_lt h]
  omega

theorem dbl_pow (x i : Nat) : x * 2 ^ (i + 1) = 2 * x * 2 ^ i := by rw [Nat.pow_succ]; grind

theorem dbl_step {Q L P c x s c' b : Nat} (h : Q + c * P = L * 2 + b) (hs : x * 2 + c = s + 4294967296 * c') : Q + P * s + c' * (P * 4294967296) = (L + P * x) * 2 + b := by grind

end Go.Proofs.YtifcibbhblhfiaaGreatDoor.Pl
