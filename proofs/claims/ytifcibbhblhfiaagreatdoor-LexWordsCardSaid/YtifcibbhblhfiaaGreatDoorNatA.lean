/- Walks of package nat, the small ones. -/
import Derived.Test.YtifcibbhblhfiaaGreatDoorBase
import Derived.Test.YtifcibbhblhfiaaGreatDoorBits
import Derived.Test.YtifcibbhblhfiaaGreatDoorShelf
namespace Go.Proofs.YtifcibbhblhfiaaGreatDoor
open Go.RowKit Pl
set_option linter.unusedVariables false

theorem trim_end {l : List Nat} (hg : Gd l) (k : Nat) (hk : k ≤ l.length) (hz : ∀ j, k ≤ j → j < l.length → rd l j = 0)
    (hl : 0 < k → rd l (k - 1) ≠ 0) : limbs (val l) = l.take k :=
  limbs_val_take hg k hk (fun j h1 h2 => by rw [← rd_eq]; exact hz j h1 h2) (fun h => by rw [← rd_eq]; exact hl h)

set_option maxHeartbeats 400000 in
theorem trim_any (A : Option Addr) (c : Nat) (l : List Nat) (w : World) (h : Rd w A l) (hc : l.length ≤ c) (hg : Gd l) (hl : l.length ≤ 65535) :
    Calls Tryz.prog 95 #[.slice A l.length c] w fun e w' => e = .returned (.slice A (limbs (val l)).length c) ∧ w = w' := by
  have HX := Lib.hid h; clear h
  have HG := Lib.hid hg; clear hg
  go_enter Tryz.func95, Tryz.ntmps95
  go_wp2
  go_loop [0] (fun v => ∃ k : Nat, k ≤ l.length ∧ v = .slice A k c ∧ Hid (∀ j, k ≤ j → j < l.length → rd l j = 0)) (fun v => match v with | .slice _ n _ => n | _ => 0)
  case atStart => exact ⟨_, Nat.le_refl _, rfl, fun j h1 h2 => absurd h2 (by omega)⟩
  case round =>
    obtain ⟨k, hk, rfl, hz⟩ := hrel
    by_cases h0 : k = 0
    · subst h0
      have he : limbs (val l) = l.take 0 := trim_end HG.out 0 (by omega) hz.out (by omega)
      have HE := Lib.hid he; clear he
      go_wp2
      go_ret
      exact ⟨by rw [HE.out]; rfl, rfl⟩
    · obtain ⟨b, o, rfl, hb, hcell⟩ := HX.out (k-1) (by omega)
      have HX := Lib.hid hb; clear hb
      by_cases hr : rd l (k - 1) = 0
      · have hr' : ((rd l (k - 1) : Int) == 0) = true := by rw [hr]; rfl
        have HR := Lib.hid hr; clear hr
        go_wp2
        go_round
        case rel => exact ⟨k - 1, by omega, rfl, fun j h1 h2 => by
                            by_cases hj : j = k - 1
                            · subst hj; exact HR.out
                            · exact hz.out j (by omega) h2⟩
        case measure => simp; omega
      · have hr' : ((rd l (k - 1) : Int) == 0) = false := by simpa using hr
        have he : limbs (val l) = l.take k := trim_end HG.out k hk hz.out (fun _ => hr)
        have HE := Lib.hid he; clear he
        go_wp2
        go_ret
        exact ⟨by rw [HE.out, List.length_take, Nat.min_eq_left hk]; rfl, rfl⟩


set_option maxHeartbeats 400000 in
theorem valid_any (A : Option Addr) (c : Nat) (n : Nat) (w : World) (h : Rd w A (limbs n)) (hl : (limbs n).length ≤ 256) :
    Calls Tryz.prog 85 #[.slice A (limbs n).length c] w fun e w' => e = .returned (.bool true) ∧ w = w' := by
  by_cases h0 : (limbs n).length = 0
  · rw [h0]
    clear hl h h0
    go_enter Tryz.func85, Tryz.ntmps85
    go_wp2
    go_ret
    exact ⟨rfl, rfl⟩
  · obtain ⟨b, o, rfl, hb, hcell⟩ := h ((limbs n).length - 1) (by omega)
    have hne : limbs n ≠ [] := fun e => h0 (by rw [e]; rfl)
    have hr : rd (limbs n) ((limbs n).length - 1) ≠ 0 := by
      rw [rd_eq _ _ (by omega), ← List.getLast_eq_getElem hne]; exact limbs_last n hne
    have hr' : ((rd (limbs n) ((limbs n).length - 1) : Int) != 0) = true := by simpa using hr
    clear h hb hne hr
    generalize rd (limbs n) ((limbs n).length - 1) = x at *
    generalize (limbs n).length = k at *
    go_enter Tryz.func85, Tryz.ntmps85
    go_wp2
    go_ret
    exact ⟨rfl, rfl⟩

theorem clip_any (A : Option Addr) (c k : Nat) (w : World) (hk : k ≤ c) :
    Calls Tryz.prog 84 #[.slice A k c] w fun e w' => e = .returned (.slice A k k) ∧ w = w' := by
  go_enter Tryz.func84, Tryz.ntmps84
  go_wp2
  go_ret
  exact ⟨rfl, rfl⟩

set_option maxHeartbeats 400000 in
theorem told_ok (A : Option Addr) (c : Nat) (l : List Nat) (w : World) (h : Rd w A l) (hc : l.length ≤ c) (hg : Gd l) (hl : l.length ≤ 65535) (hn : (limbs (val l)).length ≤ 256) :
    Calls Tryz.prog 86 #[.slice A l.length c] w fun e w' => e = .returned (.tuple #[.slice A (limbs (val l)).length (limbs (val l)).length, .int .i64 0]) ∧ w = w' := by
  have hle : (limbs (val l)).length ≤ c := Nat.le_trans (limbs_length_le (val_lt hg)) hc
  have H := Lib.hid (trim_any A c l w h hc hg hl)
  clear h hc hl hg
  go_enter Tryz.func86, Tryz.ntmps86
  go_wp2_with fail
  refine H.out.mono ?_
  rintro e w' ⟨rfl, rfl⟩
  go_wp2_with (go_at_call 84; refine (clip_any _ _ _ _ (by omega)).mono ?_; rintro e w' ⟨rfl, rfl⟩)
  go_ret2
  exact ⟨rfl, rfl⟩

theorem rd_two (w : World) (a b : Nat) : Rd (w.alloc (.cells #[.int .u32 (a : Int), .int .u32 (b : Int)] 83)) (some ⟨w.heap.size, 0, none⟩) [a, b] := by
  intro i hi
  refine ⟨w.heap.size, 0, rfl, by simp, ?_⟩
  have h := cell_two_new w (.int .u32 (a : Int)) (.int .u32 (b : Int)) 83 i
  match i, hi with
  | 0, _ => exact h _ rfl
  | 1, _ => exact h _ rfl

set_option maxHeartbeats 400000 in
theorem from_any (n : Nat) (w : World) (hn : n < 18446744073709551616) :
    Calls Tryz.prog 87 #[.int .u64 n] w fun e w' => e = .returned (.slice (some ⟨w.heap.size, 0, none⟩) (limbs n).length 2) ∧ Rd w' (some ⟨w.heap.size, 0, none⟩) (limbs n) ∧ Below w.heap.size w w' := by
  have hg : Gd [n % 4294967296, n / 4294967296] := by
    intro x hx; simp at hx; omega
  have hv : val [n % 4294967296, n / 4294967296] = n := by simp [val]; omega
  have hr := rd_two w (n % 4294967296) (n / 4294967296)
  have ht := trim_any (some ⟨w.heap.size, 0, none⟩) 2 _ _ hr (by simp) hg (by simp)
  have htk : limbs n = [n % 4294967296, n / 4294967296].take (limbs n).length := by
    have := limbs_length_le (val_lt hg)
    rw [hv] at this
    by_cases h1 : n / 4294967296 = 0
    · by_cases h0 : n = 0
      · subst h0; rw [limbs_zero]; rfl
      · rw [limbs_pos h0, h1, limbs_zero]; rfl
    · rw [limbs_pos (by omega), limbs_pos h1, show n / 4294967296 / 4294967296 = 0 by omega, limbs_zero, Nat.mod_eq_of_lt (show n / 4294967296 < 4294967296 by omega)]; rfl
  have hb : Below w.heap.size w (w.alloc (.cells #[.int .u32 ((n % 4294967296 : Nat) : Int), .int .u32 ((n / 4294967296 : Nat) : Int)] 83)) := (Below.refl _ _).alloc (Nat.le_refl _) _
  rw [hv] at ht
  have hr2 := hr.take (limbs n).length
  rw [← htk] at hr2
  simp only [Int.natCast_emod, Int.natCast_ediv, Int.cast_ofNat_Int, List.length_cons, List.length_nil, Nat.zero_add, Nat.reduceAdd] at ht hr2 hb
  have HT := Lib.hid ht; have HR := Lib.hid hr2; have HB := Lib.hid hb
  clear ht hr2 hb hr htk hv hg
  go_enter Tryz.func87, Tryz.ntmps87
  go_wp2_with fail
  refine HT.out.mono ?_
  rintro e w' ⟨rfl, rfl⟩
  go_wp2
  go_ret
  exact ⟨rfl, HR.out, HB.out⟩

set_option maxHeartbeats 400000 in
theorem div32_any (hi lo y : Nat) (w : World) (h : hi < y) (hlo : lo < 4294967296) (hy : y < 4294967296) :
    Calls Tryz.prog 104 #[.int .u32 hi, .int .u32 lo, .int .u32 y] w fun e w' => e = .returned (.tuple #[.int .u32 (((4294967296 * hi + lo) / y : Nat) : Int), .int .u32 (((4294967296 * hi + lo) % y : Nat) : Int)]) ∧ ∃ m, w' = w.drewN m := by
  have h1 : ¬ (y ≤ hi) := by omega
  have h2 : (((y : Nat) : Int) != 0) = true := by simp; omega
  have e1 : Hid ((IntKind.u64.wrap ((bits BinOp.or IntKind.u64 (↑hi * 4294967296) ↑lo).tdiv ↑y) % 4294967296) = (((4294967296 * hi + lo) / y : Nat) : Int)) := by
    have hd := div_small hi lo y h hlo
    rw [shl_or hi lo (by omega) hlo, ← Int.ofNat_tdiv, IntKind.wrap_u64]
    rw [show (18446744073709551616 : Int) = ((18446744073709551616 : Nat) : Int) from rfl, show (4294967296 : Int) = ((4294967296 : Nat) : Int) from rfl, ← Int.natCast_emod, ← Int.natCast_emod]
    congr 1
    rw [Nat.mod_eq_of_lt (b := 18446744073709551616) (by omega), Nat.mod_eq_of_lt hd]
  have e2 : Hid (((bits BinOp.or IntKind.u64 (↑hi * 4294967296) ↑lo).tmod ↑y % 4294967296) = (((4294967296 * hi + lo) % y : Nat) : Int)) := by
    rw [shl_or hi lo (by omega) hlo, ← Int.ofNat_tmod]
    rw [show (4294967296 : Int) = ((4294967296 : Nat) : Int) from rfl, ← Int.natCast_emod]
    congr 1
    exact Nat.mod_eq_of_lt (Nat.lt_of_lt_of_le (Nat.mod_lt _ (by omega)) (by omega))
  go_enter Tryz.func104, Tryz.ntmps104
  go_wp2
  go_quiet (fail)
  go_wp2
  go_ret2
  exact ⟨by rw [← e1.out, ← e2.out]; rfl, _, rfl⟩


set_option maxHeartbeats 400000 in
theorem sub32_any (x y b : Nat) (w : World) (hx : x < 4294967296) (hy : y < 4294967296) (hb : b ≤ 1) :
    Calls Tryz.prog 105 #[.int .u32 x, .int .u32 y, .int .u32 b] w fun e w' => e = .returned (.tuple #[.int .u32 (sub32 x y b), .int .u32 (borrow x y b)]) ∧ w = w' := by
  have e1 := Lib.hid (sub32_int x y b hx hy hb)
  have e2 := Lib.hid (borrow_int x y b hx hy hb)
  have e3 := u32max
  go_enter Tryz.func105, Tryz.ntmps105
  go_wp2
  go_ret2
  exact ⟨by rw [← e1.out, ← e2.out]; rfl, rfl⟩

end Go.Proofs.YtifcibbhblhfiaaGreatDoor
