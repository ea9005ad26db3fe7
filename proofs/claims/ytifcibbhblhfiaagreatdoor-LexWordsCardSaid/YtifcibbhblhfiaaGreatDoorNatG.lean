/- Walks: a copy of a slice; a natural as a word. -/
import Derived.Test.YtifcibbhblhfiaaGreatDoorNatF
namespace Go.Proofs.YtifcibbhblhfiaaGreatDoor
open Go.RowKit Pl
set_option linter.unusedVariables false

def ClonePost (w : World) (l : List Nat) (e : Ending) (w' : World) : Prop :=
  Below w.heap.size w w' ∧ ((l = [] ∧ e = .returned (.slice none 0 0)) ∨ ∃ g c, w.heap.size ≤ g ∧ e = .returned (.slice (some ⟨g, 0, none⟩) l.length c) ∧ Ow w' g c l)

set_option maxHeartbeats 400000 in
theorem clone_any (A : Option Addr) (c : Nat) (l : List Nat) (w : World) (h : Rd w A l) (hl : l.length ≤ 65535) :
    Calls Tryz.prog 97 #[.slice A l.length c] w (ClonePost w l) := by
  have he := fun w => Lib.run_eql_slice_nil (P := Tryz.prog) w 94 83 A l.length c 0 0 Tryz.underlying94
  cases A with
  | none =>
    have e0 : l = [] := by
      cases l with
      | nil => rfl
      | cons x l => obtain ⟨b, o, h1, _⟩ := h 0 (by simp); cases h1
    subst e0
    simp only [Option.isNone_none, List.length_nil] at he ⊢
    clear h hl
    go_enter Tryz.func97, Tryz.ntmps97
    go_wp2
    go_ret
    exact ⟨Below.refl _ _, .inl ⟨rfl, rfl⟩⟩
  | some ad =>
    simp only [Option.isNone_some] at he
    obtain ⟨i0, hi, hz0, hz1, hz2⟩ := info_parts info32
    have HA := Lib.hid h; have HI := Lib.hid hi; have HZ0 := Lib.hid hz0; have HZ1 := Lib.hid hz1; have HZ2 := Lib.hid hz2
    clear h hi hz0 hz1 hz2
    go_enter Tryz.func97, Tryz.ntmps97
    go_wp2_with (at_builtin; go_must (refine wpList_append_own (w.alloc (.cells #[] 83)) rfl _ _ 94 rfl w.heap.size 83 i0 (.int .u32 0) 1 4 Tryz.underlying94 HI.out HZ0.out HZ1.out HZ2.out rfl (by decide) _ 0 [] rfl (World.ownsRow_lit w #[] 0 (Nat.le_refl _) (Nat.zero_le _) rfl) ad l.length c (l.map e32) rfl (by simp) ?_ (by simp [e32, Value.oneCell']) (by unfold maxLen; omega) (by omega) (by simp) ?_))
    · intro j u hj
      rw [List.getElem?_map] at hj
      by_cases hjl : j < l.length
      · obtain ⟨b, o, h1, hlt, hc⟩ := HA.out j hjl
        rw [List.getElem?_eq_getElem hjl] at hj
        simp only [Option.map_some, Option.some.injEq] at hj
        subst hj
        cases h1
        rw [World.cell?_alloc_lt]
        · rw [show ((⟨b, o, none⟩ : Addr).add j) = ⟨b, o + j, none⟩ by unfold Addr.add; split <;> simp_all, hc, rd_eq l j hjl]; rfl
        · unfold Addr.add; split <;> exact hlt
      · rw [List.getElem?_eq_none (by omega)] at hj; cases hj
    · intro v' w1 hown hgr hnil
      have hbel : Below w.heap.size w w1 := ((Below.refl _ _).alloc (Nat.le_refl _) _).trans (below_of_grown (base := w.heap.size) (World.ownsRow_lit (base := w.heap.size) (e := 83) (size := 1) w #[] 0 (Nat.le_refl _) (Nat.zero_le _) rfl) (by simp) hgr)
      have hpost : ClonePost w l (.returned v') w1 := by
        refine ⟨hbel, .inr ?_⟩
        have hown' := hown
        try rw [Nat.zero_add, List.nil_append] at hown'
        obtain ⟨hxl, ⟨h1, h2⟩ | ⟨g, cap, cur, h1, h2, h3⟩⟩ := hown
        · exact absurd h1 hnil
        · subst h1
          try rw [Nat.zero_add] at *
          exact ⟨g, cap, h2, rfl, (Ow.of_owns hown').1⟩
      have HP := Lib.hid hpost
      clear hown hgr hnil hbel hpost
      go_wp2
      go_ret
      exact HP.out

set_option maxHeartbeats 400000 in
theorem word_any (A : Option Addr) (c : Nat) (n : Nat) (w : World) (h : Rd w A (limbs n)) (hn : n < 18446744073709551616) :
    Calls Tryz.prog 91 #[.slice A (limbs n).length c] w fun e w' => e = .returned (.int .u64 (n : Int)) ∧ w = w' := by
  have hl : (limbs n).length ≤ 2 := limbs_length_le (by omega)
  have HV := Lib.hid (val_limbs n)
  have HG := Lib.hid (limbs_good n)
  have HA := Lib.hid h; have HN := Lib.hid hn; clear h hn
  generalize limbs n = l at *
  go_enter Tryz.func91, Tryz.ntmps91
  go_wp2
  go_loop [4, 3] (fun vi vn => ∃ (k x : Nat), k ≤ l.length ∧ vi = .int .i64 ((k : Int) - 1) ∧ vn = .int .u64 (x : Int) ∧ Hid (x = val (l.drop k))) (fun vi _ => (intOf vi + 1).toNat)
  case atStart => exact ⟨l.length, 0, Nat.le_refl _, rfl, rfl, by simp [Hid, val]⟩
  case round =>
    obtain ⟨k, x, hk, rfl, rfl, hx⟩ := hrel
    by_cases h0 : k = 0
    · subst h0
      have hv := hx.out
      rw [List.drop_zero, HV.out] at hv
      have HX := Lib.hid hv
      clear hv
      go_wp2
      go_ret
      exact ⟨by rw [HX.out]; rfl, rfl⟩
    · obtain ⟨k, rfl⟩ : ∃ j, k = j + 1 := ⟨k - 1, by omega⟩
      rw [show (((k + 1 : Nat) : Int) - 1) = (k : Int) by omega]
      have hk' : k < l.length := by omega
      obtain ⟨b1, o1, rfl, hb1, hc1⟩ := HA.out k hk'
      have HX1 := Lib.hid hb1; clear hb1
      have hx2 : x < 4294967296 := by
        rw [hx.out]
        have h1 := val_lt (HG.out.drop (k + 1))
        have h2 : (l.drop (k + 1)).length ≤ 1 := by rw [List.length_drop]; omega
        have h3 : 4294967296 ^ (l.drop (k + 1)).length ≤ 4294967296 ^ 1 := Nat.pow_le_pow_right (by decide) h2
        omega
      have hr := rd_lt HG.out k
      have he := Lib.hid (shl_or x (rd l k) hx2 hr)
      go_wp2
      rw [he.out]
      refine ⟨⟨k, _, by omega, rfl, rfl, ?_⟩, by simp [intOf]⟩
      show _ = _
      rw [drop_cons l k hk', val, ← hx.out, Nat.add_comm]

end Go.Proofs.YtifcibbhblhfiaaGreatDoor
