/- Walks of package nat: the quotient. -/
import Derived.Test.YtifcibbhblhfiaaGreatDoorNatH
import Derived.BigRegion
import Derived.StillTailTactics
namespace Go.Proofs.YtifcibbhblhfiaaGreatDoor
open Go.RowKit Pl
set_option linter.unusedVariables false

def DivPost (w : World) (q r : Nat) (e : Ending) (w' : World) : Prop :=
  ∃ A c B d, e = .returned (.tuple #[.slice A (limbs q).length c, .slice B (limbs r).length d, .int .i64 0]) ∧ Rd w' A (limbs q) ∧ Rd w' B (limbs r) ∧ Below w.heap.size w w'

theorem Rd.of_take {w : World} {A : Option Addr} {l : List Nat} {n : Nat} (h : Rd w A l) (hg : Gd l) (hv : val l = n) : Rd w A (limbs n) := by
  have h1 := limbs_take hg
  rw [hv] at h1
  rw [h1]; exact h.take _

set_option maxHeartbeats 400000 in
theorem small_nil (d : Nat) (w : World) : Calls Tryz.prog 98 #[.slice none 0 0, .int .u32 d] w fun e w' => e = .returned (.int .u32 0) ∧ w = w' := by
  go_enter Tryz.func98, Tryz.ntmps98
  go_wp2
  go_loop [6, 5] (fun v r => v = .int .i64 (-1) ∧ r = .int .u32 0) (fun _ _ => 0)
  case atStart => exact ⟨rfl, rfl⟩
  case round =>
    obtain ⟨rfl, rfl⟩ := hrel
    go_wp2
    go_ret
    exact ⟨rfl, rfl⟩

set_option maxRecDepth 100000 in
set_option maxHeartbeats 1000000 in
theorem div_one (A B : Option Addr) (c d : Nat) (n m : Nat) (w : World) (h : Rd w A (limbs n)) (hm : Rd w B (limbs m)) (h1 : (limbs n).length ≤ 256) (h2 : (limbs m).length = 1) :
    Calls Tryz.prog 89 #[.slice A (limbs n).length c, .slice B (limbs m).length d] w (DivPost w (n / m) (n % m)) := by
  have hm0 : m ≠ 0 := fun e => by subst e; rw [limbs_zero] at h2; cases h2
  have hmlt : m < 4294967296 := by have := limbs_length_lt (Nat.le_of_eq h2); simpa using this
  have hr0 : rd (limbs m) 0 = m := by
    rw [limbs_pos hm0]; unfold rd; simp; omega
  have HV1 := Lib.hid (fun w h => valid_any A c n w h h1)
  have HV2 := Lib.hid (fun w h => valid_any B d m w h (by omega))
  obtain ⟨bb, bo, rfl, hblt, hbc⟩ := hm 0 (by omega)
  rw [hr0] at hbc
  have hA := Lib.hid h; have hB := Lib.hid hm
  have hC := Lib.hid (clone_any A c (limbs n) w h (by omega))
  have va := Lib.hid (val_limbs n)
  have ga := Lib.hid (limbs_good n)
  clear h hm hr0
  rw [h2] at *
  go_enter Tryz.func89, Tryz.ntmps89
  go_wp2_with fail
  refine (HV1.out _ hA.out).mono ?_
  rintro e w' ⟨rfl, rfl⟩
  go_wp2_with fail
  refine (HV2.out _ hB.out).mono ?_
  rintro e w' ⟨rfl, rfl⟩
  go_wp2_with fail
  refine hC.out.mono ?_
  rintro e w1 ⟨hb1, hcase⟩
  rcases hcase with ⟨hl0, rfl⟩ | ⟨g, c', hgb, rfl, hO⟩
  · have hn0 : n = 0 := (limbs_nil_iff n).1 hl0
    subst hn0
    have hq : Hid (∀ w, Calls Tryz.prog 95 #[.slice none 0 0] w fun e w' => e = .returned (.slice none 0 0) ∧ w = w') := by
      intro w
      have := trim_any none 0 [] w (Rd.nil w none) (Nat.le_refl _) good_nil (by simp)
      rwa [val, limbs_zero] at this
    have hF := Lib.hid (from_any 0 w1 (by decide))
    have hbc1 : w1.cell? ⟨bb, bo, none⟩ = some (.int .u32 (m : Int)) := by rw [hb1.cell (p := ⟨bb, bo, none⟩) hblt]; exact hbc
    have hcl := Lib.hid (fun w => clip_any none 0 0 w (Nat.le_refl _))
    have HB1 := Lib.hid hb1
    clear hb1 hl0 hbc
    go_wp2_with fail
    refine (small_nil m w1).mono ?_
    rintro e w' ⟨rfl, rfl⟩
    go_wp2_with fail
    refine (hq.out _).mono ?_
    rintro e w' ⟨rfl, rfl⟩
    go_wp2_with fail
    refine (hcl.out _).mono ?_
    rintro e w' ⟨rfl, rfl⟩
    go_wp2_with fail
    refine hF.out.mono ?_
    rintro e w2 ⟨rfl, hr2, hb2⟩
    have HR := Lib.hid hr2; have HBB := Lib.hid (HB1.out.trans (hb2.mono HB1.out.size))
    clear hr2 hb2
    go_wp2
    go_ret3
    have e1 : 0 / m = 0 := Nat.zero_div _
    have e2 : 0 % m = 0 := Nat.zero_mod _
    refine ⟨none, 0, some ⟨w1.heap.size, 0, none⟩, 2, ?_, ?_, ?_, HBB.out⟩
    · rw [e1, e2, limbs_zero]; rfl
    · rw [e1, limbs_zero]; exact Rd.nil _ _
    · rw [e2]; exact HR.out
  · have hs := small_any g c' m (limbs n) w1 hO ga.out (by omega) (by omega) hmlt
    rw [va.out] at hs
    have HS := Lib.hid hs
    have hbc1 : w1.cell? ⟨bb, bo, none⟩ = some (.int .u32 (m : Int)) := by rw [hb1.cell (p := ⟨bb, bo, none⟩) hblt]; exact hbc
    have HB1 := Lib.hid hb1; have hgs := Lib.hid hO.lt
    clear hb1 hs hbc hO
    go_wp2_with fail
    refine HS.out.mono ?_
    rintro e w2 ⟨q, rfl, hql, hqg, hqv, hqo, hbut⟩
    have hb2 : Below w.heap.size w w2 := HB1.out.trans (hbut.below hgb HB1.out.size)
    have ht := trim_any (some ⟨g, 0, none⟩) c' q w2 hqo.rd hqo.le hqg (by omega)
    rw [hqv, hql] at ht
    have hrd := hqo.rd.of_take hqg hqv
    have hle : (limbs (n / m)).length ≤ c' := by have h1 := limbs_take hqg; rw [hqv] at h1; have h2 := congrArg List.length h1; rw [List.length_take] at h2; have := hqo.le; omega
    have hmod : n % m < 18446744073709551616 := by have := Nat.mod_lt n (show 0 < m by omega); omega
    have HT := Lib.hid ht; have HRD := Lib.hid hrd; have HB2 := Lib.hid hb2
    have HMD := Lib.hid hmod
    clear hql hqg hqv hqo hbut ht hrd hb2 hmod
    go_wp2_with fail
    refine HT.out.mono ?_
    rintro e w' ⟨rfl, rfl⟩
    go_wp2_with fail
    refine (clip_any _ _ _ _ hle).mono ?_
    rintro e w' ⟨rfl, rfl⟩
    go_wp2_with fail
    rw [show IntKind.u64.wrap ((n : Int) % (m : Int)) = ((n % m : Nat) : Int) by rw [← Int.natCast_emod]; exact u64_wrap_nat _ HMD.out]
    refine (from_any (n % m) w2 HMD.out).mono ?_
    rintro e w3 ⟨rfl, hr3, hb3⟩
    have HR := Lib.hid hr3; have HBB := Lib.hid (HB2.out.trans (hb3.mono HB2.out.size)); have HRD3 := Lib.hid (HRD.out.below hb3)
    clear hr3 hb3
    go_wp2
    go_ret3
    exact ⟨some ⟨g, 0, none⟩, (limbs (n / m)).length, some ⟨w2.heap.size, 0, none⟩, 2, rfl, HRD3.out, HR.out, HBB.out⟩

end Go.Proofs.YtifcibbhblhfiaaGreatDoor
