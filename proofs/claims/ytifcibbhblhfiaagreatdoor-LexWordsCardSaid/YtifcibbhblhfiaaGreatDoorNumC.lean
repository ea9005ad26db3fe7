/- Walks of package num: the float of digits and a power. -/
import Derived.Test.YtifcibbhblhfiaaGreatDoorNumB
namespace Go.Proofs.YtifcibbhblhfiaaGreatDoor
open Go.RowKit Pl
set_option linter.unusedVariables false

def readNum (l : List UInt8) (exp : Int) : Nat :=
  if stripZ l = [] then 0
  else if 900 < (stripZ l).length then
    if Lib.trimS ((stripZ l).drop 900) [48] = [] then readBits ((stripZ l).take 900) (exp + ((stripZ l).length : Int) - 900)
    else readBits ((stripZ l).take 900 ++ [49]) (exp + ((stripZ l).length : Int) - 900 - 1)
  else readBits (stripZ l) exp

theorem isDigs_take {l : List UInt8} (h : isDigs l) (n : Nat) : isDigs (l.take n) := by
  intro i hi
  rw [List.length_take] at hi
  have := h i (by omega)
  unfold byt at *
  rwa [List.getElem?_take_of_lt (by omega)]

theorem isDigs_app {l m : List UInt8} (h : isDigs l) (hm : isDigs m) : isDigs (l ++ m) := by
  intro i hi
  by_cases h1 : i < l.length
  · have := h i h1
    unfold byt at *
    rwa [List.getElem?_append_left h1]
  · have := hm (i - l.length) (by rw [List.length_append] at hi; omega)
    unfold byt at *
    rwa [List.getElem?_append_right (by omega)]

set_option maxRecDepth 100000 in
set_option maxHeartbeats 2000000 in
theorem readNum_any (s : ByteArray) (exp : Int) (w : World) (hs : s.size ≤ 200000000) (hd : isDigs (bl s)) (he1 : -500000000 ≤ exp) (he2 : exp ≤ 500000000) :
    Calls Tryz.prog 54 #[.string s, .int .i64 exp] w fun e w' => e = .returned (.float .f64 (readNum (bl s) exp)) ∧ Below w.heap.size w w' := by
  have htl := Lib.hid (trimLeft_any s ⟨#[48]⟩ w (by decide) (by decide))
  have HD := Lib.hid hd; have HSL := Lib.hid (bl_len s); clear hd
  go_enter Tryz.func54, Tryz.ntmps54
  go_wp2_with fail
  refine htl.out.mono ?_
  rintro e w1 ⟨t, rfl, ht, hb1⟩
  have hst : bl t = stripZ (bl s) := ht
  have hdt : isDigs (bl t) := by rw [hst]; exact isDigs_suffix (strip_suffix _) HD.out
  have htl2 := bl_len t
  have htle : t.size ≤ 200000000 := by rw [← htl2, hst]; have := strip_len (bl s); rw [HSL.out] at this; omega
  have hre : readNum (bl s) exp = if bl t = [] then 0 else if 900 < t.size then
      if Lib.trimS ((bl t).drop 900) [48] = [] then readBits ((bl t).take 900) (exp + (t.size : Int) - 900) else readBits ((bl t).take 900 ++ [49]) (exp + (t.size : Int) - 900 - 1) else readBits (bl t) exp := by
    unfold readNum; rw [← hst, htl2]
  have HRE := Lib.hid hre; have HDT := Lib.hid hdt; have HB1 := Lib.hid hb1; have HTL := Lib.hid htl2
  clear hre hst hdt htl2 ht hb1
  by_cases h0 : bl t = []
  · have he : t.toList.isEmpty = true := by rw [bl_empty, h0]; rfl
    have hr : readNum (bl s) exp = 0 := by rw [HRE.out, if_pos h0]
    have HR := Lib.hid hr; clear hr h0
    go_wp2_with fail
    go_ret
    exact ⟨by rw [HR.out]; rfl, HB1.out⟩
  · have he : t.toList.isEmpty = false := by rw [bl_empty, List.isEmpty_eq_false_iff]; exact h0
    have hts : 0 < t.size := by rw [← HTL.out]; exact List.length_pos_iff.2 h0
    by_cases h9 : 900 < t.size
    · have hfb : bl (t.extract 900 t.size) = (bl t).drop 900 := bl_from t 900
      have hfz : (t.extract 900 t.size).size = t.size - 900 := by rw [← bl_len, hfb, List.length_drop, HTL.out]
      have htr := trim_str (t.extract 900 t.size) ⟨#[48]⟩ w1 (by rw [hfz]; omega) (by decide) (by decide)
      rw [hfb] at htr
      have HTR := Lib.hid htr; clear htr hfb hfz
      go_wp2_with fail
      refine HTR.out.mono ?_
      rintro e w2 ⟨u, rfl, hu, hb2⟩
      have hu' : bl u = Lib.trimS ((bl t).drop 900) [48] := hu
      have HB2 := Lib.hid (HB1.out.trans (hb2.mono HB1.out.size))
      have hp9 : bl (t.extract 0 900) = (bl t).take 900 := by rw [bl_cut, List.drop_zero, Nat.sub_zero]
      have hp9z : (t.extract 0 900).size = 900 := by rw [← bl_len, hp9, List.length_take, HTL.out]; omega
      by_cases hu0 : bl u = []
      · have hue : u.toList.isEmpty = true := by rw [bl_empty, hu0]; rfl
        have hr : readNum (bl s) exp = readBits ((bl t).take 900) (exp + (t.size : Int) - 900) := by rw [HRE.out, if_neg h0, if_pos h9, if_pos (by rw [← hu', hu0])]
        have HR := Lib.hid hr
        have hrd := read_any (t.extract 0 900) (exp + (t.size : Int) - 900) w2 (by omega) (by omega) (by rw [hp9]; exact isDigs_take HDT.out 900) (by omega) (by omega)
        rw [hp9] at hrd
        have HRD := Lib.hid hrd
        clear hr hrd hu hu' hu0 hb2 hp9 h0 hp9z
        go_wp2_with fail
        refine HRD.out.mono ?_
        rintro e w3 ⟨rfl, hb3⟩
        have HB3 := Lib.hid (HB2.out.trans (hb3.mono HB2.out.size))
        clear hb3
        go_wp2_with fail
        go_ret
        exact ⟨by rw [HR.out]; rfl, HB3.out⟩
      · have hue : u.toList.isEmpty = false := by rw [bl_empty, List.isEmpty_eq_false_iff]; exact hu0
        have hr : readNum (bl s) exp = readBits ((bl t).take 900 ++ [49]) (exp + (t.size : Int) - 900 - 1) := by rw [HRE.out, if_neg h0, if_pos h9, if_neg (by rw [← hu']; exact hu0)]
        have HR := Lib.hid hr
        have hab : bl (t.extract 0 900 ++ ⟨#[49]⟩) = (bl t).take 900 ++ [49] := by rw [bl_app, hp9]; rfl
        have haz : (t.extract 0 900 ++ ⟨#[49]⟩).size = 901 := by rw [← bl_len, hab, List.length_append, ← hp9, bl_len, hp9z]; rfl
        have hrd := read_any (t.extract 0 900 ++ ⟨#[49]⟩) (exp + (t.size : Int) - 900 - 1) w2 (by omega) (by omega) (by rw [hab]; exact isDigs_app (isDigs_take HDT.out 900) (by intro i hi; simp at hi; subst hi; decide)) (by omega) (by omega)
        rw [hab] at hrd
        have HRD := Lib.hid hrd
        clear hr hrd hu hu' hu0 hb2 hp9 h0 hp9z hab haz
        go_wp2_with fail
        refine HRD.out.mono ?_
        rintro e w3 ⟨rfl, hb3⟩
        have HB3 := Lib.hid (HB2.out.trans (hb3.mono HB2.out.size))
        clear hb3
        go_wp2_with fail
        go_ret
        exact ⟨by rw [HR.out]; rfl, HB3.out⟩
    · have hr : readNum (bl s) exp = readBits (bl t) exp := by rw [HRE.out, if_neg h0, if_neg h9]
      have HR := Lib.hid hr
      have hrd := Lib.hid (read_any t exp w1 hts (by omega) HDT.out (by omega) (by omega))
      clear hr h0
      go_wp2_with fail
      refine hrd.out.mono ?_
      rintro e w3 ⟨rfl, hb3⟩
      have HB3 := Lib.hid (HB1.out.trans (hb3.mono HB1.out.size))
      clear hb3
      go_wp2_with fail
      go_ret
      exact ⟨by rw [HR.out]; rfl, HB3.out⟩

end Go.Proofs.YtifcibbhblhfiaaGreatDoor
