/- Walks of package num: the number that a program's text begins with. -/
import Derived.Test.YtifcibbhblhfiaaGreatDoorNumC
import Derived.Laws.FloatArith
namespace Go.Proofs.YtifcibbhblhfiaaGreatDoor
open Go.RowKit Pl
set_option linter.unusedVariables false

/-- The float of bits is a number that isn't below 0, or +infinity. -/
def Pos (b : Nat) : Prop := b ≤ 9218868437227405312

theorem read_pos {b : Nat} (h : Pos b) : (∃ m e, Ieee.double.read b = .number false m e) ∨ Ieee.double.read b = .infinity false := by
  unfold Pos at h
  have hsw : Ieee.double.signWeight = 9223372036854775808 := rfl
  have hin : Ieee.double.infRung = 9218868437227405312 := rfl
  have hneg : (b / Ieee.double.signWeight % 2 == 1) = false := by rw [hsw, Nat.div_eq_of_lt (by omega)]; rfl
  have hr : b % Ieee.double.signWeight = b := by rw [hsw]; exact Nat.mod_eq_of_lt (by omega)
  unfold Ieee.Format.read
  dsimp only
  rw [hneg, hr]
  split
  · exact .inl ⟨_, _, rfl⟩
  · split
    · exact .inl ⟨_, _, rfl⟩
    · rw [if_pos (by omega)]; exact .inr rfl

theorem near_pos (m : Nat) (e : Int) : Pos (Ieee.double.nearest false m e) := by
  unfold Pos Ieee.Format.nearest Ieee.Format.word
  dsimp only
  split
  · simp
  · simp only [Bool.false_eq_true, if_false]
    exact Nat.min_le_right _ _

theorem inf_pos : Pos (Ieee.double.write (.infinity false)) := by unfold Pos; decide

def f16 : Nat := 4625196817309499392
theorem read16 : Ieee.double.read f16 = .number false 4503599627370496 (-48) := by decide

theorem mul16 {x : Nat} (h : Pos x) : ∃ r, floatBits .mul .f64 x f16 = some r ∧ Pos r := by
  unfold floatBits
  show ∃ r, Ieee.double.mul x f16 = some r ∧ Pos r
  unfold Ieee.Format.mul
  rw [read16]
  rcases read_pos h with ⟨m, e, hr⟩ | hr
  · rw [hr]; exact ⟨_, rfl, near_pos _ _⟩
  · rw [hr]; exact ⟨_, rfl, inf_pos⟩

theorem addp {x y : Nat} (h : Pos x) (h2 : Pos y) : ∃ r, floatBits .add .f64 x y = some r ∧ Pos r := by
  unfold floatBits
  show ∃ r, Ieee.double.add x y = some r ∧ Pos r
  unfold Ieee.Format.add
  rcases read_pos h with ⟨m, e, hr⟩ | hr
  · rcases read_pos h2 with ⟨n, k, hq⟩ | hq
    · rw [hr, hq]
      refine ⟨_, rfl, ?_⟩
      simp only [Ieee.signed, Bool.false_eq_true, if_false, Bool.and_false, Ieee.Format.write]
      have hs : ∀ t : Int, 0 ≤ t → (if t = 0 then false else decide (t < 0)) = false := by
        intro t ht; split
        · rfl
        · exact decide_eq_false (by omega)
      rw [hs _ (Int.add_nonneg (Int.natCast_nonneg _) (Int.natCast_nonneg _))]
      exact near_pos _ _
    · rw [hr, hq]; exact ⟨_, rfl, inf_pos⟩
  · rcases read_pos h2 with ⟨n, k, hq⟩ | hq
    · rw [hr, hq]; exact ⟨_, rfl, inf_pos⟩
    · rw [hr, hq]; exact ⟨_, rfl, inf_pos⟩

theorem ofInt_pos (n : Nat) : Pos (floatOfInt .f64 (n : Int)) := by
  show Pos (Ieee.double.nearest (decide ((n : Int) < 0)) (n : Int).natAbs 0)
  rw [decide_eq_false (by omega)]
  exact near_pos _ _

def hexStep (x : Nat) (d : Int) : Nat := ((floatBits .mul .f64 x f16).bind fun y => floatBits .add .f64 y (floatOfInt .f64 d)).getD 0
theorem hexStep_eq {x y r : Nat} {d : Int} (h1 : floatBits .mul .f64 x f16 = some y) (h2 : floatBits .add .f64 y (floatOfInt .f64 d) = some r) : hexStep x d = r := by
  unfold hexStep; rw [h1]; show (floatBits .add .f64 y (floatOfInt .f64 d)).getD 0 = r; rw [h2]; rfl

def hexL : List UInt8 := [48, 49, 50, 51, 52, 53, 54, 55, 56, 57, 97, 98, 99, 100, 101, 102]
/-- The value of a letter of base 16; below 0: it is none. -/
def hexDig (n : Nat) : Int := Lib.indexByte hexL (n ||| 32).toUInt8
def isHex (c : UInt8) : Bool := decide (48 ≤ c.toNat) && decide (0 ≤ hexDig c.toNat)
def nhex (l : List UInt8) : Nat := (l.takeWhile isHex).length
theorem nhex_le (l : List UInt8) : nhex l ≤ l.length := (List.takeWhile_prefix _).length_le
def hexVal (l : List UInt8) : Nat := l.foldl (fun x c => hexStep x (hexDig c.toNat)) 0
theorem hexVal_succ (l : List UInt8) (i : Nat) (hi : i < l.length) : hexVal (l.take (i + 1)) = hexStep (hexVal (l.take i)) (hexDig (byt l i)) := by
  unfold hexVal
  rw [List.take_succ_eq_append_getElem hi, List.foldl_append, byt_eq l i hi]; rfl
theorem hexDig_range (n : Nat) (h : n < 256) : -1 ≤ hexDig n ∧ hexDig n < 16 := by
  have h2 : ∀ k : Fin 256, -1 ≤ hexDig k.val ∧ hexDig k.val < 16 := by decide +kernel
  exact h2 ⟨n, h⟩

/-- The letters of a text up to a place are of base 16. -/
def allHex (l : List UInt8) (i : Nat) : Prop := ∀ j, j < i → isHex (l.getD j 0) = true

theorem nhex_eq (l : List UInt8) (i : Nat) (hi : i ≤ l.length) (h : allHex l i) (he : i < l.length → isHex (l.getD i 0) = false) : nhex l = i := by
  induction l generalizing i with
  | nil => simp at hi; subst hi; rfl
  | cons c l ih =>
    unfold nhex
    rw [List.takeWhile_cons]
    cases i with
    | zero =>
      have := he (by simp)
      rw [List.getD_cons_zero] at this
      rw [this]; rfl
    | succ i =>
      have h0 := h 0 (by omega)
      rw [List.getD_cons_zero] at h0
      rw [h0, if_pos rfl, List.length_cons]
      congr 1
      refine ih i (by simpa using hi) (fun j hj => ?_) (fun hl => ?_)
      · have := h (j + 1) (by omega); rwa [List.getD_cons_succ] at this
      · have := he (by simpa using hl); rwa [List.getD_cons_succ] at this

theorem isHex_byt (l : List UInt8) (i : Nat) (hi : i < l.length) : isHex (l.getD i 0) = (decide (48 ≤ byt l i) && decide (0 ≤ hexDig (byt l i))) := by
  rw [byt_eq l i hi, List.getD_eq_getElem?_getD, List.getElem?_eq_getElem hi]; rfl

def hexLS : ByteArray := ⟨#[48, 49, 50, 51, 52, 53, 54, 55, 56, 57, 97, 98, 99, 100, 101, 102]⟩

theorem ret_fi {a b : Nat} {c d : Int} (h1 : a = b) (h2 : c = d) : Ending.returned (.tuple #[.float .f64 a, .int .i64 c]) = .returned (.tuple #[.float .f64 b, .int .i64 d]) := by rw [h1, h2]

set_option maxRecDepth 100000 in
set_option maxHeartbeats 1000000 in
theorem base_any (s : ByteArray) (w : World) (hs : s.size ≤ 1000000000) :
    Calls Tryz.prog 52 #[.string s, .string hexLS, .int .i64 4] w fun e w' => e = .returned (.tuple #[.float .f64 (hexVal ((bl s).take (nhex (bl s)))), .int .i64 (nhex (bl s) : Int)]) ∧ w = w' := by
  have HL := Lib.hid (bl_len s)
  have hg := get_byt s
  go_enter Tryz.func52, Tryz.ntmps52
  go_wp2_with fail
  go_loopw [9, 8] (fun v vx wx => ∃ (k x : Nat), wx = w ∧ k ≤ s.size ∧ v = .int .i64 (k : Int) ∧ vx = .float .f64 x ∧ Hid (x = hexVal ((bl s).take k)) ∧ Hid (Pos x) ∧ Hid (allHex (bl s) k)) (fun v _ _ => (s.size - intOf v).toNat)
  case atStart => exact ⟨0, 0, rfl, Nat.zero_le _, rfl, rfl, rfl, Nat.zero_le _, fun j hj => absurd hj (Nat.not_lt_zero _)⟩
  case round =>
    obtain ⟨k, x, rfl, hk, rfl, rfl, hx, hp, hh⟩ := hrel
    by_cases hlt : k < s.size
    · have hb := byt_lt (bl s) k
      have hor := u8_or_nat (byt (bl s) k) 32 hb (by decide)
      have hd1 := (hexDig_range _ hb).1
      have hd2 := (hexDig_range _ hb).2
      obtain ⟨d, hd⟩ : ∃ d, d = hexDig (byt (bl s) k) := ⟨_, rfl⟩
      rw [← hd] at hd1 hd2
      have HD := Lib.hid hd; clear hd
      have hix : Calls Tryz.prog 25 #[.string hexLS, .int .u8 (bits .or .u8 ((byt (bl s) k : Nat) : Int) 32)] wr fun e w' => e = .returned (.int .i64 d) ∧ wr = w' := by
        rw [show bits BinOp.or IntKind.u8 ((byt (bl s) k : Nat) : Int) 32 = ((byt (bl s) k ||| 32 : Nat) : Int) from hor]
        refine (Tryz.strings_IndexByte hexLS ((byt (bl s) k ||| 32 : Nat) : Int) wr).mono ?_
        rintro e w' ⟨rfl, rfl⟩
        exact ⟨by rw [HD.out]; rfl, rfl⟩
      have HIX := Lib.hid hix; clear hix hor
      have hfin : (d < 0 ∨ byt (bl s) k < 48) → nhex (bl s) = k := by
        intro h
        refine nhex_eq _ _ (by rw [HL.out]; exact hk) hh.out (fun hl => ?_)
        rw [isHex_byt _ _ hl, ← HD.out]
        rcases h with h | h
        · rw [decide_eq_false (p := 0 ≤ d) (by omega), Bool.and_false]
        · rw [decide_eq_false (p := 48 ≤ byt (bl s) k) (by omega), Bool.false_and]
      have HF := Lib.hid hfin; clear hfin
      go_wp2_with fail
      refine HIX.out.mono ?_
      rintro e w' ⟨rfl, rfl⟩
      by_cases hdn : d < 0
      · have hn := Lib.hid (HF.out (.inl hdn))
        go_wp2_with fail
        go_ret2
        exact ⟨ret_fi (by rw [hn.out, hx.out]) (by rw [hn.out]), rfl⟩
      · by_cases hlow : byt (bl s) k < 48
        · have hn := Lib.hid (HF.out (.inr hlow))
          go_wp2_with fail
          go_ret2
          exact ⟨ret_fi (by rw [hn.out, hx.out]) (by rw [hn.out]), rfl⟩
        · obtain ⟨y, hy, hyp⟩ := mul16 hp.out
          obtain ⟨D, hD⟩ : ∃ D : Nat, d = (D : Int) := ⟨d.toNat, by omega⟩
          obtain ⟨z, hz, hzp⟩ := addp hyp (ofInt_pos D)
          have hop1 : ∀ t w, (binOp .mul t (.float .f64 x) (.float .f64 (floatOfInt .f64 16))).run Tryz.prog w = .ok (.float .f64 y) w := fun t w => run_float_arith w .mul t .f64 x _ y hy
          have hop2 : ∀ t w, (binOp .add t (.float .f64 y) (.float .f64 (floatOfInt .f64 d))).run Tryz.prog w = .ok (.float .f64 z) w := fun t w => run_float_arith w .add t .f64 y _ z (by rw [hD]; exact hz)
          have hxz : z = hexVal ((bl s).take (k + 1)) := by
            rw [hexVal_succ _ _ (by rw [HL.out]; exact hlt), ← hx.out, ← HD.out, hD]
            exact (hexStep_eq hy hz).symm
          have hall : allHex (bl s) (k + 1) := by
            intro j hj
            by_cases hjk : j = k
            · subst hjk
              rw [isHex_byt _ _ (by rw [HL.out]; exact hlt), ← HD.out, decide_eq_true (p := 0 ≤ d) (by omega), decide_eq_true (p := 48 ≤ byt (bl s) j) (by omega)]; rfl
            · exact hh.out j (by omega)
          have HZ := Lib.hid hxz; have HP := Lib.hid hzp; have HA := Lib.hid hall
          clear hxz hzp hall hy hz hyp hD
          go_wp2_with fail
          go_roundw
          case rel => exact ⟨k + 1, z, trivial, by omega, by go_num, rfl, HZ.out, HP.out, HA.out⟩
          case measure => simp [intOf]; omega
    · obtain rfl : k = s.size := by omega
      have hn : nhex (bl s) = s.size := nhex_eq _ _ (by rw [HL.out]; exact Nat.le_refl _) hh.out (fun hl => absurd hl (by rw [HL.out]; omega))
      have HN := Lib.hid hn; clear hn
      go_wp2_with fail
      go_ret2
      exact ⟨ret_fi (by rw [HN.out, hx.out]) (by rw [HN.out]), rfl⟩

theorem expo_le (r : List UInt8) : -100000 ≤ (expo r).1 ∧ (expo r).1 ≤ 100000 ∧ (expo r).2 ≤ r.length := by
  have h1 := powI_le
  have h2 := ndig_le (r.drop 1)
  have h3 := ndig_le (r.drop 2)
  rw [List.length_drop] at h2 h3
  unfold expo
  split
  · split
    · split
      · exact ⟨(h1 _ _).1, (h1 _ _).2, by omega⟩
      · simp
    · split
      · have h4 := h1 ((r.drop 1).take (ndig (r.drop 1))) false
        exact ⟨h4.1, h4.2, by show 1 + ndig (r.drop 1) ≤ r.length; omega⟩
      · simp
  · simp

theorem mant_le (l : List UInt8) : isDigs (mant l).1 ∧ (mant l).1.length ≤ l.length ∧ -(l.length : Int) ≤ (mant l).2.1 ∧ (mant l).2.1 ≤ 0 ∧ (mant l).2.2 ≤ l.length := by
  have h1 := ndig_le l
  have h2 := ndig_le (l.drop (ndig l + 1))
  rw [List.length_drop] at h2
  unfold mant
  split
  · rename_i h
    have hp := ((hasPrefix_one _ _).1 h.1).1
    rw [List.length_drop] at hp
    refine ⟨isDigs_app (ndig_digs _) (ndig_digs _), ?_, ?_, ?_, ?_⟩
    · simp only [List.length_append, List.length_take, List.length_drop]; omega
    all_goals (simp only []; omega)
  · refine ⟨ndig_digs _, ?_, ?_, ?_, ?_⟩
    · simp only [List.length_take]; omega
    all_goals (simp only []; omega)

theorem numeral_le (l : List UInt8) : isDigs (numeral l).1 ∧ (numeral l).1.length ≤ l.length ∧ -(l.length : Int) - 100000 ≤ (numeral l).2.1 ∧ (numeral l).2.1 ≤ 100000 ∧ (numeral l).2.2 ≤ l.length := by
  have h := mant_le l
  have h2 := expo_le (l.drop (mant l).2.2)
  rw [List.length_drop] at h2
  unfold numeral
  split
  · refine ⟨fun i hi => absurd hi (Nat.not_lt_zero _), ?_, ?_, ?_, ?_⟩
    all_goals (simp only [List.length_nil]; omega)
  · refine ⟨h.1, h.2.1, ?_, ?_, ?_⟩
    all_goals (simp only []; omega)

def lit0x (l : List UInt8) : Bool := Lib.hasPrefix l [48, 120] || Lib.hasPrefix l [48, 88]
def hexPart (l : List UInt8) : List UInt8 := (l.drop 2).take (min l.length 15 - 2)
/-- The bits of the number that a program's text begins with, and how many bytes that takes. -/
def literal (l : List UInt8) : Nat × Nat :=
  if lit0x l = true ∧ 0 < nhex (hexPart l) then (hexVal ((hexPart l).take (nhex (hexPart l))), 2 + nhex (hexPart l))
  else if (numeral l).2.2 = 0 then (0, 0) else (readNum (numeral l).1 (numeral l).2.1, (numeral l).2.2)

theorem lit0x_len {l : List UInt8} (h : lit0x l = true) : 2 ≤ l.length := by
  unfold lit0x Lib.hasPrefix at h
  rw [Bool.or_eq_true] at h
  rcases h with h | h
  · exact (List.isPrefixOf_iff_prefix.1 h).length_le
  · exact (List.isPrefixOf_iff_prefix.1 h).length_le

set_option maxRecDepth 100000 in
set_option maxHeartbeats 1000000 in
theorem literal_any (s : ByteArray) (w : World) (hs : s.size ≤ 100000000) :
    Calls Tryz.prog 41 #[.string s] w fun e w' => e = .returned (.tuple #[.float .f64 (literal (bl s)).1, .int .i64 ((literal (bl s)).2 : Int)]) ∧ Below w.heap.size w w' := by
  have HL := Lib.hid (bl_len s)
  go_enter Tryz.func41, Tryz.ntmps41
  go_upto_region 1 with (fail)
  obtain ⟨T, hT⟩ : ∃ T, T = lit0x (bl s) := ⟨_, rfl⟩
  have HT := Lib.hid hT; clear hT
  have hp1 := Lib.hid (hasPrefix_any s ⟨#[48, 120]⟩ w)
  have hp2 := Lib.hid (hasPrefix_any s ⟨#[48, 88]⟩ w)
  go_cut [14] (fun v wx => v = .bool T ∧ w = wx)
  case first =>
    go_wp2_with fail
    refine hp1.out.mono ?_
    rintro e w' ⟨rfl, rfl⟩
    cases h1 : Lib.hasPrefix (bl s) (bl ⟨#[48, 120]⟩) with
    | true =>
      have hT : T = true := by rw [HT.out]; unfold lit0x; rw [show Lib.hasPrefix (bl s) [48, 120] = true from h1]; rfl
      clear h1
      subst hT
      go_wp2_with fail
      go_meet
      exact ⟨rfl, rfl⟩
    | false =>
      have hT : T = Lib.hasPrefix (bl s) (bl ⟨#[48, 88]⟩) := by rw [HT.out]; unfold lit0x; rw [show Lib.hasPrefix (bl s) [48, 120] = false from h1]; rfl
      have HT2 := Lib.hid hT
      clear h1 hT
      go_wp2_with fail
      refine hp2.out.mono ?_
      rintro e w' ⟨rfl, rfl⟩
      rw [← HT2.out]
      cases T
      all_goals
        go_wp2_with fail
        go_meet
        exact ⟨rfl, rfl⟩
  case rest =>
    obtain ⟨rfl, rfl⟩ := hcut
    have hnl := numeral_le (bl s)
    rw [HL.out] at hnl
    have HNL := Lib.hid hnl
    clear hnl hp1 hp2
    go_upto_if 14 with (fail)
    go_cut [5] (fun v wx => Hid (literal (bl s) = if (numeral (bl s)).2.2 = 0 then (0, 0) else (readNum (numeral (bl s)).1 (numeral (bl s)).2.1, (numeral (bl s)).2.2)) ∧ Hid (Below w.heap.size w wx))
    case first =>
      cases hTT : T with
      | false =>
        have hli : literal (bl s) = if (numeral (bl s)).2.2 = 0 then (0, 0) else (readNum (numeral (bl s)).1 (numeral (bl s)).2.1, (numeral (bl s)).2.2) := by
          unfold literal; rw [← HT.out, hTT, if_neg (by simp)]
        have HLI := Lib.hid hli
        clear hli hTT
        go_wp2_with fail
        go_meet
        exact ⟨HLI, Below.refl _ _⟩
      | true =>
        have h2 : 2 ≤ s.size := by rw [← HL.out]; exact lit0x_len (by rw [← HT.out, hTT])
        obtain ⟨M, hM⟩ : ∃ M : Nat, M = min s.size 15 := ⟨_, rfl⟩
        have hM2 : min (s.size : Int) 15 = (M : Int) := by omega
        have hMs : M ≤ s.size ∧ 2 ≤ M := by omega
        have hbx : bl (s.extract 2 M) = hexPart (bl s) := by rw [bl_cut, hM, hexPart, HL.out]
        have hbs : (s.extract 2 M).size ≤ 1000000000 := by rw [← bl_len, hbx]; unfold hexPart; rw [List.length_take]; omega
        have hba := base_any (s.extract 2 M) w hbs
        rw [hbx] at hba
        have HBA := Lib.hid hba
        have hli : literal (bl s) = if 0 < nhex (hexPart (bl s)) then (hexVal ((hexPart (bl s)).take (nhex (hexPart (bl s)))), 2 + nhex (hexPart (bl s))) else if (numeral (bl s)).2.2 = 0 then (0, 0) else (readNum (numeral (bl s)).1 (numeral (bl s)).2.1, (numeral (bl s)).2.2) := by
          unfold literal; rw [← HT.out, hTT]; simp only [true_and]
        have HLI := Lib.hid hli
        clear hli hTT hba hbx hM
        go_wp2_with fail
        refine HBA.out.mono ?_
        rintro e w' ⟨rfl, rfl⟩
        obtain ⟨n, hn⟩ : ∃ n, n = nhex (hexPart (bl s)) := ⟨_, rfl⟩
        rw [← hn] at HLI ⊢
        have hn9 : n ≤ 13 := by rw [hn]; have := nhex_le (hexPart (bl s)); unfold hexPart at this ⊢; rw [List.length_take] at this; omega
        clear hM2 hn
        by_cases hn0 : 0 < n
        · have hl2 : literal (bl s) = (hexVal ((hexPart (bl s)).take n), 2 + n) := by rw [HLI.out, if_pos hn0]
          have HL2 := Lib.hid hl2
          clear hl2
          go_wp2_with fail
          go_ret2
          exact ⟨ret_fi (by rw [HL2.out]) (by rw [HL2.out]; exact (Int.natCast_add 2 n).symm), Below.refl _ _⟩
        · have hl2 : literal (bl s) = if (numeral (bl s)).2.2 = 0 then (0, 0) else (readNum (numeral (bl s)).1 (numeral (bl s)).2.1, (numeral (bl s)).2.2) := by rw [HLI.out, if_neg hn0]
          have HL2 := Lib.hid hl2
          clear hl2
          go_wp2_with fail
          go_meet
          exact ⟨HL2, Below.refl _ _⟩
    case rest =>
      obtain ⟨hlit, hb⟩ := hcut
      have hnum := Lib.hid (numeral_any s wc hs)
      go_wp2_with fail
      refine hnum.out.mono ?_
      rintro e w1 ⟨t, rfl, ht, hb1⟩
      have HB1 := Lib.hid (hb.out.trans (hb1.mono hb.out.size))
      obtain ⟨X, hX⟩ : ∃ X, X = numeral (bl s) := ⟨_, rfl⟩
      rw [← hX] at HNL hlit ht ⊢
      obtain ⟨q, x, n⟩ := X
      simp only [] at HNL hlit ht ⊢
      clear hX hnum hb1 hb
      by_cases hn : n = 0
      · subst hn
        have hl2 : literal (bl s) = (0, 0) := by rw [hlit.out, if_pos rfl]
        have HL2 := Lib.hid hl2
        clear hl2
        go_wp2_with fail
        go_ret2
        exact ⟨by rw [HL2.out]; rfl, HB1.out⟩
      · have hl2 : literal (bl s) = (readNum q x, n) := by rw [hlit.out, if_neg hn]
        have HL2 := Lib.hid hl2
        have hx := HNL.out
        have hrd := readNum_any t x w1 (by rw [← bl_len, ht]; omega) (by rw [ht]; exact hx.1) (by omega) (by omega)
        rw [ht] at hrd
        have HRD := Lib.hid hrd
        have hnz : ((n : Int) == 0) = false := beq_eq_false_iff_ne.2 (by omega)
        clear hl2 hx hrd ht
        go_wp2_with fail
        refine HRD.out.mono ?_
        rintro e w2 ⟨rfl, hb2⟩
        have HB2 := Lib.hid (HB1.out.trans (hb2.mono HB1.out.size))
        clear hb2
        go_wp2_with fail
        go_ret2
        exact ⟨by rw [HL2.out]; rfl, HB2.out⟩

end Go.Proofs.YtifcibbhblhfiaaGreatDoor
