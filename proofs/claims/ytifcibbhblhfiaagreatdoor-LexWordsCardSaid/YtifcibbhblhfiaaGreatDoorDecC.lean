/- Walks of package dec: reading digits and a power of ten. -/
import Derived.Test.YtifcibbhblhfiaaGreatDoorStr
namespace Go.Proofs.YtifcibbhblhfiaaGreatDoor
open Go.RowKit Pl
set_option linter.unusedVariables false

def stripZ (l : List UInt8) : List UInt8 := Lib.trimLeftS l [48]

def readBits (l : List UInt8) (exp : Int) : Nat :=
  if (stripZ l).length = 0 ∨ exp < -4000 then 0
  else if 2000 < exp ∨ 310 < ((stripZ l).length : Int) + exp then 9218868437227405312
  else if ((stripZ l).length : Int) + exp < -330 then 0
  else nearestBits (decVal (stripZ l) * 10 ^ exp.toNat) (10 ^ (-exp).toNat)

theorem strip_suffix (l : List UInt8) : stripZ l <:+ l := List.dropWhile_suffix _
theorem strip_len (l : List UInt8) : (stripZ l).length ≤ l.length := (strip_suffix l).length_le

theorem isDigs_suffix {l m : List UInt8} (h : m <:+ l) (hl : isDigs l) : isDigs m := by
  obtain ⟨p, rfl⟩ := h
  intro i hi
  have := hl (p.length + i) (by simp; omega)
  unfold byt at *
  rwa [List.getElem?_append_right (by omega), Nat.add_sub_cancel_left] at this

theorem dropWhile_all {α : Type} (p : α → Bool) : ∀ (l : List α), (∀ x ∈ l, p x = true) → l.dropWhile p = []
  | [], _ => rfl
  | x :: l, h => by
    rw [List.dropWhile_cons_of_pos (h x List.mem_cons_self)]
    exact dropWhile_all p l fun y hy => h y (List.mem_cons_of_mem _ hy)

theorem trimS_digs {l : List UInt8} (h : isDigs l) : Lib.trimS l (bl digCut) = [] := by
  have hall : ∀ c ∈ l, (bl digCut).contains c = true := by
    intro c hc
    obtain ⟨i, hi, rfl⟩ := List.getElem_of_mem hc
    have := h i hi
    rw [byt_eq l i hi] at this
    exact (isD_iff _).2 this
  unfold Lib.trimS Lib.trimRightS Lib.trimLeftS
  have : l.reverse.dropWhile (fun x => (bl digCut).contains x) = [] := dropWhile_all _ _ fun c hc => hall c (List.mem_reverse.1 hc)
  rw [this]; rfl

theorem foldl_lt (l : List UInt8) (v : Nat) (h : isDigs l) : l.foldl (fun v c => 10 * v + (c.toNat - 48)) v < 10 ^ l.length * (v + 1) := by
  induction l generalizing v with
  | nil => simp
  | cons c l ih =>
    have h0 := h 0 (by simp)
    rw [byt_eq _ 0 (by simp)] at h0
    simp only [List.getElem_cons_zero] at h0
    have h1 := ih (10 * v + (c.toNat - 48)) (isDigs_suffix (List.suffix_cons c l) h)
    rw [List.foldl_cons, List.length_cons, Nat.pow_succ]
    have h2 : 10 ^ l.length * (10 * v + (c.toNat - 48) + 1) ≤ 10 ^ l.length * (10 * (v + 1)) := Nat.mul_le_mul_left _ (by omega)
    rw [← Nat.mul_assoc] at h2
    omega

theorem decVal_lt (l : List UInt8) (h : isDigs l) : decVal l < 10 ^ l.length := by
  have := foldl_lt l 0 h
  unfold decVal
  omega

theorem ten_two (k : Nat) : 10 ^ k ≤ 2 ^ (4 * k) := by
  rw [Nat.pow_mul]; exact Nat.pow_le_pow_left (by decide) k

theorem ten_two3 (k : Nat) : 10 ^ (3 * k) ≤ 2 ^ (10 * k) := by
  rw [Nat.pow_mul, Nat.pow_mul]; exact Nat.pow_le_pow_left (by decide) k

theorem fits_two {n k K : Nat} (h : n < 2 ^ k) (hk : k ≤ 32 * K) : (limbs n).length ≤ K := by
  apply limbs_length_le
  rw [pow32]
  exact Nat.lt_of_lt_of_le h (Nat.pow_le_pow_right (by decide) hk)

theorem fits_ten {n k K : Nat} (h : n ≤ 10 ^ k) (hk : 4 * k + 1 ≤ 32 * K) : (limbs n).length ≤ K :=
  fits_two (k := 4 * k + 1) (Nat.lt_of_le_of_lt (Nat.le_trans h (ten_two k)) (Nat.pow_lt_pow_right (by decide) (by omega))) hk

theorem fits_mul {n k q K : Nat} (h : n ≤ 10 ^ k) (hk : 4 * k + q + 2 ≤ 32 * K) : (limbs (n * 2 ^ q + 1)).length ≤ K := by
  refine fits_two (k := 4 * k + q + 2) ?_ hk
  have h6 : n * 2 ^ q ≤ 2 ^ (4 * k + q) := by rw [Nat.pow_add]; exact Nat.mul_le_mul_right _ (Nat.le_trans h (ten_two k))
  have h7 : 0 < 2 ^ (4 * k + q) := Nat.two_pow_pos _
  rw [Nat.pow_succ 2 (4 * k + q + 1), Nat.pow_succ 2 (4 * k + q)]
  omega

theorem blen_mono {a b : Nat} (h : a ≤ b) : blen a ≤ blen b := blen_le_of_lt (Nat.lt_of_le_of_lt h (blen_lt_pow b))
theorem blen_mul_two (a k : Nat) : blen (a * 2 ^ k) ≤ blen a + k := by
  apply blen_le_of_lt
  rw [Nat.pow_add]
  exact Nat.mul_lt_mul_of_pos_right (blen_lt_pow a) (Nat.two_pow_pos k)

/-- The sizes of what Read reckons with. -/
theorem read_sizes (l : List UInt8) (exp : Int) (h : isDigs l) (hl : l.length ≤ 1024) (h1 : -4000 ≤ exp) (h2 : exp ≤ 2000) (h3 : (l.length : Int) + exp ≤ 310) (h4 : -330 ≤ (l.length : Int) + exp) :
    (limbs (decVal l * 10 ^ exp.toNat)).length ≤ 256 ∧ (∀ k, k ≤ 1074 → (limbs (decVal l * 10 ^ exp.toNat * 2 ^ k + 1)).length ≤ 256) ∧ (∀ k, k ≤ 1040 → (limbs (10 ^ (-exp).toNat * 2 ^ k)).length ≤ 256) ∧ (limbs (10 ^ (-exp).toNat)).length ≤ 256 ∧
    (limbs (10 ^ exp.toNat)).length ≤ 256 ∧ (limbs (decVal l)).length ≤ 256 ∧ blen (decVal l * 10 ^ exp.toNat) ≤ blen (10 ^ (-exp).toNat) + 1090 := by
  have hv := decVal_lt l h
  have hn : decVal l * 10 ^ exp.toNat ≤ 10 ^ (l.length + exp.toNat) := by rw [Nat.pow_add]; exact Nat.mul_le_mul_right _ (Nat.le_of_lt hv)
  have hle : l.length + exp.toNat ≤ 1024 := by omega
  have hd : (-exp).toNat ≤ 1354 := by omega
  refine ⟨fits_ten hn (by omega), fun k hk => fits_mul hn (by omega), fun k hk => Nat.le_trans (limbs_length_mono (Nat.le_succ _)) (fits_mul (Nat.le_refl _) (by omega)), fits_ten (Nat.le_refl _) (by omega), fits_ten (Nat.le_refl _) (by omega), fits_ten (Nat.le_of_lt hv) (by omega), ?_⟩
  · have h5 : ∀ k q, l.length + exp.toNat ≤ (-exp).toNat + 3 * k → q = 10 * k → decVal l * 10 ^ exp.toNat ≤ 10 ^ (-exp).toNat * 2 ^ q := by
      intro k q hk hq
      have h6 : 10 ^ (l.length + exp.toNat) ≤ 10 ^ (-exp).toNat * 10 ^ (3 * k) := by
        rw [← Nat.pow_add]; exact Nat.pow_le_pow_right (by decide) hk
      have h7 := ten_two3 k
      rw [hq]
      exact Nat.le_trans hn (Nat.le_trans h6 (Nat.mul_le_mul_left _ h7))
    have h8 : ∀ q, q = 10 * 104 → blen (decVal l * 10 ^ exp.toNat) ≤ blen (10 ^ (-exp).toNat) + q := fun q hq =>
      Nat.le_trans (blen_mono (h5 104 q (by omega) hq)) (blen_mul_two _ q)
    have := h8 1040 (by decide)
    omega

set_option maxRecDepth 100000 in
set_option maxHeartbeats 2000000 in
theorem read_any (s : ByteArray) (exp : Int) (w : World) (h0 : 0 < s.size) (hs : s.size ≤ 1024) (hd : isDigs (bl s)) (he1 : -1000000000 ≤ exp) (he2 : exp ≤ 1000000000) :
    Calls Tryz.prog 65 #[.string s, .int .i64 exp] w fun e w' => e = .returned (.tuple #[.float .f64 (readBits (bl s) exp), .int .i64 0]) ∧ Below w.heap.size w w' := by
  have hne : s.toList.isEmpty = false := by
    rw [bl_empty, List.isEmpty_eq_false_iff]
    intro h
    have := bl_len s
    rw [h] at this; simp at this; omega
  have hl := bl_len s
  have HL := Lib.hid hl; clear hl
  have HD := Lib.hid hd; clear hd
  have htr := Lib.hid (trim_str s digCut w (by omega) (by decide) (by decide))
  go_enter Tryz.func65, Tryz.ntmps65
  go_wp2_with fail
  refine htr.out.mono ?_
  rintro e w1 ⟨t1, rfl, ht1, hb1⟩
  rw [trimS_digs HD.out] at ht1
  have he : t1.toList.isEmpty = true := by rw [bl_empty, ht1]; rfl
  have HB1 := Lib.hid hb1; clear ht1 hb1
  obtain ⟨c2, w2, hr2, hc2, hb2, hsz2, hcell2⟩ := conv_bytes (P := Tryz.prog) 9 38 5 s Tryz.underlying9 Tryz.underlying38 Tryz.underlying5 w1
  have HC2 := Lib.hid hcell2; have HB2 := Lib.hid (HB1.out.trans (hb2.mono HB1.out.size))
  clear hcell2 hb2 hsz2
  go_wp2
  go_loop [28] (fun v => ∃ k : Nat, k ≤ s.size ∧ v = .int .i64 (k : Int)) (fun v => (s.size - intOf v).toNat)
  case atStart => exact ⟨0, Nat.zero_le _, rfl⟩
  case round =>
    obtain ⟨k, hk, rfl⟩ := hrel
    by_cases hlt : k < s.size
    · have hc := HC2.out k hlt
      have hdd := HD.out k (by rw [HL.out]; exact hlt)
      have hb : byt (bl s) k < 256 := byt_lt _ k
      have hd1 := hdd.1
      have hd2 := hdd.2
      clear hdd
      rw [show s.data.toList = bl s from rfl] at hc
      go_wp2
      go_round
      case rel => exact ⟨k + 1, by omega, by go_num⟩
      case measure => simp [intOf]; omega
    · obtain rfl : k = s.size := by omega
      have htl := Lib.hid (trimLeft_any s ⟨#[48]⟩ w2 (by decide) (by decide))
      go_wp2_with fail
      refine htl.out.mono ?_
      rintro e w3 ⟨t, rfl, ht, hb3⟩
      have hst : bl t = stripZ (bl s) := ht
      have htl2 := bl_len t
      have hdt : isDigs (bl t) := by rw [hst]; exact isDigs_suffix (strip_suffix _) HD.out
      have htle : t.size ≤ 1024 := by rw [← htl2, hst]; have := strip_len (bl s); rw [HL.out] at this; omega
      have HB3 := Lib.hid (HB2.out.trans (hb3.mono HB2.out.size))
      have hre : readBits (bl s) exp = if t.size = 0 ∨ exp < -4000 then 0 else if 2000 < exp ∨ 310 < (t.size : Int) + exp then 9218868437227405312 else if (t.size : Int) + exp < -330 then 0 else nearestBits (decVal (bl t) * 10 ^ exp.toNat) (10 ^ (-exp).toNat) := by
        unfold readBits; rw [← hst, htl2]
      have HRE := Lib.hid hre; have HDT := Lib.hid hdt; have HST := Lib.hid hst; have HTL := Lib.hid htl2
      clear ht hb3 hst hdt htl2 hre
      by_cases ha : t.size = 0
      · have hz : ((t.size : Int) == 0) = true := by rw [ha]; rfl
        have hre2 : readBits (bl s) exp = 0 := by rw [HRE.out, if_pos (Or.inl ha)]
        have HR2 := Lib.hid hre2
        clear hre2 ha
        go_wp2
        go_ret2
        exact ⟨by rw [HR2.out]; rfl, HB3.out⟩
      · have hz : ((t.size : Int) == 0) = false := beq_eq_false_iff_ne.2 (by omega)
        by_cases hb : exp < -4000
        · have hre2 : readBits (bl s) exp = 0 := by rw [HRE.out, if_pos (Or.inr hb)]
          have HR2 := Lib.hid hre2
          clear hre2
          go_wp2
          go_ret2
          exact ⟨by rw [HR2.out]; rfl, HB3.out⟩
        · by_cases hc : 2000 < exp ∨ 310 < (t.size : Int) + exp
          · have hre2 : readBits (bl s) exp = 9218868437227405312 := by rw [HRE.out, if_neg (by omega), if_pos hc]
            have HR2 := Lib.hid hre2
            clear hre2
            have hinf := inf_any w3
            have HINF := Lib.hid hinf; clear hinf
            by_cases hc1 : 2000 < exp
            · clear hc
              go_wp2_with fail
              refine HINF.out.mono ?_
              rintro e w' ⟨rfl, rfl⟩
              go_wp2
              go_ret2
              exact ⟨by rw [HR2.out]; rfl, HB3.out⟩
            · have hc2 : 310 < (t.size : Int) + exp := by omega
              clear hc
              go_wp2_with fail
              refine HINF.out.mono ?_
              rintro e w' ⟨rfl, rfl⟩
              go_wp2
              go_ret2
              exact ⟨by rw [HR2.out]; rfl, HB3.out⟩
          · have hc1 : exp ≤ 2000 := by omega
            have hc2 : (t.size : Int) + exp ≤ 310 := by omega
            by_cases hd : (t.size : Int) + exp < -330
            · have hre2 : readBits (bl s) exp = 0 := by rw [HRE.out, if_neg (by omega), if_neg hc, if_pos hd]
              have HR2 := Lib.hid hre2
              clear hre2 hc
              go_wp2
              go_ret2
              exact ⟨by rw [HR2.out]; rfl, HB3.out⟩
            · have hre2 : readBits (bl s) exp = nearestBits (decVal (bl t) * 10 ^ exp.toNat) (10 ^ (-exp).toNat) := by rw [HRE.out, if_neg (by omega), if_neg hc, if_neg hd]
              have HR2 := Lib.hid hre2
              have hd2 : -330 ≤ (t.size : Int) + exp := by omega
              obtain ⟨z1, z2, z3, z4, z5, z6, z7⟩ := read_sizes (bl t) exp HDT.out (by rw [HTL.out]; omega) (by omega) hc1 (by rw [HTL.out]; exact hc2) (by rw [HTL.out]; exact hd2)
              have Z1 := Lib.hid z1; have Z2 := Lib.hid z2; have Z3 := Lib.hid z3; have Z4 := Lib.hid z4; have Z5 := Lib.hid z5; have Z6 := Lib.hid z6; have Z7 := Lib.hid z7
              clear z1 z2 z3 z4 z5 z6 z7 hre2 hc hd
              have hpa := Lib.hid (parse_any t w3 (by omega) htle (by intro i hi; exact HDT.out i (by rw [HTL.out]; exact hi)) Z6.out)
              go_wp2_with fail
              refine hpa.out.mono ?_
              rintro e w4 ⟨A4, c4, rfl, _, hr4, hb4⟩
              rw [show t.data.toList = bl t from rfl] at *
              have HR4 := Lib.hid hr4; have HB4 := Lib.hid (HB3.out.trans (hb4.mono HB3.out.size))
              clear hr4 hb4
              have hm1 : max exp 0 = ((exp.toNat : Nat) : Int) := by omega
              have hm2 : max (-exp) 0 = (((-exp).toNat : Nat) : Int) := by omega
              have HM1 := Lib.hid hm1; have HM2 := Lib.hid hm2
              clear hm1 hm2
              go_wp2_with fail
              rw [HM1.out]
              refine (pow10_any exp.toNat w4 (by omega) Z5.out).mono ?_
              rintro e w5 ⟨A5, c5, rfl, hr5, hb5⟩
              have HR5 := Lib.hid hr5; have HB5 := Lib.hid (HB4.out.trans (hb5.mono HB4.out.size)); have HR45 := Lib.hid (HR4.out.below hb5)
              clear hr5 hb5
              go_wp2_with fail
              refine (mul_any A4 A5 c4 c5 _ _ w5 HR45.out HR5.out Z6.out Z5.out Z1.out).mono ?_
              rintro e w6 ⟨A6, c6, rfl, _, hr6, hb6⟩
              have HR6 := Lib.hid hr6; have HB6 := Lib.hid (HB5.out.trans (hb6.mono HB5.out.size))
              clear hr6 hb6
              go_wp2_with fail
              rw [HM2.out]
              refine (pow10_any (-exp).toNat w6 (by omega) Z4.out).mono ?_
              rintro e w7 ⟨A7, c7, rfl, hr7, hb7⟩
              have HR7 := Lib.hid hr7; have HB7 := Lib.hid (HB6.out.trans (hb7.mono HB6.out.size)); have HR67 := Lib.hid (HR6.out.below hb7)
              clear hr7 hb7
              go_wp2_with fail
              refine (nearest_any A6 A7 c6 c7 _ _ w7 HR67.out HR7.out Z7.out (Nat.ne_of_gt (Nat.pow_pos (by decide))) Z2.out Z3.out).mono ?_
              rintro e w8 ⟨rfl, hb8⟩
              have HB8 := Lib.hid (HB7.out.trans (hb8.mono HB7.out.size))
              clear hb8
              go_wp2
              go_ret2
              exact ⟨by rw [HR2.out]; rfl, HB8.out⟩

end Go.Proofs.YtifcibbhblhfiaaGreatDoor
