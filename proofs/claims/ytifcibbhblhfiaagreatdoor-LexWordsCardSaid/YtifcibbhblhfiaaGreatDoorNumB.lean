/- Walks of package num: the numeral that a text begins with. -/
import Derived.Test.YtifcibbhblhfiaaGreatDoorNumA
import Derived.Deep.DeepCutAuto
namespace Go.Proofs.YtifcibbhblhfiaaGreatDoor
open Go.RowKit Pl
set_option linter.unusedVariables false

def mant (l : List UInt8) : List UInt8 × Int × Nat :=
  if Lib.hasPrefix (l.drop (ndig l)) [46] = true ∧ 0 < ndig l + ndig (l.drop (ndig l + 1)) then
    (l.take (ndig l) ++ (l.drop (ndig l + 1)).take (ndig (l.drop (ndig l + 1))), -(ndig (l.drop (ndig l + 1)) : Int), ndig l + 1 + ndig (l.drop (ndig l + 1)))
  else (l.take (ndig l), 0, ndig l)

def expo (r : List UInt8) : Int × Nat :=
  if 0 < r.length ∧ (byt r 0 = 101 ∨ byt r 0 = 69) then
    if 1 < r.length ∧ (byt r 1 = 43 ∨ byt r 1 = 45) then
      if 0 < ndig (r.drop 2) then (powI ((r.drop 2).take (ndig (r.drop 2))) (decide (byt r 1 = 45)), 2 + ndig (r.drop 2)) else (0, 0)
    else if 0 < ndig (r.drop 1) then (powI ((r.drop 1).take (ndig (r.drop 1))) false, 1 + ndig (r.drop 1)) else (0, 0)
  else (0, 0)

def numeral (l : List UInt8) : List UInt8 × Int × Nat :=
  if (mant l).1 = [] then ([], 0, 0)
  else ((mant l).1, (mant l).2.1 + (expo (l.drop (mant l).2.2)).1, (mant l).2.2 + (expo (l.drop (mant l).2.2)).2)

theorem hasPrefix_any (s p : ByteArray) (w : World) : Calls Tryz.prog 39 #[.string s, .string p] w fun e w' => e = .returned (.bool (Lib.hasPrefix (bl s) (bl p))) ∧ w = w' :=
  (Tryz.strings_HasPrefix s p w).mono fun _ _ ⟨h1, h2⟩ => ⟨h1, h2.symm⟩

theorem hasPrefix_one (l : List UInt8) (c : UInt8) : Lib.hasPrefix l [c] = true ↔ 0 < l.length ∧ byt l 0 = c.toNat := by
  cases l with
  | nil => simp [Lib.hasPrefix]
  | cons x l =>
    simp only [Lib.hasPrefix, List.isPrefixOf, Bool.and_true, beq_iff_eq, List.length_cons, Nat.zero_lt_succ, true_and, byt, List.getElem?_cons_zero, Option.getD_some]
    constructor
    · rintro rfl; rfl
    · intro h; exact (UInt8.toNat_inj.1 h).symm

theorem ret_num (t : ByteArray) {a b c d : Int} (h1 : a = b) (h2 : c = d) : Ending.returned (.tuple #[.string t, .int .i64 a, .int .i64 c]) = .returned (.tuple #[.string t, .int .i64 b, .int .i64 d]) := by rw [h1, h2]

set_option maxRecDepth 100000 in
set_option maxHeartbeats 2000000 in
theorem numeral_any (s : ByteArray) (w : World) (hs : s.size ≤ 100000000) :
    Calls Tryz.prog 53 #[.string s] w fun e w' => ∃ t, e = .returned (.tuple #[.string t, .int .i64 (numeral (bl s)).2.1, .int .i64 ((numeral (bl s)).2.2 : Int)]) ∧ bl t = (numeral (bl s)).1 ∧ Below w.heap.size w w' := by
  have hd := Lib.hid (digits_any s w (by omega))
  have hn := ndig_le (bl s)
  rw [bl_len] at hn
  obtain ⟨n, hnn⟩ : ∃ n, n = ndig (bl s) := ⟨_, rfl⟩
  rw [← hnn] at hn hd
  have HNN := Lib.hid hnn; clear hnn
  go_enter Tryz.func53, Tryz.ntmps53
  go_wp2_with fail
  refine hd.out.mono ?_
  rintro e w1 ⟨rfl, hb1⟩
  have HB1 := Lib.hid hb1; clear hb1
  go_wp2_with fail
  have hp := hasPrefix_any (s.extract n s.size) ⟨#[46]⟩ w1
  rw [bl_from, bl_mk [46]] at hp
  obtain ⟨P, hP⟩ : ∃ P, P = Lib.hasPrefix ((bl s).drop n) [46] := ⟨_, rfl⟩
  rw [← hP] at hp
  have HP := Lib.hid hP; clear hP
  refine hp.mono ?_
  rintro e w' ⟨rfl, rfl⟩
  go_upto_if 23 with (fail)
  have HL := Lib.hid (bl_len s)
  go_cut [6, 7, 8] (fun v6 v7 v8 wx => ∃ (t : ByteArray) (e : Int) (a : Nat), v6 = .string t ∧ v7 = .int .i64 e ∧ v8 = .int .i64 (a : Int) ∧ a ≤ s.size ∧ -100000000 ≤ e ∧ e ≤ 0 ∧ Hid (bl t = (mant (bl s)).1) ∧ Hid (e = (mant (bl s)).2.1) ∧ Hid (a = (mant (bl s)).2.2) ∧ Hid (Below w.heap.size w wx))
  case first =>
    cases hPP : P with
    | false =>
      have hm : mant (bl s) = ((bl s).take n, 0, n) := by unfold mant; rw [← HNN.out, ← HP.out, hPP, if_neg (by simp)]
      have HM := Lib.hid hm
      clear hm hPP
      go_wp2
      go_meet
      refine ⟨_, 0, n, rfl, rfl, rfl, hn, by decide, Int.le_refl _, ?_, ?_, ?_, HB1.out⟩
      · show _ = _
        rw [HM.out, bl_cut, List.drop_zero, Nat.sub_zero]
      · show _ = _
        rw [HM.out]
      · show _ = _
        rw [HM.out]
    | true =>
      have hpt := (hasPrefix_one ((bl s).drop n) 46).1 (by rw [← HP.out, hPP])
      have hn1 : n + 1 ≤ s.size := by have := hpt.1; rw [List.length_drop, bl_len] at this; omega
      have hd2 := digits_any (s.extract (n + 1) s.size) w1 (by have := bl_len (s.extract (n + 1) s.size); rw [bl_from, List.length_drop, bl_len] at this; omega)
      rw [bl_from] at hd2
      have hk := ndig_le ((bl s).drop (n + 1))
      rw [List.length_drop, bl_len] at hk
      obtain ⟨k, hkk⟩ : ∃ k, k = ndig ((bl s).drop (n + 1)) := ⟨_, rfl⟩
      rw [← hkk] at hd2 hk
      have hm : mant (bl s) = if 0 < n + k then ((bl s).take n ++ ((bl s).drop (n + 1)).take k, -(k : Int), n + 1 + k) else ((bl s).take n, 0, n) := by
        unfold mant; rw [← HNN.out, ← HP.out, hPP, ← hkk]; simp
      have HM := Lib.hid hm; have HD2 := Lib.hid hd2
      clear hm hPP hkk hd2 hpt
      go_wp2_with fail
      refine HD2.out.mono ?_
      rintro e w2 ⟨rfl, hb2⟩
      have HB2 := Lib.hid (HB1.out.trans (hb2.mono HB1.out.size))
      clear hb2
      by_cases hnk : 0 < n + k
      · have hm2 : mant (bl s) = ((bl s).take n ++ ((bl s).drop (n + 1)).take k, -(k : Int), n + 1 + k) := by rw [HM.out, if_pos hnk]
        have HM2 := Lib.hid hm2; clear hm2
        go_wp2
        go_meet
        refine ⟨_, -(k : Int), n + 1 + k, rfl, rfl, by rw [show ((n + 1 + k : Nat) : Int) = (n : Int) + 1 + (k : Int) by omega], by omega, by omega, by omega, ?_, ?_, ?_, HB2.out⟩
        · show _ = _
          rw [HM2.out, bl_app, bl_cut, bl_cut, List.drop_zero, Nat.sub_zero, Nat.add_sub_cancel_left]
        · show _ = _
          rw [HM2.out]
        · show _ = _
          rw [HM2.out]
      · have hm2 : mant (bl s) = ((bl s).take n, 0, n) := by rw [HM.out, if_neg hnk]
        have HM2 := Lib.hid hm2; clear hm2
        go_wp2
        go_meet
        refine ⟨_, 0, n, rfl, rfl, rfl, hn, by decide, Int.le_refl _, ?_, ?_, ?_, HB2.out⟩
        · show _ = _
          rw [HM2.out, bl_cut, List.drop_zero, Nat.sub_zero]
        · show _ = _
          rw [HM2.out]
        · show _ = _
          rw [HM2.out]
  case rest =>
    obtain ⟨t, e, a, rfl, rfl, rfl, ha, he1, he2, ht, he, haa, hb⟩ := hcut
    by_cases hnil : (mant (bl s)).1 = []
    · have hte : t.toList.isEmpty = true := by rw [bl_empty, ht.out, hnil]; rfl
      have hnu : numeral (bl s) = ([], 0, 0) := by unfold numeral; rw [if_pos hnil]
      have HNU := Lib.hid hnu
      clear hnu hnil
      go_wp2
      go_ret3
      exact ⟨⟨#[]⟩, by rw [HNU.out]; rfl, by rw [HNU.out]; rfl, hb.out⟩
    · have hte : t.toList.isEmpty = false := by rw [bl_empty, ht.out, List.isEmpty_eq_false_iff]; exact hnil
      have hnu : numeral (bl s) = ((mant (bl s)).1, e + (expo ((bl s).drop a)).1, a + (expo ((bl s).drop a)).2) := by unfold numeral; rw [if_neg hnil, ← he.out, ← haa.out]
      have HNU := Lib.hid hnu
      clear hnu hnil
      go_upto_region 10 with (fail)
      obtain ⟨r, hr⟩ : ∃ r, r = s.extract a s.size := ⟨_, rfl⟩
      rw [← hr]
      have hrb : bl r = (bl s).drop a := by rw [hr, bl_from]
      have hrl := bl_len r
      have hg := get_byt r
      have hrs : r.size ≤ 100000000 := by rw [← hrl, hrb, List.length_drop, bl_len]; omega
      have hra : r.size + a = s.size := by rw [← hrl, hrb, List.length_drop, bl_len]; omega
      have HRB := Lib.hid hrb; have HRL := Lib.hid hrl; have HR := Lib.hid hr; have HRA := Lib.hid hra
      rw [← hrb] at HNU
      clear hr hrb hrl hra
      obtain ⟨T, hT⟩ : ∃ T : Bool, T = decide (0 < r.size ∧ (byt (bl r) 0 = 101 ∨ byt (bl r) 0 = 69)) := ⟨_, rfl⟩
      have HT := Lib.hid hT; clear hT
      go_cut [65] (fun v wx => v = .bool T ∧ Hid (Below w.heap.size w wx))
      case first =>
        have hemp : r.toList.isEmpty = decide (r.size = 0) := by
          rw [bl_empty]
          cases h : bl r with
          | nil =>
            have : r.size = 0 := by rw [← HRL.out, h]; rfl
            rw [decide_eq_true this]; rfl
          | cons x l =>
            have : ¬ r.size = 0 := by rw [← HRL.out, h]; simp
            rw [decide_eq_false this]; rfl
        by_cases h0 : r.size = 0
        · have he : r.toList.isEmpty = true := by rw [hemp, decide_eq_true h0]
          have hT : T = false := by rw [HT.out]; apply decide_eq_false; omega
          clear hemp
          subst hT
          go_wp2_with fail
          go_meet
          exact ⟨rfl, hb.out⟩
        · have he : r.toList.isEmpty = false := by rw [hemp, decide_eq_false h0]
          have h0' : 0 < r.size := by omega
          clear hemp
          by_cases h1 : byt (bl r) 0 = 101
          · have h1' : ((byt (bl r) 0 : Int) == 101) = true := by rw [h1]; rfl
            have hT : T = true := by rw [HT.out]; apply decide_eq_true; omega
            have H1 := Lib.hid h1; clear h1
            subst hT
            go_wp2_with fail
            go_meet
            exact ⟨rfl, hb.out⟩
          · have h1' : ((byt (bl r) 0 : Int) == 101) = false := beq_eq_false_iff_ne.2 (by omega)
            by_cases h2 : byt (bl r) 0 = 69
            · have h2' : ((byt (bl r) 0 : Int) == 69) = true := by rw [h2]; rfl
              have hT : T = true := by rw [HT.out]; apply decide_eq_true; omega
              have H2 := Lib.hid h2; clear h2
              subst hT
              go_wp2_with fail
              go_meet
              exact ⟨rfl, hb.out⟩
            · have h2' : ((byt (bl r) 0 : Int) == 69) = false := beq_eq_false_iff_ne.2 (by omega)
              have hT : T = false := by rw [HT.out]; apply decide_eq_false; omega
              subst hT
              go_wp2_with fail
              go_meet
              exact ⟨rfl, hb.out⟩
      case rest =>
        obtain ⟨rfl, hb2⟩ := hcut
        have hex : expo (bl r) = if T = true then if 1 < r.size ∧ (byt (bl r) 1 = 43 ∨ byt (bl r) 1 = 45) then
            if 0 < ndig ((bl r).drop 2) then (powI (((bl r).drop 2).take (ndig ((bl r).drop 2))) (decide (byt (bl r) 1 = 45)), 2 + ndig ((bl r).drop 2)) else (0, 0)
          else if 0 < ndig ((bl r).drop 1) then (powI (((bl r).drop 1).take (ndig ((bl r).drop 1))) false, 1 + ndig ((bl r).drop 1)) else (0, 0) else (0, 0) := by
          unfold expo
          rw [HT.out, HRL.out]
          simp only [decide_eq_true_eq]
        have HEX := Lib.hid hex
        clear hex
        cases hTT : T with
        | false =>
          have he2 : expo (bl r) = (0, 0) := by rw [HEX.out, hTT]; rfl
          have HE2 := Lib.hid he2
          clear he2 hTT
          go_wp2_with fail
          go_ret3
          refine ⟨t, ?_, by rw [HNU.out]; exact ht.out, hb2.out⟩
          rw [HNU.out, HE2.out, Int.add_zero, Nat.add_zero]; rfl
        | true =>
          have h0 : 0 < r.size := by have := HT.out; rw [hTT] at this; have := of_decide_eq_true this.symm; exact this.1
          rw [hTT] at HEX
          clear hTT
          go_upto_region 12 with (fail)
          obtain ⟨k, m, hkm, hk2⟩ : ∃ (k : Nat) (m : Bool), Hid (expo (bl r) = if 0 < ndig ((bl r).drop k) then (powI (((bl r).drop k).take (ndig ((bl r).drop k))) m, k + ndig ((bl r).drop k)) else (0, 0)) ∧
              ((1 < r.size ∧ byt (bl r) 1 = 43 ∧ k = 2 ∧ m = false) ∨ (1 < r.size ∧ byt (bl r) 1 = 45 ∧ k = 2 ∧ m = true) ∨ (¬ 1 < r.size ∧ k = 1 ∧ m = false) ∨ (1 < r.size ∧ byt (bl r) 1 ≠ 43 ∧ byt (bl r) 1 ≠ 45 ∧ k = 1 ∧ m = false)) := by
            by_cases h1 : 1 < r.size
            · by_cases h2 : byt (bl r) 1 = 43
              · exact ⟨2, false, by show _ = _; rw [HEX.out, if_pos rfl, if_pos ⟨h1, .inl h2⟩, decide_eq_false (by omega)], .inl ⟨h1, h2, rfl, rfl⟩⟩
              · by_cases h3 : byt (bl r) 1 = 45
                · exact ⟨2, true, by show _ = _; rw [HEX.out, if_pos rfl, if_pos ⟨h1, .inr h3⟩, decide_eq_true h3], .inr (.inl ⟨h1, h3, rfl, rfl⟩)⟩
                · exact ⟨1, false, by show _ = _; rw [HEX.out, if_pos rfl, if_neg (by omega)], .inr (.inr (.inr ⟨h1, h2, h3, rfl, rfl⟩))⟩
            · exact ⟨1, false, by show _ = _; rw [HEX.out, if_pos rfl, if_neg (by omega)], .inr (.inr (.inl ⟨h1, rfl, rfl⟩))⟩
          have HK2 := Lib.hid hk2
          have hkr : k ≤ r.size ∧ 1 ≤ k := by omega
          clear hk2
          obtain ⟨sg, hsg⟩ : ∃ sg : Bool, sg = decide (k = 2) := ⟨_, rfl⟩
          have HSG := Lib.hid hsg; clear hsg
          go_cut [78] (fun v wx => v = .bool sg ∧ Hid (Below w.heap.size w wx))
          case first =>
            rcases HK2.out with ⟨h1, h2, h3, h4⟩ | ⟨h1, h2, h3, h4⟩ | ⟨h1, h3, h4⟩ | ⟨h1, h2, h2', h3, h4⟩
            · have e1 : ((byt (bl r) 1 : Int) == 43) = true := by rw [h2]; rfl
              have hs : sg = true := by rw [HSG.out, h3]; rfl
              have H2 := Lib.hid h2; have H3 := Lib.hid h3; have H4 := Lib.hid h4
              clear h2 h3 h4
              subst hs
              go_wp2_with fail
              go_meet
              exact ⟨rfl, hb2.out⟩
            · have e1 : ((byt (bl r) 1 : Int) == 43) = false := beq_eq_false_iff_ne.2 (by omega)
              have e2 : ((byt (bl r) 1 : Int) == 45) = true := by rw [h2]; rfl
              have hs : sg = true := by rw [HSG.out, h3]; rfl
              have H2 := Lib.hid h2; have H3 := Lib.hid h3; have H4 := Lib.hid h4
              clear h2 h3 h4
              subst hs
              go_wp2_with fail
              go_meet
              exact ⟨rfl, hb2.out⟩
            · have hs : sg = false := by rw [HSG.out, h3]; rfl
              have H3 := Lib.hid h3; have H4 := Lib.hid h4
              clear h3 h4
              subst hs
              go_wp2_with fail
              go_meet
              exact ⟨rfl, hb2.out⟩
            · have e1 : ((byt (bl r) 1 : Int) == 43) = false := beq_eq_false_iff_ne.2 (by omega)
              have e2 : ((byt (bl r) 1 : Int) == 45) = false := beq_eq_false_iff_ne.2 (by omega)
              have hs : sg = false := by rw [HSG.out, h3]; rfl
              have H3 := Lib.hid h3; have H4 := Lib.hid h4
              clear h3 h4
              subst hs
              go_wp2_with fail
              go_meet
              exact ⟨rfl, hb2.out⟩
          case rest =>
            clear hb2
            obtain ⟨rfl, hb2⟩ := hcut
            go_upto_if 78 with (fail)
            go_cut [11, 12] (fun vk vm wx => vk = .int .i64 (k : Int) ∧ vm = .bool m ∧ Hid (Below w.heap.size w wx))
            case first =>
              rcases HK2.out with ⟨h1, h2, h3, h4⟩ | ⟨h1, h2, h3, h4⟩ | ⟨h1, h3, h4⟩ | ⟨h1, h2, h2', h3, h4⟩
              · have e1 : ((byt (bl r) 1 : Int) == 45) = false := beq_eq_false_iff_ne.2 (by omega)
                have hs : sg = true := by rw [HSG.out, h3]; rfl
                have H2 := Lib.hid h2; clear h2
                subst h3 h4 hs
                go_wp2_with fail
                go_quiet (fail)
                go_wp2_with fail
                go_meet
                exact ⟨rfl, rfl, below_drewN hb2.out _⟩
              · have e1 : ((byt (bl r) 1 : Int) == 45) = true := by rw [h2]; rfl
                have hs : sg = true := by rw [HSG.out, h3]; rfl
                have H2 := Lib.hid h2; clear h2
                subst h3 h4 hs
                go_wp2_with fail
                go_quiet (fail)
                go_wp2_with fail
                go_meet
                exact ⟨rfl, rfl, below_drewN hb2.out _⟩
              · have hs : sg = false := by rw [HSG.out, h3]; rfl
                subst h3 h4 hs
                go_wp2_with fail
                go_meet
                exact ⟨rfl, rfl, hb2.out⟩
              · have hs : sg = false := by rw [HSG.out, h3]; rfl
                subst h3 h4 hs
                go_wp2_with fail
                go_meet
                exact ⟨rfl, rfl, hb2.out⟩
            case rest =>
              clear hb2
              obtain ⟨rfl, rfl, hb2⟩ := hcut
              obtain ⟨hk1, hk3⟩ := hkr
              go_wp2_with fail
              have hsz : (r.extract k r.size).size = r.size - k := by rw [← bl_len, bl_from, List.length_drop, bl_len]
              have hdk := digits_any (r.extract k r.size) wc (by rw [hsz]; omega)
              rw [bl_from] at hdk
              have hml := ndig_le ((bl r).drop k)
              rw [List.length_drop, bl_len] at hml
              obtain ⟨M, hM⟩ : ∃ M, M = ndig ((bl r).drop k) := ⟨_, rfl⟩
              have hdg := ndig_digs ((bl r).drop k)
              have hkm2 := hkm.out
              rw [← hM] at hdk hml hdg hkm2
              have HKM := Lib.hid hkm2; have HDG := Lib.hid hdg
              clear hM hkm2 hdg hsz
              refine hdk.mono ?_
              rintro e' w5 ⟨rfl, hb5⟩
              have HB5 := Lib.hid (hb2.out.trans (hb5.mono hb2.out.size))
              clear hb5 hdk
              by_cases hM0 : 0 < M
              · have hex2 : expo (bl r) = (powI (((bl r).drop k).take M) m, k + M) := by rw [HKM.out, if_pos hM0]
                have HE2 := Lib.hid hex2; clear hex2
                have hpb : bl (r.extract k (k + M)) = ((bl r).drop k).take M := by rw [bl_cut, Nat.add_sub_cancel_left]
                have hpw := power_any (r.extract k (k + M)) m w5 (by rw [← bl_len, hpb, List.length_take]; omega) (by rw [hpb]; exact HDG.out)
                rw [hpb] at hpw
                have hpl := powI_le (((bl r).drop k).take M) m
                have HPW := Lib.hid hpw
                clear hpw hpb
                go_wp2_with fail
                refine HPW.out.mono ?_
                rintro e' w6 ⟨rfl, hb6⟩
                have HB6 := Lib.hid (HB5.out.trans (hb6.mono HB5.out.size))
                clear hb6
                obtain ⟨hp1, hp2⟩ := hpl
                generalize powI (((bl r).drop k).take M) m = pw at *
                go_wp2_with fail
                go_ret3
                refine ⟨t, ?_, by rw [HNU.out]; exact ht.out, HB6.out⟩
                rw [HNU.out, HE2.out]
                refine ret_num t ?_ ?_
                · rfl
                · show (a : Int) + ((k : Int) + (M : Int)) = ((a + (k + M) : Nat) : Int)
                  omega
              · have hex2 : expo (bl r) = (0, 0) := by rw [HKM.out, if_neg hM0]
                have HE2 := Lib.hid hex2; clear hex2
                go_wp2_with fail
                go_ret3
                refine ⟨t, ?_, by rw [HNU.out]; exact ht.out, HB5.out⟩
                rw [HNU.out, HE2.out, Int.add_zero, Nat.add_zero]; rfl

end Go.Proofs.YtifcibbhblhfiaaGreatDoor
