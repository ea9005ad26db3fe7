/- Walks of package lex: names and words. -/
import Derived.Test.YtifcibbhblhfiaaGreatDoorLexG
import Derived.Test.YtifcibbhblhfiaaGreatDoorLexF
namespace Go.Proofs.YtifcibbhblhfiaaGreatDoor
open Go.RowKit Pl
set_option linter.unusedVariables false

/-- Does a second part of the name stand behind two colons? -/
def wordD (r : List UInt8) : Bool := Lib.hasPrefix (r.drop (nameN r)) [58, 58] && (decide (nameN r + 2 < r.length) && isFirst (byt r (nameN r + 2)))
/-- How long the name or word at hand is. -/
def wordN (r : List UInt8) : Nat := if wordD r = true then nameN r + 2 + nameN (r.drop (nameN r + 2)) else nameN r
theorem wordN_le (r : List UInt8) : wordN r ≤ r.length := by
  unfold wordN
  split
  · rename_i h
    unfold wordD at h
    have h2 : nameN r + 2 < r.length := of_decide_eq_true (Bool.and_eq_true_iff.1 (Bool.and_eq_true_iff.1 h).2).1
    have := nameN_le (r.drop (nameN r + 2))
    rw [List.length_drop] at this
    omega
  · exact nameN_le r

def wordKind (r : List UInt8) : Nat :=
  if isWord ⟨(r.take (wordN r)).toArray⟩ = true then 6 else if Lib.hasPrefix (r.drop (wordN r)) [40] = true then 2 else 1
def wordR (r : List UInt8) (line : Nat) (T : List Tk) : Res := .ok (r.drop (wordN r)) line (T ++ [⟨wordKind r, ⟨(r.take (wordN r)).toArray⟩, 0, line⟩])

def dotsB : ByteArray := ⟨#[58, 58]⟩
def parB : ByteArray := ⟨#[40]⟩

theorem bl_cutk (s : ByteArray) (p n : Nat) : bl (s.extract p (p + n)) = ((bl s).drop p).take n := by rw [bl_cut, Nat.add_sub_cancel_left]

theorem take_dots (r : List UInt8) (n m : Nat) (h : Lib.hasPrefix (r.drop n) [58, 58] = true) : r.take n ++ ([58, 58] ++ (r.drop (n + 2)).take m) = r.take (n + 2 + m) := by
  obtain ⟨t, ht⟩ : ∃ t, r.drop n = [58, 58] ++ t := by
    have := List.isPrefixOf_iff_prefix.1 h
    obtain ⟨t, ht⟩ := this
    exact ⟨t, ht.symm⟩
  have h2 : r.drop (n + 2) = t := by rw [← List.drop_drop, ht]; rfl
  have hn : n ≤ r.length := by
    rcases Nat.lt_or_ge r.length n with h | h
    · rw [List.drop_eq_nil_of_le (by omega)] at ht; exact absurd ht (by simp)
    · exact h
  conv => rhs; rw [← List.take_append_drop n r]
  rw [h2, ht, List.take_append, List.take_take, List.length_take]
  rw [show min (n + 2 + m) n = n by omega, show n + 2 + m - min n r.length = m + 2 by omega]
  rfl

set_option maxRecDepth 100000 in
set_option maxHeartbeats 2000000 in
theorem sc_word (B pos line : Nat) (s : ByteArray) (v : Value) (T : List Tk) (w : World) (h : Sc w B s pos line v T) (hp : pos ≤ s.size) (hs : s.size ≤ 100000000) (hT : T.length ≤ 1000000) (hG : Gl w) :
    Calls Tryz.prog 28 #[.pointer (some ⟨B, 0, none⟩)] w (TokPost w B s (wordR ((bl s).drop pos) line T)) := by
  have hBw := h.lt
  have h0 := h.c0; have h1 := h.c1; have h2 := h.c2; have hf := h.fz 1
  have S := Lib.hid h
  have HG := Lib.hid hG
  have HL := Lib.hid (bl_len s)
  have hdl : ((bl s).drop pos).length = s.size - pos := by rw [List.length_drop, bl_len]
  have HDL := Lib.hid hdl
  obtain ⟨r, hr⟩ : ∃ r, r = (bl s).drop pos := ⟨_, rfl⟩
  rw [← hr]
  have HR := Lib.hid hr
  obtain ⟨n, hn⟩ : ∃ n, n = nameN r := ⟨_, rfl⟩
  have HN := Lib.hid hn
  have hnle : pos + n ≤ s.size := by
    have := nameN_le r
    rw [hr, hdl] at this
    rw [hn, hr]; omega
  have hname : Calls Tryz.prog 40 #[.pointer (some ⟨B, 0, none⟩), .int .i64 (pos : Int)] w fun e w' => ∃ t, e = .returned (.string t) ∧ t.size = n ∧ bl t = r.take n ∧ w = w' := by
    refine (sc_name B pos line pos s v T w h hp hs).mono ?_
    rintro e w' ⟨rfl, rfl⟩
    rw [← hr, ← hn]
    have hb := bl_cutk s pos n
    refine ⟨_, rfl, ?_, by rw [hb, ← hr], rfl⟩
    rw [← bl_len, hb, List.length_take, List.length_drop, bl_len]; omega
  have HNAME := Lib.hid hname
  have hpre : ∀ w, Calls Tryz.prog 39 #[.string (s.extract (pos + n) s.size), .string dotsB] w fun e w' => e = .returned (.bool (Lib.hasPrefix (r.drop n) [58, 58])) ∧ w = w' := by
    intro w
    have := Tryz.strings_HasPrefix (s.extract (pos + n) s.size) dotsB w
    rw [show (s.extract (pos + n) s.size).data.toList = r.drop n by rw [hr, List.drop_drop]; exact bl_from s (pos + n)] at this
    exact this.mono fun _ _ ⟨h1, h2⟩ => ⟨h1, h2.symm⟩
  have HP := Lib.hid hpre
  have hbyt : byt r (n + 2) = byt (bl s) (pos + n + 2) := by rw [hr]; unfold byt; rw [List.getElem?_drop]; congr 3
  have HBY := Lib.hid hbyt
  clear hr hn hname hpre hG hdl hbyt
  go_enter Tryz.func28, Tryz.ntmps28
  go_wp2_with fail
  refine HNAME.out.mono ?_
  rintro e w' ⟨t, rfl, htz, htb, rfl⟩
  have HTB := Lib.hid htb; clear htb
  go_upto_region 2 with (fail)
  have hwd : ∀ b c d, b = Lib.hasPrefix (r.drop n) [58, 58] → (b = true → c = decide (n + 2 < r.length)) → (b = true → c = true → d = isFirst (byt r (n + 2))) → wordD r = (b && (c && d)) := by
    intro b c d h1 h2 h3
    unfold wordD
    rw [← HN.out, ← h1]
    cases b with
    | false => rfl
    | true =>
      rw [← h2 rfl]
      cases c with
      | false => rfl
      | true => rw [← h3 rfl rfl]
  have HWD := Lib.hid hwd; clear hwd
  go_cut [43] (fun v wx => ∃ b, v = .bool b ∧ Hid (b = wordD r) ∧ w = wx)
  case first =>
    go_wp2_with fail
    refine (HP.out _).mono ?_
    rintro e w' ⟨rfl, rfl⟩
    obtain ⟨b, hb⟩ : ∃ b, b = Lib.hasPrefix (r.drop n) [58, 58] := ⟨_, rfl⟩
    rw [← hb]
    have HB := Lib.hid hb; clear hb
    cases b with
    | false =>
      go_wp2_with fail
      go_meet
      exact ⟨false, rfl, (HWD.out false true true HB.out (fun h => by cases h) (fun h => by cases h)).symm, rfl⟩
    | true =>
      by_cases hlt : pos + n + 2 < s.size
      · have hgb := Lib.hid (get_byt s (pos + n + 2) hlt)
        have hfi := Lib.hid (first_any (byt (bl s) (pos + n + 2)) w (byt_lt _ _))
        have hlti : (pos : Int) + (n : Int) + 2 < (s.size : Int) := by omega
        have hgg := hgb.out
        go_wp2_with fail
        refine hfi.out.mono ?_
        rintro e w' ⟨rfl, rfl⟩
        obtain ⟨f, hff⟩ : ∃ f, f = isFirst (byt (bl s) (pos + n + 2)) := ⟨_, rfl⟩
        rw [← hff]
        have HF := Lib.hid hff; clear hff
        have hfin := Lib.hid (HWD.out true true f HB.out (fun _ => (decide_eq_true (by rw [HR.out, HDL.out]; omega)).symm) (fun _ _ => by rw [HBY.out]; exact HF.out))
        cases f with
        | false =>
          go_wp2_with fail
          go_meet
          exact ⟨false, rfl, hfin.out.symm, rfl⟩
        | true =>
          go_wp2_with fail
          go_meet
          exact ⟨true, rfl, hfin.out.symm, rfl⟩
      · have hlti : ¬ ((pos : Int) + (n : Int) + 2 < (s.size : Int)) := by omega
        have hfin := Lib.hid (HWD.out true false true HB.out (fun _ => (decide_eq_false (by rw [HR.out, HDL.out]; omega)).symm) (fun _ h => by cases h))
        go_wp2_with fail
        go_meet
        exact ⟨false, rfl, hfin.out.symm, rfl⟩
  case rest =>
    obtain ⟨d, rfl, hd, rfl⟩ := hcut
    go_upto_if 43 with (fail)
    go_cut [2] (fun v2 wx => ∃ t, v2 = .string t ∧ t.size = wordN r ∧ Hid (bl t = r.take (wordN r)) ∧ w = wx)
    case first =>
      cases d with
      | false =>
        have hwn : Hid (wordN r = n) := by show _ = _; unfold wordN; rw [← hd.out, ← HN.out]; rfl
        go_wp2_with fail
        go_meet
        exact ⟨t, rfl, by rw [hwn.out]; exact htz, by show _ = _; rw [hwn.out]; exact HTB.out, rfl⟩
      | true =>
        have hwn : Hid (wordN r = n + 2 + nameN (r.drop (n + 2))) := by show _ = _; unfold wordN; rw [← hd.out, ← HN.out]; rfl
        have hdd := hd.out.symm
        unfold wordD at hdd
        rw [← HN.out] at hdd
        have hpre := Lib.hid (Bool.and_eq_true_iff.1 hdd).1
        have hlt : n + 2 < r.length := of_decide_eq_true (Bool.and_eq_true_iff.1 (Bool.and_eq_true_iff.1 hdd).2).1
        rw [HR.out, HDL.out] at hlt
        clear hdd
        have hname2 : Calls Tryz.prog 40 #[.pointer (some ⟨B, 0, none⟩), .int .i64 ((pos : Int) + (n : Int) + 2)] w fun e w' => ∃ u, e = .returned (.string u) ∧ bl u = (r.drop (n + 2)).take (nameN (r.drop (n + 2))) ∧ u.size ≤ s.size ∧ w = w' := by
          have hx := sc_name B pos line (pos + n + 2) s v T w S.out (by omega) hs
          rw [show ((pos + n + 2 : Nat) : Int) = (pos : Int) + (n : Int) + 2 by omega] at hx
          refine hx.mono ?_
          rintro e w' ⟨rfl, rfl⟩
          refine ⟨_, rfl, ?_, ?_, rfl⟩
          · rw [bl_cutk, HR.out, List.drop_drop, Nat.add_assoc]
          · rw [← bl_len, bl_cutk, List.length_take, List.length_drop, bl_len]; omega
        have HN2 := Lib.hid hname2; clear hname2
        go_wp2_with fail
        refine HN2.out.mono ?_
        rintro e w' ⟨u, rfl, hub, hus, rfl⟩
        have HU := Lib.hid hub; clear hub
        go_wp2_with fail
        go_meet
        have hbt : bl (t ++ (dotsB ++ u)) = r.take (wordN r) := by
          rw [bl_app, bl_app, HTB.out, HU.out, hwn.out]
          exact take_dots r n _ hpre.out
        refine ⟨_, rfl, ?_, hbt, rfl⟩
        rw [← bl_len]
        show (bl (t ++ (dotsB ++ u))).length = _
        rw [hbt, List.length_take]
        have := wordN_le r
        omega
    case rest =>
      clear htz HTB t
      obtain ⟨t, rfl, htz, htb, rfl⟩ := hcut
      have hwl : pos + wordN r ≤ s.size := by
        have := wordN_le r
        rw [HR.out, HDL.out] at this
        rw [HR.out]; omega
      obtain ⟨N, hN⟩ : ∃ N, N = wordN r := ⟨_, rfl⟩
      rw [← hN] at htz htb hwl
      have HNN := Lib.hid hN; clear hN
      go_upto_block 0 with (fail)
      have S2 : Hid (Sc (w.setCell ⟨B, 1, none⟩ (.int .i64 ((pos : Int) + (N : Int)))) B s (pos + N) line v T) := S.out.set1 (pos + N)
      have X2 : Hid (Below B w (w.setCell ⟨B, 1, none⟩ (.int .i64 ((pos : Int) + (N : Int))))) := (Below.refl B w).setCell (Nat.le_refl B) _
      have hne : 1 ≠ B := by
        obtain ⟨m, hm⟩ := HG.out
        intro h; rw [h, h0] at hm; cases hm
      have G2 : Hid (Gl (w.setCell ⟨B, 1, none⟩ (.int .i64 ((pos : Int) + (N : Int))))) := by
        obtain ⟨m, hm⟩ := HG.out
        exact ⟨m, by rw [World.cell?_of_block (w := w) (heap_setCell_other w ⟨B, 1, none⟩ _ _ hne)]; exact hm⟩
      have hbt : t = ⟨(r.take N).toArray⟩ := bl_ext htb.out
      have HWR : Hid (wordR r line T = .ok ((bl s).drop (pos + N)) line (T ++ [⟨wordKind r, t, 0, line⟩])) := by
        show _ = _
        unfold wordR
        rw [← HNN.out, ← hbt, HR.out, List.drop_drop]
      have HWK : Hid (wordKind r = if isWord t = true then 6 else if Lib.hasPrefix ((bl s).drop (pos + N)) [40] = true then 2 else 1) := by
        show _ = _
        unfold wordKind
        rw [← HNN.out, ← hbt, HR.out, List.drop_drop]
      clear h0 h1 h2 hf hne hbt
      generalize w.setCell ⟨B, 1, none⟩ (.int .i64 ((pos : Int) + (N : Int))) = wa at S2 X2 G2 ⊢
      have h0 := S2.out.c0; have h1 := S2.out.c1; have h2 := S2.out.c2
      have hwd := Lib.hid (lx_word t wa G2.out)
      go_wp2_with fail
      refine hwd.out.mono ?_
      rintro e wb ⟨rfl, hb⟩
      have S3 := Lib.hid (S2.out.below hb)
      have X3 := Lib.hid (X2.out.trans (hb.mono (Nat.le_of_lt S2.out.lt)))
      clear h0 h1 h2 S2 X2 G2 hb hwd
      have h0 := S3.out.c0; have h1 := S3.out.c1; have h2 := S3.out.c2
      obtain ⟨i, hi⟩ : ∃ i, i = isWord t := ⟨_, rfl⟩
      rw [← hi] at HWK ⊢
      clear hi
      cases i with
      | true =>
        have had := Lib.hid (sc_add B (pos + N) line 6 line 0 s t v T wb S3.out hT)
        go_wp2_with fail
        refine had.out.mono ?_
        rintro e w' ⟨v', rfl, hS, hBe⟩
        have HS := Lib.hid hS; have HBW := Lib.hid hBe; clear hS hBe
        go_wp2_with fail
        go_end0
        rw [HWR.out, show wordKind r = 6 from HWK.out]
        exact ⟨v', pos + N, rfl, hwl, rfl, HS.out, X3.out.trans HBW.out⟩
      | false =>
        have hse := Lib.hid (sc_see B (pos + N) line s parB v T wb S3.out hwl)
        go_wp2_with fail
        refine hse.out.mono ?_
        rintro e wc ⟨rfl, m, rfl⟩
        have S4 := Lib.hid (S3.out.drewN m)
        have X4 : Hid (Below B w (wb.drewN m)) := X3.out.trans (Bx.below (Bx.drewN (Bx.refl B B wb) m) (Nat.le_refl _))
        clear h0 h1 h2 S3 X3 hse
        generalize wb.drewN m = wc at S4 X4 ⊢
        have h0 := S4.out.c0; have h1 := S4.out.c1; have h2 := S4.out.c2
        obtain ⟨q, hq⟩ : ∃ q, q = Lib.hasPrefix ((bl s).drop (pos + N)) [40] := ⟨_, rfl⟩
        have hq2 : q = Lib.hasPrefix ((bl s).drop (pos + N)) (bl parB) := hq
        rw [← hq] at HWK
        rw [← hq2]
        clear hq hq2
        cases q with
        | true =>
          have had := Lib.hid (sc_add B (pos + N) line 2 line 0 s t v T wc S4.out hT)
          go_wp2_with fail
          refine had.out.mono ?_
          rintro e w' ⟨v', rfl, hS, hBe⟩
          have HS := Lib.hid hS; have HBW := Lib.hid hBe; clear hS hBe
          go_wp2_with fail
          go_end0
          rw [HWR.out, show wordKind r = 2 from HWK.out]
          exact ⟨v', pos + N, rfl, hwl, rfl, HS.out, X4.out.trans HBW.out⟩
        | false =>
          have had := Lib.hid (sc_add B (pos + N) line 1 line 0 s t v T wc S4.out hT)
          go_wp2_with fail
          refine had.out.mono ?_
          rintro e w' ⟨v', rfl, hS, hBe⟩
          have HS := Lib.hid hS; have HBW := Lib.hid hBe; clear hS hBe
          go_wp2_with fail
          go_end0
          rw [HWR.out, show wordKind r = 1 from HWK.out]
          exact ⟨v', pos + N, rfl, hwl, rfl, HS.out, X4.out.trans HBW.out⟩

end Go.Proofs.YtifcibbhblhfiaaGreatDoor
