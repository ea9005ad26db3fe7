/- Walks of package lex: regular expressions. -/
import Derived.Test.YtifcibbhblhfiaaGreatDoorLexD
import Derived.StillTailTactics
import Derived.Deep.AppendLies
import Derived.Deep.RegionLaw
namespace Go.Proofs.YtifcibbhblhfiaaGreatDoor
open Go.RowKit Pl
set_option linter.unusedVariables false

/-- A regular expression from behind its slash: its bytes, what is left; none: it is none. -/
def slashGo : List UInt8 → List UInt8 → Option (List UInt8 × List UInt8)
  | [], _ => none
  | [b], out => if b.toNat = 10 then none else if b.toNat = 47 then some (out, []) else if b.toNat = 92 then none else none
  | b :: c :: u, out =>
    if b.toNat = 10 then none
    else if b.toNat = 47 then some (out, c :: u)
    else if b.toNat = 92 then (if c.toNat = 10 then none else slashGo u (if c.toNat = 47 then out ++ [c] else out ++ [b, c]))
    else slashGo (c :: u) (out ++ [b])

def slashR (r : List UInt8) (line : Nat) (T : List Tk) : Res :=
  match slashGo r [] with
  | none => .err line 202
  | some (out, rest) => if 1024 < out.length then .err line 202 else .ok rest line (T ++ [⟨5, ⟨out.toArray⟩, 0, line⟩])

theorem slashGo_cons (b : UInt8) (t : List UInt8) (out : List UInt8) : slashGo (b :: t) out = if b.toNat = 10 then none else if b.toNat = 47 then some (out, t) else if b.toNat = 92 then (match t with | [] => none | c :: u => if c.toNat = 10 then none else slashGo u (if c.toNat = 47 then out ++ [c] else out ++ [b, c])) else slashGo t (out ++ [b]) := by
  cases t with
  | nil => simp [slashGo]
  | cons c u => simp [slashGo]

/-- append of m new elements that lie in block H, at a step of a region that draws its order. -/
theorem step_appB {P : Program} {W : World} {ops : Array Oper} {o : Oper} {a : Act} {K : Act → World → Prop} {Q : Exit → Act → World → Prop} {E : Prop} (hgd : o.guard = none) (s x : Operand) (t : TypeId)
    (ho : o.op = .call { callee := .builtin .append, args := #[s, x], argTypes := #[t, t] })
    (base : Nat) (e : TypeId) (z : Value) (size bytes : Nat) (ht : P.underlying t = some (.slice e)) (hinfo : (P.info? e).map (fun i => (i.zero, i.size, i.bytes)) = some (some z, size, bytes))
    (hzs : z.cells.size = size) (hsz : 0 < size)
    (v : Value) (n : Nat) (xs : List Value) (hs : a.eval s = v) (hown : W.ownsRow base e size v n xs)
    (H : Nat) (cs : Array Value) (m c : Nat) (hm : 0 < m) (hx : a.eval x = .slice (some ⟨H, 0, none⟩) m c) (hl : cs.size = m * size) (hblk : W.heap[H]? = some (.cells cs e (0, 0))) (h1 : ∀ u ∈ cs.toList, u.oneCell' = true)
    (h63 : n + m ≤ maxLen) (hbytes : (n + m) * bytes ≤ 140737488355328) (hbase : base ≤ W.heap.size)
    (h : ∀ g c w', w'.ownsRow base e size (.slice (some ⟨g, 0, none⟩) (n + m) c) (n + m) (xs ++ cs.toList) → Below base W w' → K (a.put o.dst (.slice (some ⟨g, 0, none⟩) (n + m) c)) w') :
    if Region.wanted o (yielded ops a.tmps) = true then Oper.wp P o a W K Q else E := by
  obtain ⟨i, hi, hz, hsize, hby⟩ := info_parts hinfo
  refine step_append_lies W hgd s x t ho base e i z size bytes ht hi hz hsize hby hzs hsz v n xs hs hown ⟨H, 0, none⟩ m c cs.toList hx (by simpa using hl) (World.news_of_block hblk) h1 hm h63 hbytes hbase W.heap.size rfl ?_
  intro g cap w' hr hg _ _
  exact h g cap w' hr (below_of_grown hown hbase hg)

theorem owns_alloc_of {w w' : World} {base e size n : Nat} {v : Value} {xs : List Value} (h : w.ownsRow base e size v n xs) (hh : ∃ o, w'.heap = w.heap.push o) : w'.ownsRow base e size v n xs := by
  obtain ⟨o, ho⟩ := hh
  refine owns_keep h fun g hg => ?_
  rw [ho, Array.getElem?_push, if_neg (by have := (h.lt g hg).2; omega)]

theorem Ob.two {w : World} {base g c : Nat} {l : List UInt8} {x y : UInt8} (h : w.ownsRow base 5 1 (.slice (some ⟨g, 0, none⟩) (l.length + 1 + 1) c) (l.length + 1 + 1) (l.map e8 ++ [e8 x, e8 y])) :
    Ob w base (.slice (some ⟨g, 0, none⟩) (l.length + 1 + 1) c) (l ++ [x, y]) := by
  unfold Ob
  rw [List.length_append, List.map_append]
  exact h

set_option maxRecDepth 100000 in
set_option maxHeartbeats 4000000 in
theorem sc_slash (B pos line : Nat) (s : ByteArray) (v : Value) (T : List Tk) (w : World) (h : Sc w B s pos line v T) (hp : pos < s.size) (hs : s.size ≤ 100000000) (hT : T.length ≤ 1000000) :
    Calls Tryz.prog 32 #[.pointer (some ⟨B, 0, none⟩)] w (TokPost w B s (slashR ((bl s).drop (pos + 1)) line T)) := by
  have HL := Lib.hid (bl_len s)
  have hg := get_byt s
  have h0 := h.c0; have h1 := h.c1; have h2 := h.c2; have hf := h.fz 1
  have hlow : Low v w.heap.size := fun g hg => (h.row.lt g hg).2
  have hB := h.lt
  have LOW := Lib.hid hlow
  have S := Lib.hid h; clear h hlow
  have X : Hid (Bx w.heap.size B w w) := Bx.refl _ _ _
  obtain ⟨base, hbase⟩ : ∃ b, b = w.heap.size := ⟨_, rfl⟩
  have hbw : base ≤ w.heap.size := by omega
  rw [← hbase] at hB LOW X
  have HB := Lib.hid hbase
  clear hbase
  obtain ⟨R, hR⟩ : ∃ R, R = slashR ((bl s).drop (pos + 1)) line T := ⟨_, rfl⟩
  rw [← hR]
  have HR := Lib.hid hR; clear hR
  go_enter Tryz.func32, Tryz.ntmps32
  go_step3
  go_wp2_with fail
  go_step3
  go_wp2_with fail
  go_loopw [2] (fun vo wr => ∃ (p : Nat) (l : List UInt8), p ≤ s.size ∧ l.length ≤ p ∧ base ≤ wr.heap.size ∧ (∃ A c, vo = .slice A l.length c) ∧
    Hid (slashGo ((bl s).drop (pos + 1)) [] = slashGo ((bl s).drop p) l) ∧ Hid (Sc wr B s p line v T) ∧ Hid (Ob wr base vo l) ∧ Hid (Bx base B w wr)) (fun _ wr => (s.size - posOf B wr).toNat)
  case atStart => exact ⟨pos + 1, [], hp, by simp, by simpa using hbw, ⟨_, _, rfl⟩, rfl, S.out.set1 (pos + 1), World.ownsRow_nil _ _ _ _, X.out.set 1 _⟩
  case round =>
    clear h0 h1 h2 hf S X hbw
    obtain ⟨p, l, hps, hll, hbw, ⟨A, c, rfl⟩, hgo, S, O, X⟩ := hrel
    have h0 := S.out.c0; have h1 := S.out.c1; have h2 := S.out.c2; have hf := S.out.fz 1
    have MP := Lib.hid S.out.pos
    have hfail : slashGo ((bl s).drop p) l = none → R = .err line 202 := by
      intro h; rw [HR.out, slashR, hgo.out, h]
    have HF := Lib.hid hfail; clear hfail
    by_cases hlp : p < s.size
    · have hgp := hg p hlp
      have hbb := byt_lt (bl s) p
      have hst : slashGo ((bl s).drop p) l = if byt (bl s) p = 10 then none else if byt (bl s) p = 47 then some (l, (bl s).drop (p + 1)) else if byt (bl s) p = 92 then (match (bl s).drop (p + 1) with | [] => none | c :: u => if c.toNat = 10 then none else slashGo u (if c.toNat = 47 then l ++ [c] else l ++ [(bl s).getD p 0, c])) else slashGo ((bl s).drop (p + 1)) (l ++ [(bl s).getD p 0]) := by
        rw [drop_byt (bl s) p (by rw [HL.out]; exact hlp), slashGo_cons, ← byt_getD]
      have HST := Lib.hid hst
      clear hst
      have hlt1 : ¬ ((s.size : Int) ≤ (p : Int)) := by omega
      by_cases h10 : byt (bl s) p = 10
      · have hR := HF.out (by rw [HST.out, if_pos h10])
        have HRR := Lib.hid hR; clear hR
        have hb10 : (((byt (bl s) p : Nat) : Int) == 10) = true := by rw [h10]; rfl
        go_wp2_with fail
        go_quiet (fail)
        go_wp2_with fail
        refine (sc_fail _ _ _ _).mono ?_
        rintro e w' ⟨rfl, rfl⟩
        unfold faultE
        go_wp2_with fail
        rw [Exit.noGoto_panic, HRR.out]
        exact ⟨rfl, rfl, (X.out.drewN nq).below (by omega)⟩
      · have hb10 : (((byt (bl s) p : Nat) : Int) == 10) = false := beq_eq_false_iff_ne.2 (by omega)
        have hst2 := HST.out
        rw [if_neg h10] at hst2
        have HST2 := Lib.hid hst2
        clear hst2 HST
        go_wp2_with fail
        go_quiet (fail)
        have S2 := Lib.hid (S.out.drewN nq); have O2 := Lib.hid (show Ob (wr.drewN nq) base _ _ from O.out); have X2 := Lib.hid (X.out.drewN nq)
        have hbw2 : base ≤ (wr.drewN nq).heap.size := hbw
        clear h0 h1 h2 hf S O X hbw
        generalize wr.drewN nq = wr at S2 O2 X2 hbw2 ⊢
        have h0 := S2.out.c0; have h1 := S2.out.c1; have h2 := S2.out.c2; have hf := S2.out.fz 1
        have S := S2; have O := O2; have X := X2; have hbw := hbw2
        clear S2 O2 X2 hbw2
        go_wp2_with fail
        go_quiet (fail)
        have S2 := Lib.hid (S.out.drewN nq); have O2 := Lib.hid (show Ob (wr.drewN nq) base _ _ from O.out); have X2 := Lib.hid (X.out.drewN nq)
        have hbw2 : base ≤ (wr.drewN nq).heap.size := hbw
        clear h0 h1 h2 hf S O X hbw
        generalize wr.drewN nq = wr at S2 O2 X2 hbw2 ⊢
        have h0 := S2.out.c0; have h1 := S2.out.c1; have h2 := S2.out.c2; have hf := S2.out.fz 1
        have S := S2; have O := O2; have X := X2; have hbw := hbw2
        clear S2 O2 X2 hbw2
        go_upto_block 2 with (fail)
        have S2 : Hid (Sc (wr.setCell ⟨B, 1, none⟩ (.int .i64 ((p : Int) + 1))) B s (p + 1) line v T) := S.out.set1 (p + 1)
        have O2 := Lib.hid (Ob.set (i := 1) (u := .int .i64 ((p : Int) + 1)) O.out hB)
        have X2 : Hid (Bx base B w (wr.setCell ⟨B, 1, none⟩ (.int .i64 ((p : Int) + 1)))) := X.out.set 1 _
        have hbw2 : base ≤ (wr.setCell ⟨B, 1, none⟩ (.int .i64 ((p : Int) + 1))).heap.size := by simpa using hbw
        clear h0 h1 h2 hf S O X hbw
        generalize wr.setCell ⟨B, 1, none⟩ (.int .i64 ((p : Int) + 1)) = wr at S2 O2 X2 hbw2 ⊢
        have h0 := S2.out.c0; have h1 := S2.out.c1; have h2 := S2.out.c2; have hf := S2.out.fz 1
        have S := S2; have O := O2; have X := X2; have hbw := hbw2
        clear S2 O2 X2 hbw2
        by_cases h47 : byt (bl s) p = 47
        · have hR : R = if 1024 < l.length then .err line 202 else .ok ((bl s).drop (p + 1)) line (T ++ [⟨5, ⟨l.toArray⟩, 0, line⟩]) := by
            rw [HR.out, slashR, hgo.out, HST2.out, if_pos h47]
          have hb47 : (((byt (bl s) p : Nat) : Int) == 47) = true := by rw [h47]; rfl
          by_cases hbig : 1024 < l.length
          · rw [if_pos hbig] at hR
            have HRR := Lib.hid hR; clear hR
            have hbig3 : (1024 : Int) < (l.length : Int) := by omega
            go_wp2_with fail
            refine (sc_fail _ _ _ _).mono ?_
            rintro e w' ⟨rfl, rfl⟩
            unfold faultE
            go_wp2_with fail
            (try rw [Exit.noGoto_panic])
            rw [HRR.out]
            exact ⟨rfl, rfl, X.out.below (by omega)⟩
          · rw [if_neg hbig] at hR
            have HRR := Lib.hid hR; clear hR
            have hcv := Ob.str (w := wr.drew) (show Ob _ base _ l from O.out)
            have had := fun w hS => Lib.hid (sc_add B (p + 1) line 5 line 0 s ⟨l.toArray⟩ v T w hS hT)
            have hbig3 : ¬ ((1024 : Int) < (l.length : Int)) := by omega
            go_wp2_with fail
            go_still_tail 7, (by kernel_rfl)
            change wpList _ _ _ _ _ wr.drew
            have S2 := Lib.hid (S.out.drewN 1); have X2 := Lib.hid (X.out.drewN 1)
            change Hid (Sc wr.drew B s (p + 1) line v T) at S2
            change Hid (Bx base B w wr.drew) at X2
            generalize wr.drew = w2 at S2 X2 ⊢
            go_wp2_with fail
            refine (had _ S2.out).out.mono ?_
            rintro e w' ⟨v', rfl, hS, hBw⟩
            have HS := Lib.hid hS; have HBW := Lib.hid hBw; clear hS hBw
            go_wp2_with fail
            try rw [Exit.noGoto_normal]
            go_end0
            rw [HRR.out]
            exact ⟨v', p + 1, rfl, hlp, rfl, HS.out, (X2.out.below (by omega)).trans HBW.out⟩
        · have hb47 : (((byt (bl s) p : Nat) : Int) == 47) = false := beq_eq_false_iff_ne.2 (by omega)
          have hst3 := HST2.out
          rw [if_neg h47] at hst3
          have HST3 := Lib.hid hst3
          clear hst3 HST2
          have hby := Lib.hid (byt_getD (bl s) p)
          by_cases h92 : byt (bl s) p = 92
          · have hb92 : (((byt (bl s) p : Nat) : Int) == 92) = true := by rw [h92]; rfl
            have hst4 := HST3.out
            rw [if_pos h92] at hst4
            have H92 := Lib.hid h92; clear h92
            by_cases hlp2 : p + 1 < s.size
            · rw [drop_byt (bl s) (p + 1) (by rw [HL.out]; exact hlp2)] at hst4
              have HST4 := Lib.hid (show slashGo ((bl s).drop p) l = if ((bl s).getD (p + 1) 0).toNat = 10 then none else slashGo ((bl s).drop (p + 2)) (if ((bl s).getD (p + 1) 0).toNat = 47 then l ++ [(bl s).getD (p + 1) 0] else l ++ [(bl s).getD p 0, (bl s).getD (p + 1) 0]) from hst4)
              clear hst4 HST3
              obtain ⟨q, hq⟩ : ∃ q, q = p + 1 := ⟨_, rfl⟩
              have hqi : (p : Int) + 1 = (q : Int) := by omega
              rw [← hq] at HST4 hlp2 S h1
              have HQ := Lib.hid hq
              have hlt2 : ¬ ((s.size : Int) ≤ (q : Int)) := by omega
              have hqb : q ≤ 100000000 := by omega
              have hlq : l.length + 1 ≤ q := by omega
              rw [← byt_getD] at HST4
              have hby2 := Lib.hid (byt_getD (bl s) q)
              have hgq := hg q hlp2
              have hbb2 := byt_lt (bl s) q
              clear hq hqi
              by_cases h10b : byt (bl s) q = 10
              · have hR := HF.out (by rw [HST4.out, if_pos h10b])
                have HRR := Lib.hid hR; clear hR
                have hb10b : (((byt (bl s) q : Nat) : Int) == 10) = true := by rw [h10b]; rfl
                clear h10b
                go_wp2_with fail
                go_quiet (fail)
                go_wp2_with fail
                refine (sc_fail _ _ _ _).mono ?_
                rintro e w' ⟨rfl, rfl⟩
                unfold faultE
                go_wp2_with fail
                rw [Exit.noGoto_panic, HRR.out]
                exact ⟨rfl, rfl, (X.out.drewN nq).below (by omega)⟩
              · have hb10b : (((byt (bl s) q : Nat) : Int) == 10) = false := beq_eq_false_iff_ne.2 (by omega)
                have hst5 := HST4.out
                rw [if_neg h10b] at hst5
                have HST5 := Lib.hid hst5
                clear hst5 HST4
                by_cases h47b : byt (bl s) q = 47
                · rw [if_pos h47b] at HST5
                  have hb47b : (((byt (bl s) q : Nat) : Int) != 47) = false := by rw [h47b]; rfl
                  clear h47b
                  go_wp2_with fail
                  go_quiet (fail)
                  have S2 := Lib.hid (S.out.drewN nq); have O2 := Lib.hid (show Ob (wr.drewN nq) base _ _ from O.out); have X2 := Lib.hid (X.out.drewN nq)
                  have hbw2 : base ≤ (wr.drewN nq).heap.size := hbw
                  clear h0 h1 h2 hf S O X hbw
                  generalize wr.drewN nq = wr at S2 O2 X2 hbw2 ⊢
                  have h0 := S2.out.c0; have h1 := S2.out.c1; have h2 := S2.out.c2; have hf := S2.out.fz 1
                  have S := S2; have O := O2; have X := X2; have hbw := hbw2
                  clear S2 O2 X2 hbw2
                  go_wp2_with fail
                  go_quiet (fail)
                  have S2 := Lib.hid (S.out.drewN nq); have O2 := Lib.hid (show Ob (wr.drewN nq) base _ _ from O.out); have X2 := Lib.hid (X.out.drewN nq)
                  have hbw2 : base ≤ (wr.drewN nq).heap.size := hbw
                  clear h0 h1 h2 hf S O X hbw
                  generalize wr.drewN nq = wr at S2 O2 X2 hbw2 ⊢
                  have h0 := S2.out.c0; have h1 := S2.out.c1; have h2 := S2.out.c2; have hf := S2.out.fz 1
                  have S := S2; have O := O2; have X := X2; have hbw := hbw2
                  clear S2 O2 X2 hbw2
                  go_wp2_with fail
                  go_region_law (refine step_appB (by rfl) _ _ 38 (by rfl) base 5 (.int .u8 0) 1 1 Tryz.underlying38 infoByte (by rfl) (by decide) _ _ _ (by rfl) (owns_alloc_of O.out ⟨_, rfl⟩) wr.heap.size #[.int .u8 ((byt (bl s) q : Nat) : Int)] 1 1 (by decide) (by rfl) (by rfl) (by exact heap_alloc_new wr _) (by simp [Value.oneCell']) (by unfold maxLen; first | omega | (rw [List.length_append, List.length_singleton]; omega)) (by first | omega | (rw [List.length_append, List.length_singleton]; omega)) (by simp; omega) ?_; intro g2 cp2 w3 hown hb)
                  all_goals
                    have hb := Below.trans ((Below.refl base wr).alloc hbw _).drew hb
                    have S2 := Lib.hid (S.out.low LOW.out hB hb); have X2 := Lib.hid (X.out.trans (Bx.of hb))
                    have hbw2 : base ≤ w3.heap.size := Nat.le_trans hbw hb.size
                    rw [hby2.out] at hown
                    have O2 := Lib.hid (Ob.app (x := (bl s).getD q 0) rfl hown)
                    clear hown hb S X O hbw h0 h1 h2 hf
                    generalize w3 = wr at S2 X2 O2 hbw2 ⊢
                    have S := S2; have X := X2; have O := O2; have hbw := hbw2
                    clear S2 X2 O2 hbw2
                    have h0 := S.out.c0; have h1 := S.out.c1; have h2 := S.out.c2; have hf := S.out.fz 1
                    go_wp2
                    go_roundw
                    case rel =>
                      refine ⟨q + 1, l ++ [(bl s).getD q 0], hlp2, by rw [List.length_append, List.length_singleton]; omega, by simpa using hbw, ⟨some ⟨g2, 0, none⟩, cp2, by rw [List.length_append]; rfl⟩, ?_, S.out.set1 (q + 1), O.out.set hB, X.out.set 1 _⟩
                      show _ = _
                      rw [hgo.out, HST5.out, show q + 1 = p + 2 by have := HQ.out; omega]
                    case measure =>
                      have hh : posOf B (wr.setCell ⟨B, 1, none⟩ (.int .i64 ((q : Int) + 1))) = (q : Int) + 1 := (S.out.set1 (q + 1)).pos
                      rw [hh, MP.out]; have := HQ.out; omega
                · rw [if_neg h47b] at HST5
                  have hb47b : (((byt (bl s) q : Nat) : Int) != 47) = true := by simp; omega
                  clear h47b
                  go_wp2_with fail
                  go_quiet (fail)
                  have S2 := Lib.hid (S.out.drewN nq); have O2 := Lib.hid (show Ob (wr.drewN nq) base _ _ from O.out); have X2 := Lib.hid (X.out.drewN nq)
                  have hbw2 : base ≤ (wr.drewN nq).heap.size := hbw
                  clear h0 h1 h2 hf S O X hbw
                  generalize wr.drewN nq = wr at S2 O2 X2 hbw2 ⊢
                  have h0 := S2.out.c0; have h1 := S2.out.c1; have h2 := S2.out.c2; have hf := S2.out.fz 1
                  have S := S2; have O := O2; have X := X2; have hbw := hbw2
                  clear S2 O2 X2 hbw2
                  go_wp2_with fail
                  go_quiet (fail)
                  have S2 := Lib.hid (S.out.drewN nq); have O2 := Lib.hid (show Ob (wr.drewN nq) base _ _ from O.out); have X2 := Lib.hid (X.out.drewN nq)
                  have hbw2 : base ≤ (wr.drewN nq).heap.size := hbw
                  clear h0 h1 h2 hf S O X hbw
                  generalize wr.drewN nq = wr at S2 O2 X2 hbw2 ⊢
                  have h0 := S2.out.c0; have h1 := S2.out.c1; have h2 := S2.out.c2; have hf := S2.out.fz 1
                  have S := S2; have O := O2; have X := X2; have hbw := hbw2
                  clear S2 O2 X2 hbw2
                  go_wp2_with (at_builtin; go_must (refine wpList_appN (W := _) rfl _ _ 38 rfl base 5 (.int .u8 0) 1 1 Tryz.underlying38 infoByte rfl (by decide) _ l.length (l.map e8) rfl (by exact O.out) _ 1 1 (by decide) rfl rfl (by simp [Value.oneCell']) (by unfold maxLen; first | omega | (rw [List.length_append, List.length_singleton]; omega)) (by first | omega | (rw [List.length_append, List.length_singleton]; omega)) (by exact hbw) ?_))
                  intro g cp w3 hown hb
                  have S2 := Lib.hid (S.out.low LOW.out hB hb); have X2 := Lib.hid (X.out.trans (Bx.of hb))
                  have hbw2 : base ≤ w3.heap.size := Nat.le_trans hbw hb.size
                  rw [hby.out] at hown
                  have O2 := Lib.hid (Ob.app (x := (bl s).getD p 0) rfl hown)
                  clear hown hb S X O hbw h0 h1 h2 hf
                  generalize w3 = wr at S2 X2 O2 hbw2 ⊢
                  have S := S2; have X := X2; have O := O2; have hbw := hbw2
                  clear S2 X2 O2 hbw2
                  have h0 := S.out.c0; have h1 := S.out.c1; have h2 := S.out.c2; have hf := S.out.fz 1
                  go_wp2_with fail
                  go_region_law (refine step_appB (by rfl) _ _ 38 (by rfl) base 5 (.int .u8 0) 1 1 Tryz.underlying38 infoByte (by rfl) (by decide) _ _ _ (by rfl) (owns_alloc_of O.out ⟨_, rfl⟩) wr.heap.size #[.int .u8 ((byt (bl s) q : Nat) : Int)] 1 1 (by decide) (by rfl) (by rfl) (by exact heap_alloc_new wr _) (by simp [Value.oneCell']) (by unfold maxLen; first | omega | (rw [List.length_append, List.length_singleton]; omega)) (by first | omega | (rw [List.length_append, List.length_singleton]; omega)) (by simp; omega) ?_; intro g2 cp2 w3 hown hb)
                  all_goals
                    have hb := Below.trans ((Below.refl base wr).alloc hbw _).drew hb
                    have S2 := Lib.hid (S.out.low LOW.out hB hb); have X2 := Lib.hid (X.out.trans (Bx.of hb))
                    have hbw2 : base ≤ w3.heap.size := Nat.le_trans hbw hb.size
                    rw [hby2.out] at hown
                    have O2 := Lib.hid (Ob.app (x := (bl s).getD q 0) rfl hown)
                    clear hown hb S X O hbw h0 h1 h2 hf
                    generalize w3 = wr at S2 X2 O2 hbw2 ⊢
                    have S := S2; have X := X2; have O := O2; have hbw := hbw2
                    clear S2 X2 O2 hbw2
                    have h0 := S.out.c0; have h1 := S.out.c1; have h2 := S.out.c2; have hf := S.out.fz 1
                    go_wp2
                    go_roundw
                    case rel =>
                      refine ⟨q + 1, (l ++ [(bl s).getD p 0]) ++ [(bl s).getD q 0], hlp2, by simp only [List.length_append, List.length_singleton]; omega, by simpa using hbw, ⟨some ⟨g2, 0, none⟩, cp2, by simp only [List.length_append, List.length_singleton]⟩, ?_, S.out.set1 (q + 1), by have h := O.out.set (i := 1) (u := .int .i64 ((q : Int) + 1)) hB; simp only [List.length_append, List.length_singleton] at h ⊢; exact h, X.out.set 1 _⟩
                      show _ = _
                      rw [hgo.out, HST5.out, show q + 1 = p + 2 by have := HQ.out; omega, List.append_assoc, HQ.out]; rfl
                    case measure =>
                      have hh : posOf B (wr.setCell ⟨B, 1, none⟩ (.int .i64 ((q : Int) + 1))) = (q : Int) + 1 := (S.out.set1 (q + 1)).pos
                      rw [hh, MP.out]; have := HQ.out; omega
            · have hR := HF.out (by rw [hst4, List.drop_eq_nil_of_le (by rw [HL.out]; omega)])
              have HRR := Lib.hid hR; clear hR hst4
              have hlt2 : ((s.size : Int) ≤ (p : Int) + 1) := by omega
              go_wp2_with fail
              go_quiet (fail)
              go_wp2_with fail
              refine (sc_fail _ _ _ _).mono ?_
              rintro e w' ⟨rfl, rfl⟩
              unfold faultE
              go_wp2_with fail
              rw [Exit.noGoto_panic, HRR.out]
              exact ⟨rfl, rfl, (X.out.drewN nq).below (by omega)⟩
          · have hb92 : (((byt (bl s) p : Nat) : Int) == 92) = false := beq_eq_false_iff_ne.2 (by omega)
            have hst4 := HST3.out
            rw [if_neg h92] at hst4
            have HST4 := Lib.hid hst4
            clear hst4 HST3
            go_wp2_with (at_builtin; go_must (refine wpList_appN (W := _) rfl _ _ 38 rfl base 5 (.int .u8 0) 1 1 Tryz.underlying38 infoByte rfl (by decide) _ l.length (l.map e8) rfl (by exact O.out) _ 1 1 (by decide) rfl rfl (by simp [Value.oneCell']) (by unfold maxLen; first | omega | (rw [List.length_append, List.length_singleton]; omega)) (by first | omega | (rw [List.length_append, List.length_singleton]; omega)) (by exact hbw) ?_))
            intro g cp w3 hown hb
            have S3 := Lib.hid (S.out.low LOW.out hB hb); have X3 := Lib.hid (X.out.trans (Bx.of hb))
            have hbw3 : base ≤ w3.heap.size := Nat.le_trans hbw hb.size
            rw [hby.out] at hown
            have O3 := Lib.hid (Ob.app (x := (bl s).getD p 0) rfl hown)
            clear hown hb
            go_wp2
            go_roundw
            case rel =>
              refine ⟨p + 1, l ++ [(bl s).getD p 0], hlp, by rw [List.length_append, List.length_singleton]; omega, hbw3, ⟨some ⟨g, 0, none⟩, cp, by rw [List.length_append]; rfl⟩, ?_, S3.out, O3.out, X3.out⟩
              show _ = _
              rw [hgo.out, HST4.out]
            case measure => rw [S3.out.pos, MP.out]; omega
    · have hR := HF.out (by rw [List.drop_eq_nil_of_le (by rw [HL.out]; omega), slashGo])
      have HRR := Lib.hid hR; clear hR
      have hq : ((s.size : Int) ≤ (p : Int)) := by omega
      go_wp2_with fail
      go_quiet (fail)
      go_wp2_with fail
      refine (sc_fail _ _ _ _).mono ?_
      rintro e w' ⟨rfl, rfl⟩
      unfold faultE
      go_wp2_with fail
      rw [Exit.noGoto_panic, HRR.out]
      exact ⟨rfl, rfl, (X.out.drewN nq).below (by omega)⟩

end Go.Proofs.YtifcibbhblhfiaaGreatDoor
