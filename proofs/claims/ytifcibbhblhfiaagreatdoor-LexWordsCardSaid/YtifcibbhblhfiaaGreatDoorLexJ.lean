/- Walks of package lex: a sign, by strings.SplitSeq. -/
import Derived.Test.YtifcibbhblhfiaaGreatDoorLexI
import Derived.Test.YtifcibbhblhfiaaGreatDoorLexH
import Derived.Test.YtifcibbhblhfiaaGreatDoorRngA
import Derived.Shelf.Abstract
import Derived.Shelf.RegionOpen
import Derived.OwnWalkIn
import Derived.TacticsInMore
import Derived.LoopNIn
import Derived.LoopIn
namespace Go.Proofs.YtifcibbhblhfiaaGreatDoor
open Go.RowKit Go.Shelf Pl
set_option linter.unusedVariables false
attribute [local go_sem] Oper.semAt_some

/-- The pieces of a text between blanks. -/
def spl : Nat → ByteArray → List ByteArray
  | 0, r => [r]
  | f + 1, r => if Lib.indexByte (bl r) 32 < 0 then [r] else r.extract 0 (Lib.indexByte (bl r) 32).toNat :: spl f (r.extract ((Lib.indexByte (bl r) 32).toNat + 1) r.size)

theorem indexByte_lt2 (l : List UInt8) (c : UInt8) (h : 0 ≤ Lib.indexByte l c) : (Lib.indexByte l c).toNat < l.length := by
  rcases indexByte_lt l c with h1 | h1
  · omega
  · subst h1; simp [Lib.indexByte] at h

/-- How long the text in a cell is. -/
def szAt (b : Nat) (W : World) : Nat := match W.cell? ⟨b, 0, none⟩ with | some (.string s) => s.size | _ => 0

set_option maxRecDepth 100000 in
set_option maxHeartbeats 2000000 in
theorem split_seq (n bsep bs bsv n0 f0 : Nat) (s0 : ByteArray) (w : World) (h1 : bsep < n0) (h2 : bs < n0) (h3 : bsv < n0) (h12 : bsep ≠ bs) (h32 : bsv ≠ bs) (hn0 : n0 ≤ w.heap.size) (hsz : s0.size ≤ f0) (hf0 : f0 ≤ 1000)
    (c1 : w.cell? ⟨bsep, 0, none⟩ = some (.string ⟨#[32]⟩)) (c2 : w.cell? ⟨bs, 0, none⟩ = some (.string s0)) (c3 : w.cell? ⟨bsv, 0, none⟩ = some (.int .i64 0)) (fz : w.frozen? ⟨bs, 0, none⟩ = false) :
    SeqCell Fence.wide n Tryz.prog 66 #[.pointer (some ⟨bsep, 0, none⟩), .pointer (some ⟨bs, 0, none⟩), .pointer (some ⟨bsv, 0, none⟩)] (fun x : ByteArray => #[.string x]) bs n0 (fun xs => xs = spl f0 s0) (fun pre => pre <+: spl f0 s0) w := by
  intro l J Jx W hW hJ hY hJ0
  have d1 : W.cell? ⟨bsep, 0, none⟩ = some (.string ⟨#[32]⟩) := by rw [hW.cell (p := ⟨bsep, 0, none⟩) (by show bsep < _; omega)]; exact c1
  have d2 : W.cell? ⟨bs, 0, none⟩ = some (.string s0) := by rw [hW.cell (p := ⟨bs, 0, none⟩) (by show bs < _; omega)]; exact c2
  have d3 : W.cell? ⟨bsv, 0, none⟩ = some (.int .i64 0) := by rw [hW.cell (p := ⟨bsv, 0, none⟩) (by show bsv < _; omega)]; exact c3
  have d4 : W.frozen? ⟨bs, 0, none⟩ = false := by rw [hW.frozen (p := ⟨bs, 0, none⟩) (by show bs < _; omega)]; exact fz
  have HY := Lib.hid hY; have HJ := Lib.hid hJ; have HJ0 := Lib.hid hJ0
  clear c1 c2 c3 fz hY hJ hW hJ0
  refine callsIn_of_wp Tryz.func66 rfl trivial ?_ rfl
  simp only [Tryz.ntmps66, List.size_toArray, List.length_cons, List.length_nil, Nat.reduceAdd, Nat.reduceSub, Array.replicate_succ, Array.replicate_zero, List.push_toArray, List.append_toArray, List.nil_append, List.cons_append]
  gi_wp2
  gi_loopw [7] (fun v7 wr => ∃ (pre : List ByteArray) (r : ByteArray) (f : Nat), Hid (spl f0 s0 = pre ++ spl f r) ∧ r.size ≤ f ∧ f ≤ 1000 ∧ wr.cell? ⟨bsep, 0, none⟩ = some (.string ⟨#[32]⟩) ∧ wr.cell? ⟨bs, 0, none⟩ = some (.string r) ∧ wr.cell? ⟨bsv, 0, none⟩ = some (.int .i64 0) ∧ wr.frozen? ⟨bs, 0, none⟩ = false ∧ Hid (J pre wr)) (fun _ wr => szAt bs wr)
  case atStart => exact ⟨[], s0, f0, rfl, hsz, hf0, d1, d2, d3, d4, HJ0.out⟩
  case round =>
    clear d1 d2 d3 d4
    obtain ⟨pre, r, f, hsp, hrf, hf1, d1, d2, d3, d4, hj⟩ := hrel
    have hms : Hid (szAt bs wr = r.size) := by show _ = _; unfold szAt; rw [d2]
    obtain ⟨i, hi⟩ : ∃ i, i = Lib.indexByte (bl r) 32 := ⟨_, rfl⟩
    have hix : ∀ W, Calls Tryz.prog 37 #[.string r, .string ⟨#[32]⟩] W fun e w' => e = .returned (.int .i64 i) ∧ W = w' := by
      intro W
      refine (Tryz.strings_Index_one r 32 W).mono ?_
      rintro e w' ⟨rfl, rfl⟩
      exact ⟨by rw [hi]; rfl, rfl⟩
    have HIX := Lib.hid hix
    have HI := Lib.hid hi
    have hir : 0 ≤ i → i.toNat < r.size := by rw [hi, ← bl_len]; exact indexByte_lt2 _ _
    clear hix hi
    by_cases hneg : i < 0
    · have hsp2 : Hid (spl f r = [r]) := by
        show _ = _
        cases f with
        | zero => rfl
        | succ f => rw [spl, ← HI.out, if_pos hneg]
      obtain ⟨fn, tmps, assign, body, hy, hR⟩ := HY.out pre r wr hj.out
      have HR := Lib.hid hR; clear hR
      gi_wp2_with fail
      refine ⟨trivial, fun h => absurd h (by decide), ?_⟩
      refine (callsIn_wide.2 (HIX.out _)).mono ?_
      rintro e w' ⟨rfl, rfl⟩
      gi_wp2_with fail
      refine ⟨fun h => absurd h (by decide), ?_⟩
      refine HR.out.mono ?_
      rintro e W' (⟨rfl, hJ', hk⟩ | ⟨rfl, hJx'⟩)
      · have HJ' := Lib.hid hJ'; clear hJ' hk
        gi_wp2_with fail
        go_end0
        exact ⟨⟨_, rfl⟩, .inl ⟨pre ++ [r], by rw [hsp.out, hsp2.out], HJ'.out⟩⟩
      · have HJ' := Lib.hid hJx'; clear hJx'
        gi_wp2_with fail
        go_end0
        exact ⟨⟨_, rfl⟩, .inr ⟨pre ++ [r], by rw [hsp.out, hsp2.out]; exact List.prefix_refl _, HJ'.out⟩⟩
    · obtain ⟨m, hm⟩ : ∃ m : Nat, i = (m : Int) := ⟨i.toNat, by omega⟩
      subst hm
      have hmr : m < r.size := by have := hir (by omega); omega
      clear hir hneg
      obtain ⟨f', hf'⟩ : ∃ f', f = f' + 1 := ⟨f - 1, by omega⟩
      have hsp2 : Hid (spl f r = r.extract 0 m :: spl f' (r.extract (m + 1) r.size)) := by
        show _ = _
        rw [hf', spl, ← HI.out, if_neg (by omega), Int.toNat_natCast]
      obtain ⟨fn, tmps, assign, body, hy, hR⟩ := HY.out pre (r.extract 0 m) wr hj.out
      have HR := Lib.hid hR; clear hR
      have hx2 : (r.extract (m + 1) r.size).size ≤ f' := by rw [← bl_len, bl_from, List.length_drop, bl_len]; omega
      have hx3 : (r.extract (m + 1) r.size).size < r.size := by rw [← bl_len, bl_from, List.length_drop, bl_len]; omega
      gi_wp2_with fail
      refine ⟨trivial, fun h => absurd h (by decide), ?_⟩
      refine (callsIn_wide.2 (HIX.out _)).mono ?_
      rintro e w' ⟨rfl, rfl⟩
      gi_wp2_with fail
      refine ⟨fun h => absurd h (by decide), ?_⟩
      refine HR.out.mono ?_
      rintro e W' (⟨rfl, hJ', hk⟩ | ⟨rfl, hJx'⟩)
      · have HJ' := Lib.hid hJ'; clear hJ'
        have e1 : W'.cell? ⟨bsep, 0, none⟩ = some (.string ⟨#[32]⟩) := by rw [hk.cell (p := ⟨bsep, 0, none⟩) h1]; exact d1
        have e2 : W'.cell? ⟨bs, 0, none⟩ = some (.string r) := by rw [hk.cell (p := ⟨bs, 0, none⟩) h2]; exact d2
        have e3 : W'.cell? ⟨bsv, 0, none⟩ = some (.int .i64 0) := by rw [hk.cell (p := ⟨bsv, 0, none⟩) h3]; exact d3
        have e4 : W'.frozen? ⟨bs, 0, none⟩ = false := by rw [hk.frozen (p := ⟨bs, 0, none⟩) h2]; exact d4
        clear d1 d2 d3 d4 hk hy
        gi_wp2_with fail
        have hst := StepS.set bs W' (.string (r.extract (m + 1) r.size))
        have hc2 := World.cell?_setCell_same' W' ⟨bs, 0, none⟩ (.string (r.extract (m + 1) r.size)) (by rw [e2]; rfl)
        go_roundw
        case rel =>
          refine ⟨pre ++ [r.extract 0 m], r.extract (m + 1) r.size, f', ?_, hx2, by omega, ?_, hc2, ?_, by rw [World.frozen?_setCell]; exact e4, HJ.out _ _ _ HJ'.out hst⟩
          · show _ = _; rw [hsp.out, hsp2.out, List.append_assoc]; rfl
          · rw [World.cell?_of_block (w := W') (heap_setCell_other W' ⟨bs, 0, none⟩ _ _ h12)]; exact e1
          · rw [World.cell?_of_block (w := W') (heap_setCell_other W' ⟨bs, 0, none⟩ _ _ h32)]; exact e3
        case measure =>
          rw [hms.out]
          unfold szAt
          rw [hc2]; exact hx3
      · have HJ' := Lib.hid hJx'; clear hJx'
        gi_wp2_with fail
        refine bodyPost_ret (results_none rfl _ _ _) rfl ?_
        exact ⟨⟨_, rfl⟩, .inr ⟨pre ++ [r.extract 0 m], by rw [hsp.out, hsp2.out]; exact ⟨spl f' (r.extract (m + 1) r.size), by simp⟩, HJ'.out⟩⟩

def signsS : ByteArray := ⟨#[38, 38, 32, 124, 124, 32, 43, 43, 32, 45, 45, 32, 43, 61, 32, 45, 61, 32, 42, 61, 32, 47, 61, 32, 37, 61, 32, 94, 61, 32, 61, 61, 32, 60, 61, 32, 62, 61, 32, 33, 61, 32, 62, 62, 32, 33, 126, 32, 123, 32, 125, 32, 40, 32, 41, 32, 91, 32, 93, 32, 59, 32, 44, 32, 43, 32, 45, 32, 42, 32, 47, 32, 37, 32, 94, 32, 33, 32, 62, 32, 60, 32, 124, 32, 63, 32, 58, 32, 126, 32, 36, 32, 61, 32, 64]⟩
def signsL : List ByteArray := spl 200 signsS
/-- The sign at hand. -/
def signOf (r : List UInt8) : Option ByteArray := signsL.find? (fun t => Lib.hasPrefix r (bl t))
def signR (r : List UInt8) (line : Nat) (T : List Tk) : Res :=
  match signOf r with
  | none => .err line 200
  | some t => .ok (r.drop t.size) line (T ++ [⟨7, t, 0, line⟩])

theorem keeps_drewN (W : World) (m : Nat) : KeepsOthers W (W.drewN m) := ⟨Nat.le_refl _, fun _ _ h _ => h⟩

/-- append of m new elements, as wpList_appN; what is no cells lies as it lay. -/
theorem wpList_appNK {P : Program} {W : World} {ops : Array Oper} {rest : List Oper} {o : Oper} {a : Act} {Q : Exit → Act → World → Prop} (hgd : o.guard = none) (s x : Operand) (t : TypeId)
    (ho : o.op = .call { callee := .builtin .append, args := #[s, x], argTypes := #[t, t] })
    (base : Nat) (e : TypeId) (z : Value) (size bytes : Nat) (ht : P.underlying t = some (.slice e)) (hinfo : (P.info? e).map (fun i => (i.zero, i.size, i.bytes)) = some (some z, size, bytes))
    (hzs : z.cells.size = size) (hsz : 0 < size)
    (v : Value) (n : Nat) (xs : List Value) (hs : a.eval s = v) (hown : W.ownsRow base e size v n xs)
    (cs : Array Value) (m c : Nat) (hm : 0 < m) (hx : a.eval x = .slice (some ⟨W.heap.size, 0, none⟩) m c) (hl : cs.size = m * size) (h1 : ∀ u ∈ cs.toList, u.oneCell' = true)
    (h63 : n + m ≤ maxLen) (hbytes : (n + m) * bytes ≤ 140737488355328) (hbase : base ≤ W.heap.size)
    (h : ∀ g c w', w'.ownsRow base e size (.slice (some ⟨g, 0, none⟩) (n + m) c) (n + m) (xs ++ cs.toList) → Below base W w' → KeepsOthers W w' → wpList P ops Q rest (a.put o.dst (.slice (some ⟨g, 0, none⟩) (n + m) c)) w') :
    wpList P ops Q (o :: rest) a (W.alloc (.cells cs e)) := by
  obtain ⟨i, hi, hz, hsize, hby⟩ := info_parts hinfo
  have hown' := hown.alloc (.cells cs e)
  refine wpList_append_own (W.alloc (.cells cs e)) hgd s x t ho base e i z size bytes ht hi hz hsize hby hzs hsz v n xs hs hown' ⟨W.heap.size, 0, none⟩ m c cs.toList hx (by simpa using hl) (cells_new W cs e) h1 h63 hbytes (by simp; omega) ?_
  intro v' w' hr hg _
  obtain ⟨k, hk⟩ : ∃ k, n + m = k + 1 := ⟨n + m - 1, by omega⟩
  obtain ⟨g, c, rfl⟩ : ∃ g c, v' = .slice (some ⟨g, 0, none⟩) (n + m) c := by rw [hk] at hr ⊢; exact ownsRow_succ hr
  refine h g c w' hr (((Below.refl base W).alloc hbase _).trans (below_of_grown hown' (by simp; omega) hg)) ((KeepsOthers.alloc W _).trans (KeepsOthers.of_grownBy hg ?_))
  intro j o hj ho
  obtain ⟨_, ⟨hv, _⟩ | ⟨g2, cap, cur, hv, _, hg2, _⟩⟩ := hown'
  · rw [hv] at hj; cases hj
  · rw [hv] at hj; cases hj; rw [hg2] at ho; cases ho; rfl

set_option maxHeartbeats 400000 in
theorem sc_addK (B pos line k ln x : Nat) (s t : ByteArray) (v : Value) (T : List Tk) (w : World) (h : Sc w B s pos line v T) (hT : T.length ≤ 1000000) :
    Calls Tryz.prog 21 #[.pointer (some ⟨B, 0, none⟩), .int .i64 (k : Int), .string t, .float .f64 x, .int .i64 (ln : Int)] w fun e w' => ∃ v', e = .returned (.tuple #[]) ∧ Sc w' B s pos line v' (T ++ [⟨k, t, x, ln⟩]) ∧ Below B w w' ∧ KeepsOthers w w' := by
  have h3 := h.c3
  have HS := Lib.hid h
  clear h
  go_enter Tryz.func21, Tryz.ntmps21
  go_wp2_with (at_builtin; go_must (refine wpList_appNK (W := w) rfl _ _ 28 rfl (B + 1) 36 (.agg #[.int .i64 0, .string ⟨#[]⟩, .float .f64 0, .int .i64 0]) 4 40 Tryz.underlying28 infoTok (by decide) (by decide) _ T.length (cellsT T) rfl (by exact HS.out.row) _ 1 1 (by decide) rfl rfl (by simp [Value.oneCell']) (by unfold maxLen; omega) (by omega) HS.out.lt ?_))
  intro g c w' hown hb hko
  have hf : w'.frozen? ⟨B, 3, none⟩ = false := by rw [hb.frozen (Nat.lt_succ_self B)]; exact HS.out.fz 3
  have hc3 : w'.cell? ⟨B, 3, none⟩ = some v := by rw [hb.cell (p := ⟨B, 3, none⟩) (Nat.lt_succ_self B)]; exact h3
  have hblk : w'.heap[B]? = _ := (hb.block B (Nat.lt_succ_self B)).trans HS.out.blk
  have HO := Lib.hid hown; have HB := Lib.hid hb; have HK := Lib.hid hblk; have HKO := Lib.hid hko
  clear hown hb hblk h3 hko
  go_wp2
  go_end0
  refine ⟨_, rfl, ⟨heap_setCell_same w' B 3 _ _ _ HK.out, ?_⟩, (HB.out.mono (Nat.le_succ B)).setCell (Nat.le_refl B) _, HKO.out.trans (KeepsOthers.setCell _ _ _)⟩
  have h := ownsRow_setCell_below HO.out (a := ⟨B, 3, none⟩) (Nat.lt_succ_self B) (.slice (some ⟨g, 0, none⟩) (T.length + 1) c)
  rw [cellsT_app, List.length_append]
  exact h

def seqV (d : Nat) : Value := .func (.func 66) #[] #[.pointer (some ⟨d + 1, 0, none⟩), .pointer (some ⟨d, 0, none⟩), .pointer (some ⟨d + 2, 0, none⟩)]
def seqW (s sep : ByteArray) (w : World) : World := ((w.alloc (.cells #[.string s] 9)).alloc (.cells #[.string sep] 9)).alloc (.cells #[.int .i64 0] 3)

theorem splitSeq_any (s sep : ByteArray) (w : World) : Calls Tryz.prog 56 #[.string s, .string sep, .int .i64 0] w fun e w' => e = .returned (seqV w.heap.size) ∧ w' = seqW s sep w := by
  unfold seqV seqW
  go_enter Tryz.func56, Tryz.ntmps56
  go_wp2
  go_ret
  exact ⟨rfl, rfl⟩

theorem SplitSeq_any (s sep : ByteArray) (w : World) : Calls Tryz.prog 44 #[.string s, .string sep] w fun e w' => e = .returned (seqV w.heap.size) ∧ w' = seqW s sep w := by
  have h := Lib.hid (splitSeq_any s sep w)
  go_enter Tryz.func44, Tryz.ntmps44
  go_wp2_with fail
  refine h.out.mono ?_
  rintro e w' ⟨rfl, hw⟩
  have HW := Lib.hid hw; clear hw
  unfold seqV
  go_wp2_with fail
  go_ret
  exact ⟨rfl, HW.out⟩

end Go.Proofs.YtifcibbhblhfiaaGreatDoor
