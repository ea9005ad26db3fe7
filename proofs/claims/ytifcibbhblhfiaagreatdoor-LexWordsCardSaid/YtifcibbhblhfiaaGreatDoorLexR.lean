/- Walks of package lex: Quote, Slash. -/
import Derived.Test.YtifcibbhblhfiaaGreatDoorLexN
namespace Go.Proofs.YtifcibbhblhfiaaGreatDoor
open Go.RowKit Pl
set_option linter.unusedVariables false

def quoteB (c : UInt8) : List UInt8 :=
  if c.toNat = 34 ∨ c.toNat = 92 then [92, c]
  else if c.toNat = 10 then [92, 110]
  else if c.toNat = 9 then [92, 116]
  else if c.toNat < 32 ∨ 126 < c.toNat then [92, (48 + c.toNat / 64).toUInt8, (48 + c.toNat / 8 % 8).toUInt8, (48 + c.toNat % 8).toUInt8]
  else [c]
def quoteL (l : List UInt8) : List UInt8 := 34 :: (l.flatMap quoteB ++ [34])
theorem quoteB_len (c : UInt8) : (quoteB c).length ≤ 4 := by unfold quoteB; repeat (first | split | simp)

def slashB : List UInt8 → List UInt8
  | [] => []
  | [c] => if c.toNat = 47 then [92, 47] else [c]
  | c :: d :: r => if c.toNat = 47 then [92, 47] ++ slashB (d :: r) else if c.toNat = 92 then [c, d] ++ slashB r else [c] ++ slashB (d :: r)
def slashW (l : List UInt8) : List UInt8 := 47 :: (slashB l ++ [47])

theorem wpList_appNG {P : Program} {W : World} {ops : Array Oper} {rest : List Oper} {o : Oper} {a : Act} {Q : Exit → Act → World → Prop} (hgd : o.guard = none) (s x : Operand) (t : TypeId)
    (ho : o.op = .call { callee := .builtin .append, args := #[s, x], argTypes := #[t, t] })
    (base : Nat) (e : TypeId) (z : Value) (size bytes : Nat) (ht : P.underlying t = some (.slice e)) (hinfo : (P.info? e).map (fun i => (i.zero, i.size, i.bytes)) = some (some z, size, bytes))
    (hzs : z.cells.size = size) (hsz : 0 < size)
    (v : Value) (n : Nat) (xs : List Value) (hs : a.eval s = v) (hown : W.ownsRow base e size v n xs)
    (cs : Array Value) (m c : Nat) (hm : 0 < m) (hx : a.eval x = .slice (some ⟨W.heap.size, 0, none⟩) m c) (hl : cs.size = m * size) (h1 : ∀ u ∈ cs.toList, u.oneCell' = true)
    (h63 : n + m ≤ maxLen) (hbytes : (n + m) * bytes ≤ 140737488355328) (hbase : base ≤ W.heap.size)
    (h : ∀ g c w', w'.ownsRow base e size (.slice (some ⟨g, 0, none⟩) (n + m) c) (n + m) (xs ++ cs.toList) → Below base W w' → (∀ k, k < W.heap.size → v.ownBlock ≠ some k → w'.heap[k]? = W.heap[k]?) → (v.ownBlock = some g ∨ W.heap.size ≤ g) → wpList P ops Q rest (a.put o.dst (.slice (some ⟨g, 0, none⟩) (n + m) c)) w') :
    wpList P ops Q (o :: rest) a (W.alloc (.cells cs e)) := by
  obtain ⟨i, hi, hz, hsize, hby⟩ := info_parts hinfo
  have hown' := hown.alloc (.cells cs e)
  refine wpList_append_own_at (W.alloc (.cells cs e)) hgd s x t ho base e i z size bytes ht hi hz hsize hby hzs hsz v n xs hs hown' ⟨W.heap.size, 0, none⟩ m c cs.toList hx (by simpa using hl) (cells_new W cs e) h1 h63 hbytes (by simp; omega) ?_
  intro v' w' hr hg _ hv'
  obtain ⟨k, hk⟩ : ∃ k, n + m = k + 1 := ⟨n + m - 1, by omega⟩
  obtain ⟨g, c, rfl⟩ : ∃ g c, v' = .slice (some ⟨g, 0, none⟩) (n + m) c := by rw [hk] at hr ⊢; exact ownsRow_succ hr
  refine h g c w' hr (((Below.refl base W).alloc hbase _).trans (below_of_grown hown' (by simp; omega) hg)) (fun k hk hne => (hg.block k (by simp; omega) (fun e => hne e.symm)).trans (Below.heap_alloc W _ k hk)) ?_
  rcases hv' with h | h
  · exact .inl h.symm
  · right
    have : (Value.slice (some ⟨g, 0, none⟩) (n + m) c).ownBlock = some g := rfl
    rw [this] at h
    have := Option.some.inj h
    simp at this; omega

theorem Ob.appN {w : World} {base g c n : Nat} {l new : List UInt8} {cs : Array Value} (hn : n = l.length + new.length) (hc : cs.toList = new.map e8) (h : w.ownsRow base 5 1 (.slice (some ⟨g, 0, none⟩) n c) n (l.map e8 ++ cs.toList)) :
    Ob w base (.slice (some ⟨g, 0, none⟩) n c) (l ++ new) := by
  subst hn
  unfold Ob
  rw [List.length_append, List.map_append, ← hc]
  exact h

theorem own_new (w : World) (cs : Array Value) (e : TypeId) (n base : Nat) (hn : cs.size = n) (hb : base ≤ w.heap.size) (hm : n ≤ maxLen) : (w.alloc (.cells cs e)).ownsRow base e 1 (.slice (some ⟨w.heap.size, 0, none⟩) n n) n cs.toList :=
  ⟨by simp [hn], .inr ⟨w.heap.size, n, cs, rfl, hb, heap_alloc_new w _, Nat.le_refl _, hm, by rw [hn, Nat.mul_one], by rw [Nat.mul_one, List.take_of_length_le (by simp [hn])]⟩⟩

theorem e8_of {x : UInt8} {c : Nat} (h : x.toNat = c) : e8 x = .int .u8 (c : Int) := by unfold e8; rw [h]
theorem oct_cells (c : Nat) (h : c < 256) : [Value.int .u8 92, .int .u8 (48 + (c : Int) / 64), .int .u8 (48 + (c : Int) / 8 % 8), .int .u8 (48 + (c : Int) % 8)] = [92, (48 + c / 64).toUInt8, (48 + c / 8 % 8).toUInt8, (48 + c % 8).toUInt8].map e8 := by
  have h1 : ∀ n : Nat, n < 256 → e8 n.toUInt8 = .int .u8 (n : Int) := fun n hn => by unfold e8; rw [Nat.toUInt8, UInt8.toNat_ofNat', Nat.mod_eq_of_lt hn]
  show _ = [e8 92, e8 _, e8 _, e8 _]
  rw [h1 _ (by omega), h1 _ (by omega), h1 _ (by omega)]
  simp only [Int.natCast_add, Int.natCast_ediv, Int.natCast_emod]
  rfl

theorem e8_num {n : Nat} (h : n < 256) : e8 n.toUInt8 = .int .u8 (n : Int) := by unfold e8; rw [Nat.toUInt8, UInt8.toNat_ofNat', Nat.mod_eq_of_lt h]

set_option maxRecDepth 100000 in
set_option maxHeartbeats 2000000 in
theorem quote_any (s : ByteArray) (w : World) (hs : s.size ≤ 1000000) :
    Calls Tryz.prog 10 #[.string s] w fun e w' => e = .returned (.string ⟨(quoteL (bl s)).toArray⟩) ∧ Below w.heap.size w w' := by
  have HL := Lib.hid (bl_len s)
  obtain ⟨base, hbase⟩ : ∃ b, b = w.heap.size := ⟨_, rfl⟩
  have HB := Lib.hid hbase
  rw [← hbase]
  obtain ⟨w1, hw1⟩ : ∃ w1, w1 = w.alloc (.cells #[.int .u8 34] 5) := ⟨_, rfl⟩
  obtain ⟨bs, hbs⟩ : ∃ b, b = w1.heap.size := ⟨_, rfl⟩
  obtain ⟨c2, w2, hr2, hc2, hb2, hsz2, hcell2⟩ := conv_bytes (P := Tryz.prog) 9 38 5 s Tryz.underlying9 Tryz.underlying38 Tryz.underlying5 w1
  rw [← hbs] at hr2 hsz2 hcell2
  have hbb : base < bs := by rw [hbs, hw1, hbase]; simp
  have O0 : Hid (Ob w2 base (.slice (some ⟨base, 0, none⟩) 1 1) [34]) := by
    have h := own_new w #[.int .u8 34] 5 1 base rfl (by omega) (by unfold maxLen; omega)
    rw [← hw1, ← hbase] at h
    exact owns_keep h fun g hg => hb2.block g (by cases hg; rw [← hbs]; exact hbb)
  have X0 : Hid (Below base w w2) := by
    have h1 : Below base w w1 := by rw [hw1]; exact (Below.refl base w).alloc (by omega) _
    exact h1.trans (hb2.mono (by omega))
  have hbw2 : base ≤ w2.heap.size := by omega
  have HC2 := Lib.hid hcell2
  rw [hw1] at hr2
  clear hw1 hb2 hcell2 hbs hbase hc2
  go_enter Tryz.func10, Tryz.ntmps10
  go_wp2_with fail
  rw [← HB.out]
  have hbs : bs < w2.heap.size := by omega
  clear hr2 hsz2
  go_loopw [3, 10] (fun vo vi wx => ∃ (k : Nat) (l : List UInt8) (g cp : Nat), k ≤ s.size ∧ l.length ≤ 4 * k + 1 ∧ g ≠ bs ∧ base ≤ wx.heap.size ∧ vi = .int .i64 (k : Int) ∧ vo = .slice (some ⟨g, 0, none⟩) l.length cp ∧ Hid (l = 34 :: ((bl s).take k).flatMap quoteB) ∧ Hid (∀ j, j < s.size → wx.cell? ⟨bs, j, none⟩ = some (.int .u8 (byt (bl s) j : Int))) ∧ Hid (Ob wx base (.slice (some ⟨g, 0, none⟩) l.length cp) l) ∧ Hid (Below base w wx ∧ bs < wx.heap.size)) (fun _ vi _ => (s.size - intOf vi).toNat)
  case atStart => exact ⟨0, [34], base, 1, Nat.zero_le _, by simp, by omega, hbw2, rfl, rfl, rfl, HC2.out, O0.out, X0.out, hbs⟩
  case round =>
    obtain ⟨k, l, g0, cp0, hk, hll, hgb, hbw, rfl, rfl, hl, hd, O, XX⟩ := hrel
    have X := Lib.hid XX.out.1
    have hbs := XX.out.2
    clear XX O0 X0 HC2
    by_cases hlt : k < s.size
    · have hcell := hd.out k hlt
      obtain ⟨x, hx⟩ : ∃ x, x = (bl s).getD k 0 := ⟨_, rfl⟩
      have hxb : byt (bl s) k = x.toNat := by rw [byt_getD, hx]
      obtain ⟨c, hc⟩ : ∃ c, c = x.toNat := ⟨_, rfl⟩
      have hc8 : c < 256 := by rw [hc]; exact x.toNat_lt
      rw [hxb, ← hc] at hcell
      have hfm : Hid (((bl s).take (k + 1)).flatMap quoteB = ((bl s).take k).flatMap quoteB ++ quoteB x) := by
        show _ = _
        have h9 : k < (bl s).length := by rw [HL.out]; exact hlt
        rw [List.take_succ_eq_append_getElem h9, List.flatMap_append, hx, List.getD_eq_getElem?_getD, List.getElem?_eq_getElem h9]; simp
      have HCX := Lib.hid hc
      have hk0 : (0 : Int) ≤ (k : Int) := by omega
      have hk1 : (k : Int) < (s.size : Int) := by omega
      clear hx hxb hc
      by_cases hb : c = 34
      · have hq : Hid (quoteB x = [92, x]) := by show _ = _; unfold quoteB; rw [← HCX.out]; rw [if_pos (.inl hb)]
        have HBB := Lib.hid hb
        have q34 : ((c : Int) == 34) = true := by rw [hb]; rfl
        go_wp2_with (at_builtin; go_must (refine wpList_appNG (W := _) rfl _ _ 38 rfl base 5 (.int .u8 0) 1 1 Tryz.underlying38 infoByte rfl (by decide) _ l.length (l.map e8) rfl (by exact O.out) _ 2 2 (by decide) rfl rfl (by simp [Value.oneCell']) (by unfold maxLen; omega) (by omega) (by exact hbw) ?_))
        intro g cp w3 hown hb hot hgg
        have X3 := Lib.hid (X.out.trans hb)
        have hbw3 : base ≤ w3.heap.size := Nat.le_trans hbw hb.size
        have hO := Ob.appN (new := [92, x]) (by rfl) (by simp only [List.map, e8_of HCX.out.symm, HBB.out]; rfl) hown
        have O3 := Lib.hid hO
        have hd3 : ∀ j, j < s.size → w3.cell? ⟨bs, j, none⟩ = some (.int .u8 (byt (bl s) j : Int)) := fun j hj => by rw [World.cell?_of_block (w := wr) (hot bs hbs (fun h => hgb (Option.some.inj h)))]; exact hd.out j hj
        have hgb3 : g ≠ bs := by
          rcases hgg with h | h
          · have h : some g0 = some g := h
            rw [← Option.some.inj h]; exact hgb
          · omega
        have hbs3 : bs < w3.heap.size := Nat.lt_of_lt_of_le hbs hb.size
        have HD3 := Lib.hid hd3
        clear hown hb hO hd3 hot hgg
        go_wp2
        go_roundw
        case rel => exact ⟨k + 1, l ++ [92, x], g, cp, by omega, by simp only [List.length_append, List.length_cons, List.length_nil]; omega, hgb3, hbw3, by go_num, by simp only [List.length_append, List.length_cons, List.length_nil], by show _ = _; rw [hl.out, hfm.out]; simp [hq.out], HD3.out, by have h := O3.out; simp only [List.length_append, List.length_cons, List.length_nil] at h ⊢; exact h, X3.out, hbs3⟩
        case measure => simp [intOf]; omega
      · have q34 : ((c : Int) == 34) = false := beq_eq_false_iff_ne.2 (by omega)
        have HB34 := Lib.hid hb
        clear hb
        by_cases hb : c = 92
        · have hq : Hid (quoteB x = [92, x]) := by show _ = _; unfold quoteB; rw [← HCX.out]; rw [if_pos (.inr hb)]
          have HBB := Lib.hid hb
          have q92 : ((c : Int) == 92) = true := by rw [hb]; rfl
          go_wp2_with (at_builtin; go_must (refine wpList_appNG (W := _) rfl _ _ 38 rfl base 5 (.int .u8 0) 1 1 Tryz.underlying38 infoByte rfl (by decide) _ l.length (l.map e8) rfl (by exact O.out) _ 2 2 (by decide) rfl rfl (by simp [Value.oneCell']) (by unfold maxLen; omega) (by omega) (by exact hbw) ?_))
          intro g cp w3 hown hb hot hgg
          have X3 := Lib.hid (X.out.trans hb)
          have hbw3 : base ≤ w3.heap.size := Nat.le_trans hbw hb.size
          have hO := Ob.appN (new := [92, x]) (by rfl) (by simp only [List.map, e8_of HCX.out.symm, HBB.out]; rfl) hown
          have O3 := Lib.hid hO
          have hd3 : ∀ j, j < s.size → w3.cell? ⟨bs, j, none⟩ = some (.int .u8 (byt (bl s) j : Int)) := fun j hj => by rw [World.cell?_of_block (w := wr) (hot bs hbs (fun h => hgb (Option.some.inj h)))]; exact hd.out j hj
          have hgb3 : g ≠ bs := by
            rcases hgg with h | h
            · have h : some g0 = some g := h
              rw [← Option.some.inj h]; exact hgb
            · omega
          have hbs3 : bs < w3.heap.size := Nat.lt_of_lt_of_le hbs hb.size
          have HD3 := Lib.hid hd3
          clear hown hb hO hd3 hot hgg
          go_wp2
          go_roundw
          case rel => exact ⟨k + 1, l ++ [92, x], g, cp, by omega, by simp only [List.length_append, List.length_cons, List.length_nil]; omega, hgb3, hbw3, by go_num, by simp only [List.length_append, List.length_cons, List.length_nil], by show _ = _; rw [hl.out, hfm.out]; simp [hq.out], HD3.out, by have h := O3.out; simp only [List.length_append, List.length_cons, List.length_nil] at h ⊢; exact h, X3.out, hbs3⟩
          case measure => simp [intOf]; omega
        · have q92 : ((c : Int) == 92) = false := beq_eq_false_iff_ne.2 (by omega)
          have HQ1 : Hid (¬ (c = 34 ∨ c = 92)) := by
            show ¬ _
            rintro (h | h)
            · exact HB34.out h
            · exact hb h
          clear hb
          by_cases hb : c = 10
          · have hq : Hid (quoteB x = [92, 110]) := by show _ = _; unfold quoteB; rw [← HCX.out]; rw [if_neg HQ1.out, if_pos hb]
            have q10 : ((c : Int) == 10) = true := by rw [hb]; rfl
            go_wp2_with (at_builtin; go_must (refine wpList_appNG (W := _) rfl _ _ 38 rfl base 5 (.int .u8 0) 1 1 Tryz.underlying38 infoByte rfl (by decide) _ l.length (l.map e8) rfl (by exact O.out) _ 2 2 (by decide) rfl rfl (by simp [Value.oneCell']) (by unfold maxLen; omega) (by omega) (by exact hbw) ?_))
            intro g cp w3 hown hb hot hgg
            have X3 := Lib.hid (X.out.trans hb)
            have hbw3 : base ≤ w3.heap.size := Nat.le_trans hbw hb.size
            have hO := Ob.appN (new := [92, 110]) (by rfl) (by rfl) hown
            have O3 := Lib.hid hO
            have hd3 : ∀ j, j < s.size → w3.cell? ⟨bs, j, none⟩ = some (.int .u8 (byt (bl s) j : Int)) := fun j hj => by rw [World.cell?_of_block (w := wr) (hot bs hbs (fun h => hgb (Option.some.inj h)))]; exact hd.out j hj
            have hgb3 : g ≠ bs := by
              rcases hgg with h | h
              · have h : some g0 = some g := h
                rw [← Option.some.inj h]; exact hgb
              · omega
            have hbs3 : bs < w3.heap.size := Nat.lt_of_lt_of_le hbs hb.size
            have HD3 := Lib.hid hd3
            clear hown hb hO hd3 hot hgg
            go_wp2
            go_roundw
            case rel => exact ⟨k + 1, l ++ [92, 110], g, cp, by omega, by simp only [List.length_append, List.length_cons, List.length_nil]; omega, hgb3, hbw3, by go_num, by simp only [List.length_append, List.length_cons, List.length_nil], by show _ = _; rw [hl.out, hfm.out]; simp [hq.out], HD3.out, by have h := O3.out; simp only [List.length_append, List.length_cons, List.length_nil] at h ⊢; exact h, X3.out, hbs3⟩
            case measure => simp [intOf]; omega
          · have q10 : ((c : Int) == 10) = false := beq_eq_false_iff_ne.2 (by omega)
            have HB10 := Lib.hid hb
            clear hb
            by_cases hb : c = 9
            · have hq : Hid (quoteB x = [92, 116]) := by show _ = _; unfold quoteB; rw [← HCX.out]; rw [if_neg HQ1.out, if_neg HB10.out, if_pos hb]
              have q9 : ((c : Int) == 9) = true := by rw [hb]; rfl
              go_wp2_with (at_builtin; go_must (refine wpList_appNG (W := _) rfl _ _ 38 rfl base 5 (.int .u8 0) 1 1 Tryz.underlying38 infoByte rfl (by decide) _ l.length (l.map e8) rfl (by exact O.out) _ 2 2 (by decide) rfl rfl (by simp [Value.oneCell']) (by unfold maxLen; omega) (by omega) (by exact hbw) ?_))
              intro g cp w3 hown hb hot hgg
              have X3 := Lib.hid (X.out.trans hb)
              have hbw3 : base ≤ w3.heap.size := Nat.le_trans hbw hb.size
              have hO := Ob.appN (new := [92, 116]) (by rfl) (by rfl) hown
              have O3 := Lib.hid hO
              have hd3 : ∀ j, j < s.size → w3.cell? ⟨bs, j, none⟩ = some (.int .u8 (byt (bl s) j : Int)) := fun j hj => by rw [World.cell?_of_block (w := wr) (hot bs hbs (fun h => hgb (Option.some.inj h)))]; exact hd.out j hj
              have hgb3 : g ≠ bs := by
                rcases hgg with h | h
                · have h : some g0 = some g := h
                  rw [← Option.some.inj h]; exact hgb
                · omega
              have hbs3 : bs < w3.heap.size := Nat.lt_of_lt_of_le hbs hb.size
              have HD3 := Lib.hid hd3
              clear hown hb hO hd3 hot hgg
              go_wp2
              go_roundw
              case rel => exact ⟨k + 1, l ++ [92, 116], g, cp, by omega, by simp only [List.length_append, List.length_cons, List.length_nil]; omega, hgb3, hbw3, by go_num, by simp only [List.length_append, List.length_cons, List.length_nil], by show _ = _; rw [hl.out, hfm.out]; simp [hq.out], HD3.out, by have h := O3.out; simp only [List.length_append, List.length_cons, List.length_nil] at h ⊢; exact h, X3.out, hbs3⟩
              case measure => simp [intOf]; omega
            · have q9 : ((c : Int) == 9) = false := beq_eq_false_iff_ne.2 (by omega)
              have HB9 := Lib.hid hb
              clear hb
              by_cases hb : c < 32 ∨ 126 < c
              · have hb2 : (c : Int) < 32 ∨ (¬ ((c : Int) < 32) ∧ 126 < (c : Int)) := by omega
                have hq0 := Lib.hid hb
                clear hb
                rcases hb2 with hb | ⟨hb1, hb⟩
                all_goals
                  have hq : Hid (quoteB x = [92, (48 + c / 64).toUInt8, (48 + c / 8 % 8).toUInt8, (48 + c % 8).toUInt8]) := by show _ = _; unfold quoteB; rw [← HCX.out]; rw [if_neg HQ1.out, if_neg HB10.out, if_neg HB9.out, if_pos hq0.out]
                  go_wp2_with (at_builtin; go_must (refine wpList_appNG (W := _) rfl _ _ 38 rfl base 5 (.int .u8 0) 1 1 Tryz.underlying38 infoByte rfl (by decide) _ l.length (l.map e8) rfl (by exact O.out) _ 4 4 (by decide) rfl rfl (by simp [Value.oneCell']) (by unfold maxLen; omega) (by omega) (by exact hbw) ?_))
                  intro g cp w3 hown hb hot hgg
                  have X3 := Lib.hid (X.out.trans hb)
                  have hbw3 : base ≤ w3.heap.size := Nat.le_trans hbw hb.size
                  have hO := Ob.appN (new := [92, (48 + c / 64).toUInt8, (48 + c / 8 % 8).toUInt8, (48 + c % 8).toUInt8]) (by rfl) (by exact oct_cells c hc8) hown
                  have O3 := Lib.hid hO
                  have hd3 : ∀ j, j < s.size → w3.cell? ⟨bs, j, none⟩ = some (.int .u8 (byt (bl s) j : Int)) := fun j hj => by rw [World.cell?_of_block (w := wr) (hot bs hbs (fun h => hgb (Option.some.inj h)))]; exact hd.out j hj
                  have hgb3 : g ≠ bs := by
                    rcases hgg with h | h
                    · have h : some g0 = some g := h
                      rw [← Option.some.inj h]; exact hgb
                    · omega
                  have hbs3 : bs < w3.heap.size := Nat.lt_of_lt_of_le hbs hb.size
                  have HD3 := Lib.hid hd3
                  clear hown hb hO hd3 hot hgg
                  go_wp2
                  go_roundw
                  case rel => exact ⟨k + 1, l ++ [92, (48 + c / 64).toUInt8, (48 + c / 8 % 8).toUInt8, (48 + c % 8).toUInt8], g, cp, by omega, by simp only [List.length_append, List.length_cons, List.length_nil]; omega, hgb3, hbw3, by go_num, by simp only [List.length_append, List.length_cons, List.length_nil], by show _ = _; rw [hl.out, hfm.out]; simp [hq.out], HD3.out, by have h := O3.out; simp only [List.length_append, List.length_cons, List.length_nil] at h ⊢; exact h, X3.out, hbs3⟩
                  case measure => simp [intOf]; omega
              · have hb1 : ¬ ((c : Int) < 32) := by omega
                have hb2 : ¬ (126 < (c : Int)) := by omega
                have hq : Hid (quoteB x = [x]) := by show _ = _; unfold quoteB; rw [← HCX.out]; rw [if_neg HQ1.out, if_neg HB10.out, if_neg HB9.out, if_neg hb]
                go_wp2_with (at_builtin; go_must (refine wpList_appNG (W := _) rfl _ _ 38 rfl base 5 (.int .u8 0) 1 1 Tryz.underlying38 infoByte rfl (by decide) _ l.length (l.map e8) rfl (by exact O.out) _ 1 1 (by decide) rfl rfl (by simp [Value.oneCell']) (by unfold maxLen; omega) (by omega) (by exact hbw) ?_))
                intro g cp w3 hown hb hot hgg
                have X3 := Lib.hid (X.out.trans hb)
                have hbw3 : base ≤ w3.heap.size := Nat.le_trans hbw hb.size
                have hO := Ob.appN (new := [x]) (by rfl) (by simp only [List.map, e8_of HCX.out.symm]) hown
                have O3 := Lib.hid hO
                have hd3 : ∀ j, j < s.size → w3.cell? ⟨bs, j, none⟩ = some (.int .u8 (byt (bl s) j : Int)) := fun j hj => by rw [World.cell?_of_block (w := wr) (hot bs hbs (fun h => hgb (Option.some.inj h)))]; exact hd.out j hj
                have hgb3 : g ≠ bs := by
                  rcases hgg with h | h
                  · have h : some g0 = some g := h
                    rw [← Option.some.inj h]; exact hgb
                  · omega
                have hbs3 : bs < w3.heap.size := Nat.lt_of_lt_of_le hbs hb.size
                have HD3 := Lib.hid hd3
                clear hown hb hO hd3 hot hgg
                go_wp2
                go_roundw
                case rel => exact ⟨k + 1, l ++ [x], g, cp, by omega, by simp only [List.length_append, List.length_cons, List.length_nil]; omega, hgb3, hbw3, by go_num, by simp only [List.length_append, List.length_cons, List.length_nil], by show _ = _; rw [hl.out, hfm.out]; simp [hq.out], HD3.out, by have h := O3.out; simp only [List.length_append, List.length_cons, List.length_nil] at h ⊢; exact h, X3.out, hbs3⟩
                case measure => simp [intOf]; omega
    · have HKE : Hid (k = s.size) := Nat.le_antisymm hk (Nat.le_of_not_lt hlt)
      have hge : ¬ ((k : Int) < (s.size : Int)) := by omega
      clear hlt
      go_wp2_with (at_builtin; go_must (refine wpList_appNG (W := _) rfl _ _ 38 rfl base 5 (.int .u8 0) 1 1 Tryz.underlying38 infoByte rfl (by decide) _ l.length (l.map e8) rfl (by exact O.out) _ 1 1 (by decide) rfl rfl (by simp [Value.oneCell']) (by unfold maxLen; omega) (by omega) (by exact hbw) ?_))
      intro g cp w3 hown hb hot hgg
      have X3 := Lib.hid (X.out.trans hb)
      have hO := Ob.appN (new := [34]) (by rfl) (by rfl) hown
      have hcv : (convert 38 9 (.slice (some ⟨g, 0, none⟩) (l.length + 1) cp)).run Tryz.prog w3 = .ok (.string ⟨(l ++ [34]).toArray⟩) w3 := hO.str
      clear hown hb hot hgg hO
      go_wp2_with fail
      go_ret
      refine ⟨?_, X3.out⟩
      rw [hl.out, HKE.out, List.take_of_length_le (by rw [HL.out]; exact Nat.le_refl _)]
      rfl

end Go.Proofs.YtifcibbhblhfiaaGreatDoor
