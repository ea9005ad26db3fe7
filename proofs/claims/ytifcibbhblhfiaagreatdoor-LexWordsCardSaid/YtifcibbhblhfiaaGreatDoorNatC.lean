/- Walks of package nat: what changes a slice of its own. -/
import Derived.Test.YtifcibbhblhfiaaGreatDoorNatB
import Derived.Test.YtifcibbhblhfiaaGreatDoorGen
namespace Go.Proofs.YtifcibbhblhfiaaGreatDoor
open Go.RowKit Pl
set_option linter.unusedVariables false

def e32 (x : Nat) : Value := .int .u32 (x : Int)

/-- Block g holds a row of u32 of capacity c, its first cells are l. -/
def Ow (w : World) (g c : Nat) (l : List Nat) : Prop :=
  ∃ cur : Array Value, w.heap[g]? = some (.cells cur 83 (0, 0)) ∧ cur.size = c ∧ l.length ≤ c ∧ cur.toList.take l.length = l.map e32 ∧ c ≤ maxLen

theorem Ow.lt {w : World} {g c : Nat} {l : List Nat} (h : Ow w g c l) : g < w.heap.size := by
  obtain ⟨cur, hg, _⟩ := h
  exact (Array.getElem?_eq_some_iff.1 hg).1

theorem Ow.cell {w : World} {g c : Nat} {l : List Nat} (h : Ow w g c l) (i : Nat) (hi : i < l.length) : w.cell? ⟨g, i, none⟩ = some (.int .u32 (rd l i : Int)) := by
  obtain ⟨cur, hg, hs, hc, ht, hm⟩ := h
  rw [cell_of_row w g i cur 83 (0, 0) hg]
  have h1 : (cur.toList.take l.length)[i]? = (l.map e32)[i]? := by rw [ht]
  rw [List.getElem?_take_of_lt hi, List.getElem?_map, List.getElem?_eq_getElem hi, Array.getElem?_toList] at h1
  rw [h1, rd_eq l i hi]; rfl

theorem Ow.free {w : World} {g c : Nat} {l : List Nat} (h : Ow w g c l) (i : Nat) : w.frozen? ⟨g, i, none⟩ = false := by
  obtain ⟨cur, hg, hs, hc, ht, hm⟩ := h
  exact frozen_of_row w g i cur 83 hg

theorem Ow.rd {w : World} {g c : Nat} {l : List Nat} (h : Ow w g c l) : Rd w (some ⟨g, 0, none⟩) l :=
  fun i hi => ⟨g, 0, rfl, h.lt, by rw [Nat.zero_add]; exact h.cell i hi⟩

theorem Ow.set {w : World} {g c : Nat} {l : List Nat} (h : Ow w g c l) (i x : Nat) : Ow (w.setCell ⟨g, i, none⟩ (.int .u32 (x : Int))) g c (l.set i x) := by
  obtain ⟨cur, hg, hs, hc, ht, hm⟩ := h
  refine ⟨cur.setIfInBounds i (e32 x), heap_setCell_same w g i cur 83 _ hg, by simpa using hs, by simpa using hc, ?_, hm⟩
  rw [Array.toList_setIfInBounds, List.length_set, List.take_set, ht, List.map_set]

theorem Ow.kept {w w' : World} {g c : Nat} {l : List Nat} (h : Ow w g c l) (hk : w'.heap[g]? = w.heap[g]?) : Ow w' g c l := by
  obtain ⟨cur, hg, hr⟩ := h
  exact ⟨cur, by rw [hk]; exact hg, hr⟩

theorem Ow.below {w w' : World} {g c : Nat} {l : List Nat} (h : Ow w g c l) (hb : Below w.heap.size w w') : Ow w' g c l := h.kept (hb.block g h.lt)
theorem Ow.drewN {w : World} {g c : Nat} {l : List Nat} (h : Ow w g c l) (n : Nat) : Ow (w.drewN n) g c l := h
theorem Ow.take {w : World} {g c : Nat} {l : List Nat} (h : Ow w g c l) (k : Nat) : Ow w g c (l.take k) := by
  obtain ⟨cur, hg, hs, hc, ht, hm⟩ := h
  refine ⟨cur, hg, hs, by rw [List.length_take]; omega, ?_, hm⟩
  rw [List.length_take, List.map_take, ← ht, List.take_take]

theorem Ow.owns {w : World} {g c : Nat} {l : List Nat} (h : Ow w g c l) : w.ownsRow g 83 1 (.slice (some ⟨g, 0, none⟩) l.length c) l.length (l.map e32) := by
  obtain ⟨cur, hg, hs, hc, ht, hm⟩ := h
  exact ⟨by simp, .inr ⟨g, c, cur, rfl, Nat.le_refl _, hg, hc, hm, by simpa using hs, by simpa using ht⟩⟩

theorem Ow.of_owns {w : World} {base g c n : Nat} {l : List Nat} (h : w.ownsRow base 83 1 (.slice (some ⟨g, 0, none⟩) n c) n (l.map e32)) : Ow w g c l ∧ n = l.length ∧ base ≤ g := by
  obtain ⟨hl, h | ⟨g', cap, cur, hv, hb, hg, hc, hm, hs, ht⟩⟩ := h
  · simp at h
  · simp only [Value.slice.injEq, Option.some.injEq, Addr.mk.injEq, and_true, true_and] at hv
    obtain ⟨rfl, rfl⟩ := hv
    simp only [List.length_map, Nat.mul_one] at hl hs ht
    subst hl
    exact ⟨⟨cur, hg, hs, hc, ht, hm⟩, rfl, hb⟩

/-- Only block g may have changed, and new blocks have come. -/
def But (g : Nat) (w w' : World) : Prop := w.grownBy w' (some g)
theorem But.refl (g : Nat) (w : World) : But g w w := World.grownBy.refl w _
theorem But.trans {g : Nat} {a b c : World} (h : But g a b) (k : But g b c) : But g a c :=
  ⟨k.os.trans h.os, k.tape.trans h.tape, k.output.trans h.output, Nat.le_trans h.size k.size, fun i hi hn => (k.block i (Nat.lt_of_lt_of_le hi h.size) hn).trans (h.block i hi hn)⟩
theorem But.set {g : Nat} {a b : World} (h : But g a b) (i : Nat) (v : Value) : But g a (b.setCell ⟨g, i, none⟩ v) :=
  h.trans ⟨rfl, rfl, rfl, by simp, fun k _ hk => heap_setCell_other b ⟨g, i, none⟩ k v (fun e => hk (by simp [e]))⟩
theorem But.drewN {g : Nat} {a b : World} (h : But g a b) (n : Nat) : But g a (b.drewN n) := h.trans ⟨rfl, rfl, rfl, Nat.le_refl _, fun _ _ _ => rfl⟩
theorem But.below {g B : Nat} {a b : World} (h : But g a b) (hB : B ≤ g) (hs : B ≤ a.heap.size) : Below B a b :=
  ⟨h.os, h.tape, h.output, h.size, fun k hk => h.block k (by omega) (by simp; omega)⟩

theorem take_set_app {α : Type} (l : List α) (k : Nat) (q : List α) (x : α) (hk : k < l.length) : (l.take (k + 1) ++ q).set k x = l.take k ++ x :: q := by
  rw [List.take_succ_eq_append_getElem hk, List.append_assoc, List.singleton_append, List.set_append_right _ _ (by simp; omega)]
  rw [List.length_take, Nat.min_eq_left (by omega), Nat.sub_self, List.set_cons_zero]

theorem drop_cons (l : List Nat) (k : Nat) (hk : k < l.length) : l.drop k = rd l k :: l.drop (k + 1) := by
  rw [List.drop_eq_getElem_cons hk, rd_eq l k hk]

theorem small_val (x left d v : Nat) : x + 4294967296 * (v * d + left) = ((4294967296 * left + x) / d + 4294967296 * v) * d + (4294967296 * left + x) % d := by
  have h := Nat.div_add_mod (4294967296 * left + x) d
  rw [Nat.add_mul, Nat.mul_comm ((4294967296 * left + x) / d) d, Nat.mul_add, Nat.mul_assoc]
  omega

set_option maxHeartbeats 400000 in
theorem small_any (g c d : Nat) (l : List Nat) (w : World) (h : Ow w g c l) (hg : Gd l) (hl : l.length ≤ 65535) (hd : 0 < d) (hd2 : d < 4294967296) :
    Calls Tryz.prog 98 #[.slice (some ⟨g, 0, none⟩) l.length c, .int .u32 d] w fun e w' => ∃ q : List Nat, e = .returned (.int .u32 ((val l % d : Nat) : Int)) ∧ q.length = l.length ∧ Gd q ∧ val q = val l / d ∧ Ow w' g c q ∧ But g w w' := by
  have hd3 : ((d : Int) != 0) = true := by simp; omega
  have HO := Lib.hid h; clear h
  have HG := Lib.hid hg; clear hg
  go_enter Tryz.func98, Tryz.ntmps98
  go_wp2
  go_loopw [6, 5] (fun v r wr => ∃ (k left : Nat) (q : List Nat), k ≤ l.length ∧ v = .int .i64 ((k : Int) - 1) ∧ r = .int .u32 (left : Int) ∧ left < d ∧ q.length + k = l.length ∧ Hid (Gd q) ∧
      Hid (val (l.drop k) = val q * d + left) ∧ Hid (Ow wr g c (l.take k ++ q)) ∧ Hid (But g w wr)) (fun v _ _ => (intOf v + 1).toNat)
  case atStart => exact ⟨l.length, 0, [], Nat.le_refl _, rfl, rfl, hd, by simp, good_nil, by simp [Hid, val], by simpa [Hid] using HO.out, But.refl _ _⟩
  case round =>
    obtain ⟨k, left, q, hk, rfl, rfl, hlt, hq, hgq, hval, how, hbut⟩ := hrel
    by_cases h0 : k = 0
    · subst h0
      go_wp2
      go_ret
      have hv := hval.out
      rw [List.drop_zero] at hv
      refine ⟨q, ?_, by omega, hgq.out, ?_, by simpa using how.out, hbut.out⟩
      · refine ret_int ?_
        rw [hv, Nat.add_comm, Nat.add_mul_mod_self_right, Nat.mod_eq_of_lt hlt]
      · rw [hv, Nat.add_comm, Nat.add_mul_div_right _ _ hd, Nat.div_eq_of_lt hlt, Nat.zero_add]
    · obtain ⟨k, rfl⟩ : ∃ j, k = j + 1 := ⟨k - 1, by omega⟩
      rw [show (((k + 1 : Nat) : Int) - 1) = (k : Int) by omega]
      have hk' : k < l.length := by omega
      have hc := how.out.cell k (by simp; omega)
      have hf := how.out.free k
      have hrk : rd (l.take (k + 1) ++ q) k = rd l k := by
        unfold rd; rw [List.getElem?_append_left (by simp; omega), List.getElem?_take_of_lt (by omega)]
      rw [hrk] at hc
      have hx := rd_lt HG.out k
      have hdiv := div32_any left (rd l k) d
      have HR := Lib.hid hrk; have HD := Lib.hid hdiv
      clear hrk hdiv
      go_wp2_with fail
      refine (HD.out _ hlt hx hd2).mono ?_
      rintro e w' ⟨rfl, nq, rfl⟩
      go_wp2
      rw [show (4294967296 * (left : Int) + (rd l k : Int)) % (d : Int) = (((4294967296 * left + rd l k) % d : Nat) : Int) by simp,
        show (4294967296 * (left : Int) + (rd l k : Int)) / (d : Int) = (((4294967296 * left + rd l k) / d : Nat) : Int) by simp]
      have hqd := div_small left (rd l k) d hlt hx
      refine ⟨⟨k, _, (4294967296 * left + rd l k) / d :: q, by omega, rfl, rfl, Nat.mod_lt _ hd, by simp; omega, ?_, ?_, ?_, ?_⟩, by simp [intOf]⟩
      · intro y hy
        cases hy with
        | head => exact hqd
        | tail _ hy => exact hgq.out y hy
      · show val (l.drop k) = _
        rw [drop_cons l k hk', val, hval.out, val]
        exact small_val _ _ _ _
      · have := (how.out.drewN nq).set k ((4294967296 * left + rd l k) / d)
        rw [take_set_app l k q _ hk'] at this
        exact this
      · exact (hbut.out.drewN nq).set k _


theorem app_set (q : List Nat) (l : List Nat) (k x : Nat) (hq : q.length = k) (hk : k < l.length) : (q ++ l.drop k).set k x = (q ++ [x]) ++ l.drop (k + 1) := by
  rw [drop_cons l k hk, List.set_append_right _ _ (by omega), hq, Nat.sub_self, List.set_cons_zero, List.append_assoc]; rfl

theorem app_rd (q l : List Nat) (k : Nat) (hq : q.length = k) : rd (q ++ l.drop k) k = rd l k := by
  unfold rd; rw [List.getElem?_append_right (by omega), hq, Nat.sub_self, List.getElem?_drop, Nat.add_zero]

theorem Rd.but {w w' : World} {A : Option Addr} {l : List Nat} {g : Nat} (h : Rd w A l) (hb : But g w w') (hne : ∀ b o t, A = some ⟨b, o, t⟩ → b ≠ g) : Rd w' A l := by
  intro i hi
  obtain ⟨b, o, hA, hlt, hx⟩ := h i hi
  refine ⟨b, o, hA, Nat.lt_of_lt_of_le hlt hb.size, ?_⟩
  rw [World.cell?_of_block (w := w) (hb.block b hlt (fun e => hne b o _ hA (by simpa using e)))]; exact hx

set_option maxHeartbeats 400000 in
theorem less_any (g c d : Nat) (B : Option Addr) (l m : List Nat) (w : World) (h : Ow w g c l) (hm : Rd w B m) (hne : ∀ b o t, B = some ⟨b, o, t⟩ → b ≠ g) (hg : Gd l) (hgm : Gd m)
    (hl : l.length ≤ 65535) (hml : m.length ≤ l.length) (hv : val m ≤ val l) :
    Calls Tryz.prog 100 #[.slice (some ⟨g, 0, none⟩) l.length c, .slice B m.length d] w fun e w' => ∃ q : List Nat, e = .returned (.tuple #[]) ∧ q.length = l.length ∧ Gd q ∧ val q = val l - val m ∧ Ow w' g c q ∧ But g w w' := by
  have HO := Lib.hid h; clear h
  have HG := Lib.hid hg; clear hg
  have HM := Lib.hid hm; clear hm
  have HN := Lib.hid hne; clear hne
  have HGM := Lib.hid hgm; clear hgm
  go_enter Tryz.func100, Tryz.ntmps100
  go_wp2
  go_loopw [9, 4] (fun v r wr => ∃ (k b : Nat) (q : List Nat), k ≤ l.length ∧ v = .int .i64 (k : Int) ∧ r = .int .u32 (b : Int) ∧ b ≤ 1 ∧ q.length = k ∧ Hid (Gd q) ∧
      Hid (val q + val (m.take k) = val (l.take k) + b * 4294967296 ^ k) ∧ Hid (Ow wr g c (q ++ l.drop k)) ∧ Hid (But g w wr)) (fun v _ _ => (l.length - intOf v).toNat)
  case atStart => exact ⟨0, 0, [], Nat.zero_le _, rfl, rfl, Nat.zero_le _, rfl, good_nil, by simp [Hid, val], by simpa [Hid] using HO.out, But.refl _ _⟩
  case round =>
    obtain ⟨k, b, q, hk, rfl, rfl, hb, hq, hgq, hval, how, hbut⟩ := hrel
    by_cases h0 : k < l.length
    · have hc := how.out.cell k (by simp; omega)
      have hf := how.out.free k
      rw [app_rd q l k hq] at hc
      have hx := rd_lt HG.out k
      have hy := rd_lt HGM.out k
      have HS := Lib.hid (fun w => sub32_any (rd l k) (rd m k) b w hx hy hb)
      by_cases h1 : k < m.length
      · obtain ⟨b2, o2, rfl, hb2, hc2⟩ := (HM.out.but hbut.out HN.out) k h1
        have HX2 := Lib.hid hb2; clear hb2
        go_wp2_with fail
        refine (HS.out _).mono ?_
        rintro e w' ⟨rfl, rfl⟩
        go_wp2
        go_roundw
        case rel => exact ⟨k + 1, _, q ++ [sub32 (rd l k) (rd m k) b], by omega, by go_num, rfl, borrow_le _ _ _, by simp; omega, gd_snoc hgq.out (sub32_lt _ _ _),
          by show _ = _
             rw [val_snoc, val_take_succ, val_take_succ, hq, Nat.pow_succ]; exact less_step hval.out (sub32_eq _ _ _ hx hy hb),
          by have := how.out.set k (sub32 (rd l k) (rd m k) b); rwa [app_set q l k _ hq h0] at this, hbut.out.set k _⟩
        case measure => simp [intOf]; omega
      · have hz : rd m k = 0 := rd_out (by omega)
        have hrz : ((rd m k : Nat) : Int) = 0 := by rw [hz]; rfl
        have HRZ := Lib.hid hrz; have HZ := Lib.hid hz; clear hrz hz
        go_wp2_with fail
        rw [show (Value.int .u32 0) = Value.int .u32 ((rd m k : Nat) : Int) by rw [HRZ.out]]
        refine (HS.out _).mono ?_
        rintro e w' ⟨rfl, rfl⟩
        go_wp2
        go_roundw
        case rel => exact ⟨k + 1, _, q ++ [sub32 (rd l k) (rd m k) b], by omega, by go_num, rfl, borrow_le _ _ _, by simp; omega, gd_snoc hgq.out (sub32_lt _ _ _),
          by show _ = _
             rw [val_snoc, val_take_succ, val_take_succ, hq, Nat.pow_succ]; exact less_step hval.out (sub32_eq _ _ _ hx hy hb),
          by have := how.out.set k (sub32 (rd l k) (rd m k) b); rwa [app_set q l k _ hq h0] at this, hbut.out.set k _⟩
        case measure => simp [intOf]; omega
    · obtain rfl : k = l.length := by omega
      go_wp2
      go_end0
      have hv2 := hval.out
      rw [List.take_of_length_le hml, List.take_of_length_le (Nat.le_refl _)] at hv2
      have hlt := val_lt hgq.out
      rw [hq] at hlt
      refine ⟨q, rfl, hq, hgq.out, less_end hv2 hlt hb hv, by simpa using how.out, hbut.out⟩

end Go.Proofs.YtifcibbhblhfiaaGreatDoor
