/- Walks of package lex: Scan. -/
import Derived.Test.YtifcibbhblhfiaaGreatDoorLexQ
import Derived.Recover
import Derived.Defers
import Derived.Laws.Pointers
namespace Go.Proofs.YtifcibbhblhfiaaGreatDoor
open Go.RowKit Pl
set_option linter.unusedVariables false

/-! ### What holds of the tokens so far -/
structure Inv (T : List Tk) (line : Nat) : Prop where
  each : ∀ t ∈ T, 1 ≤ t.line ∧ t.line ≤ line ∧ t.kind ≠ 9
  mono : T.Pairwise (fun a b => a.line ≤ b.line)
  ends : T.countP (fun t => t.kind == 8) + 1 ≤ line

theorem Inv.start : Inv [] 1 := ⟨by simp, .nil, by simp⟩
theorem Inv.later {T : List Tk} {a b : Nat} (h : Inv T a) (hb : a ≤ b) : Inv T b := ⟨fun t ht => ⟨(h.each t ht).1, Nat.le_trans (h.each t ht).2.1 hb, (h.each t ht).2.2⟩, h.mono, Nat.le_trans h.ends hb⟩
theorem Inv.snoc {T : List Tk} {t : Tk} {a b : Nat} (h : Inv T a) (ht : t.line = a) (h9 : t.kind ≠ 9) (hb : a ≤ b) (h8 : t.kind = 8 → a + 1 ≤ b) : Inv (T ++ [t]) b := by
  have ha : 1 ≤ a := by have := h.ends; omega
  refine ⟨fun u hu => ?_, ?_, ?_⟩
  · rcases List.mem_append.1 hu with hu | hu
    · exact (h.later hb).each u hu
    · rw [List.mem_singleton.1 hu, ht]; exact ⟨ha, hb, h9⟩
  · rw [List.pairwise_append]
    refine ⟨h.mono, List.pairwise_singleton _ _, fun x hx y hy => ?_⟩
    rw [List.mem_singleton.1 hy, ht]; exact (h.each x hx).2.1
  · rw [List.countP_append, List.countP_singleton]
    have := h.ends
    by_cases hk : t.kind = 8
    · rw [if_pos (by simpa using hk)]; have := h8 hk; omega
    · rw [if_neg (by simpa using hk)]; omega

theorem step_inv {r : List UInt8} {line : Nat} {T : List Tk} {r' : List UInt8} {l' : Nat} {T' : List Tk} (h0 : r ≠ []) (h : tokR r line T = .ok r' l' T') (hI : Inv T line) :
    Inv T' l' ∧ r'.length < r.length ∧ l' + nl r' = line + nl r ∧ T'.length ≤ T.length + 1 ∧ r' <:+ r ∧ line ≤ l' ∧ l' + r'.length ≤ line + r.length := by
  have hk := tok_ok line T h0
  rw [h] at hk
  obtain ⟨k, k0, k1, k2, k3, hT⟩ := hk
  have hn : nl r = nl (r.take k) + nl r' := by rw [k2, ← nl_app, List.take_append_drop]
  refine ⟨?_, by rw [k2, List.length_drop]; omega, by omega, ?_, by rw [k2]; exact List.drop_suffix _ _, by omega, ?_⟩
  · rcases hT with rfl | ⟨t, rfl, ht, h9, h8⟩
    · exact hI.later (by omega)
    · exact hI.snoc ht h9 (by omega) (fun h => by have := h8 h; omega)
  · rcases hT with rfl | ⟨t, rfl, _⟩
    · omega
    · rw [List.length_append, List.length_singleton]; omega
  · have h1 : nl (r.take k) ≤ (r.take k).length := List.count_le_length
    rw [List.length_take] at h1
    rw [k2, List.length_drop]; omega

theorem scan_inv : ∀ (m f : Nat) (r : List UInt8) (line : Nat) (T : List Tk), r.length ≤ m → r.length ≤ f → Inv T line →
    match scanF f r line T with
    | .err l e => line ≤ l ∧ l ≤ line + nl r ∧ e ≠ 0
    | .ok z l' T' => z = [] ∧ l' = line + nl r ∧ Inv T' l' ∧ T'.length ≤ T.length + r.length := by
  intro m
  induction m with
  | zero =>
    intro f r line T hm hf hI
    obtain rfl : r = [] := List.eq_nil_of_length_eq_zero (by omega)
    rw [scanF_nil]
    exact ⟨rfl, rfl, hI, by simp⟩
  | succ m ih =>
    intro f r line T hm hf hI
    by_cases h0 : r = []
    · subst h0; rw [scanF_nil]; exact ⟨rfl, rfl, hI, by simp⟩
    · rw [scanF_step h0 hf]
      cases ht : tokR r line T with
      | err l e =>
        have hk := tok_ok line T h0
        rw [ht] at hk
        exact ⟨by rw [hk.1]; exact Nat.le_refl _, by rw [hk.1]; omega, hk.2⟩
      | ok r' l2 T2 =>
        obtain ⟨h1, h2, h3, h4, h5, h6, _⟩ := step_inv h0 ht hI
        have := ih f r' l2 T2 (by omega) (by omega) h1
        show match scanF f r' l2 T2 with | .err l e => _ | .ok z l' T' => _
        cases hs : scanF f r' l2 T2 with
        | err l e =>
          rw [hs] at this
          obtain ⟨a, b, c⟩ := this
          exact ⟨by omega, by omega, c⟩
        | ok z l' T' =>
          rw [hs] at this
          obtain ⟨a, b, c, d⟩ := this
          exact ⟨a, by omega, c, by omega⟩

theorem scan_ok {l z : List UInt8} {n : Nat} {T : List Tk} (h : scanL l = .ok z n T) : z = [] ∧ n = 1 + nl l ∧ Inv T n ∧ T.length ≤ l.length := by
  have := scan_inv l.length l.length l 1 [] (Nat.le_refl _) (Nat.le_refl _) Inv.start
  unfold scanL at h
  rw [h] at this
  obtain ⟨a, b, c, d⟩ := this
  exact ⟨a, b, c, by simpa using d⟩
theorem scan_err {l : List UInt8} {k e : Nat} (h : scanL l = .err k e) : 1 ≤ k ∧ k ≤ 1 + nl l ∧ e ≠ 0 := by
  have := scan_inv l.length l.length l 1 [] (Nat.le_refl _) (Nat.le_refl _) Inv.start
  unfold scanL at h
  rw [h] at this
  exact this

/-! ### The walk -/
def faultV (line e0 : Int) (rec : Bool) : PanicEntry := { v := .iface 41 (.agg #[.int .i64 line, .int .i64 e0]), recovered := rec }

theorem scan_idle (R : Nat) (w : World) :
    CallsD Tryz.prog 19 #[.pointer (some ⟨R, 0, none⟩), .pointer (some ⟨R + 1, 0, none⟩), .pointer (some ⟨R + 1 + 1, 0, none⟩)] .returning w fun e u' w' => e = .returned (.tuple #[]) ∧ u' = .returning ∧ w' = w := by
  refine callsD_of_wpS Tryz.func19 rfl fun c₀ cs hu => ?_
  apply wpS_seq
  apply wpS_region
  simp [wpOpsS, go_sem, recoverD, hu, Tryz.ntmps19, Exit.thenS]
  refine wpS_of_wp ?_
  go_wp2
  cases c₀
  simp_all [bodyPostS, results, Tryz.results19]

set_option maxRecDepth 100000 in
set_option maxHeartbeats 1000000 in
theorem scan_catch (R : Nat) (line e0 : Int) (v0 v1 v2 : Value) (w : World) (c0 : w.cell? ⟨R, 0, none⟩ = some v0) (c1 : w.cell? ⟨R + 1, 0, none⟩ = some v1) (c2 : w.cell? ⟨R + 1 + 1, 0, none⟩ = some v2)
    (f0 : w.frozen? ⟨R, 0, none⟩ = false) (f1 : w.frozen? ⟨R + 1, 0, none⟩ = false) (f2 : w.frozen? ⟨R + 1 + 1, 0, none⟩ = false) :
    CallsD Tryz.prog 19 #[.pointer (some ⟨R, 0, none⟩), .pointer (some ⟨R + 1, 0, none⟩), .pointer (some ⟨R + 1 + 1, 0, none⟩)] (.panicking [faultV line e0 false]) w fun e u' w' =>
      e = .returned (.tuple #[]) ∧ u' = .panicking [faultV line e0 true] ∧ w'.cell? ⟨R, 0, none⟩ = some (.slice none 0 0) ∧ w'.cell? ⟨R + 1, 0, none⟩ = some (.int .i64 line) ∧ w'.cell? ⟨R + 1 + 1, 0, none⟩ = some (.int .i64 e0) ∧ Below R w w' := by
  unfold faultV
  have hta : ∀ (v : Value) (w : World), (Instr.typeAssert (.iface 41 v) 20 41 true).run Tryz.prog w = .ok (.tuple #[v, .bool true]) w := fun v w => rfl
  refine callsD_of_wpS Tryz.func19 rfl fun c₀ cs hu => ?_
  apply wpS_seq
  apply wpS_region
  simp [wpOpsS, go_sem, recoverD, hu, Tryz.ntmps19, Exit.thenS]
  refine wpS_of_wp ?_
  change Code.wp _ _ _ ⟨#[.pointer (some ⟨R, 0, none⟩), .pointer (some ⟨R + 1, 0, none⟩), .pointer (some ⟨R + 1 + 1, 0, none⟩), undef, undef, undef, .iface 41 (.agg #[.int .i64 line, .int .i64 e0]), undef, undef, undef, undef, undef, undef, undef, undef, undef], []⟩ _
  have l0 : R < w.heap.size := World.block_lt_of_cell? w _ c0
  have l1 : R + 1 < w.heap.size := World.block_lt_of_cell? w _ c1
  have l2 : R + 1 + 1 < w.heap.size := World.block_lt_of_cell? w _ c2
  have e0' : ∀ o, (w.alloc o).cell? ⟨R, 0, none⟩ = some v0 := fun o => by rw [World.cell?_of_block (w := w) (Below.heap_alloc w o R l0)]; exact c0
  have e1' : ∀ o, (w.alloc o).cell? ⟨R + 1, 0, none⟩ = some v1 := fun o => by rw [World.cell?_of_block (w := w) (Below.heap_alloc w o (R + 1) l1)]; exact c1
  have e2' : ∀ o, (w.alloc o).cell? ⟨R + 1 + 1, 0, none⟩ = some v2 := fun o => by rw [World.cell?_of_block (w := w) (Below.heap_alloc w o (R + 1 + 1) l2)]; exact c2
  have g0' : ∀ o, (w.alloc o).frozen? ⟨R, 0, none⟩ = false := fun o => by rw [World.frozen?_of_block (w := w) (Below.heap_alloc w o R l0)]; exact f0
  have g1' : ∀ o, (w.alloc o).frozen? ⟨R + 1, 0, none⟩ = false := fun o => by rw [World.frozen?_of_block (w := w) (Below.heap_alloc w o (R + 1) l1)]; exact f1
  have g2' : ∀ o, (w.alloc o).frozen? ⟨R + 1 + 1, 0, none⟩ = false := fun o => by rw [World.frozen?_of_block (w := w) (Below.heap_alloc w o (R + 1 + 1) l2)]; exact f2
  obtain ⟨w3, hw3⟩ : ∃ w3, w3 = ((w.setCell ⟨R, 0, none⟩ (.slice none 0 0)).setCell ⟨R + 1, 0, none⟩ (.int .i64 line)).setCell ⟨R + 1 + 1, 0, none⟩ (.int .i64 e0) := ⟨_, rfl⟩
  have HFIN : Hid (∀ o, (w3.alloc o).drew.cell? ⟨R, 0, none⟩ = some (.slice none 0 0) ∧ (w3.alloc o).drew.cell? ⟨R + 1, 0, none⟩ = some (.int .i64 line) ∧ (w3.alloc o).drew.cell? ⟨R + 1 + 1, 0, none⟩ = some (.int .i64 e0) ∧ Below R w (w3.alloc o).drew) := by
    show ∀ o, _
    intro o
    have s3 : w3.heap.size = w.heap.size := by rw [hw3]; simp
    have ha : ∀ k, k < w.heap.size → (w3.alloc o).drew.heap[k]? = w3.heap[k]? := fun k hk => Below.heap_alloc w3 o k (by omega)
    have hb : Below R w w3 := by
      rw [hw3]
      exact (((Below.refl R w).setCell (p := ⟨R, 0, none⟩) (Nat.le_refl R) _).setCell (p := ⟨R + 1, 0, none⟩) (by show R ≤ R + 1; omega) _).setCell (p := ⟨R + 1 + 1, 0, none⟩) (by show R ≤ R + 1 + 1; omega) _
    refine ⟨?_, ?_, ?_, (hb.alloc (by omega) o).drew⟩
    · rw [World.cell?_of_block (w := w3) (ha R l0), hw3, World.cell?_of_block (heap_setCell_other _ ⟨R + 1 + 1, 0, none⟩ R _ (by show R ≠ R + 1 + 1; omega)), World.cell?_of_block (heap_setCell_other _ ⟨R + 1, 0, none⟩ R _ (by show R ≠ R + 1; omega))]
      exact World.cell?_setCell_same' _ _ _ (by rw [c0]; rfl)
    · rw [World.cell?_of_block (w := w3) (ha (R + 1) l1), hw3, World.cell?_of_block (heap_setCell_other _ ⟨R + 1 + 1, 0, none⟩ (R + 1) _ (by show R + 1 ≠ R + 1 + 1; omega))]
      exact World.cell?_setCell_same' _ _ _ (by rw [World.cell?_of_block (w := w) (heap_setCell_other _ ⟨R, 0, none⟩ (R + 1) _ (by show R + 1 ≠ R; omega)), c1]; rfl)
    · rw [World.cell?_of_block (w := w3) (ha (R + 1 + 1) l2), hw3]
      exact World.cell?_setCell_same' _ _ _ (by rw [World.cell?_of_block (heap_setCell_other _ ⟨R + 1, 0, none⟩ (R + 1 + 1) _ (by show R + 1 + 1 ≠ R + 1; omega)), World.cell?_of_block (w := w) (heap_setCell_other _ ⟨R, 0, none⟩ (R + 1 + 1) _ (by show R + 1 + 1 ≠ R; omega)), c2]; rfl)
  have HW3 := Lib.hid hw3; clear hw3
  go_wp2_with fail
  go_region
  all_goals
    go_wp2_with fail
    rw [← HW3.out]
    exact ⟨rfl, _, rfl, _, results_none rfl _ _ _, rfl, rfl, HFIN.out _⟩

end Go.Proofs.YtifcibbhblhfiaaGreatDoor
