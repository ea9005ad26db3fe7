/- Words on memory for this seat's walks: appending new cells to a slice of the call's own. -/
import Derived.Test.YtifcibbhblhfiaaGreatDoorBase
import Derived.RangeFuncBox
import Derived.Maps.AppendAt
import Derived.Lib.ConvBytes
namespace Go.Proofs.YtifcibbhblhfiaaGreatDoor
open Go.RowKit

theorem cells_new (w : World) (cs : Array Value) (t : TypeId) : ∀ j u, cs.toList[j]? = some u → (w.alloc (.cells cs t)).cell? ((⟨w.heap.size, 0, none⟩ : Addr).add j) = some u := by
  intro j u hj
  have e : ((⟨w.heap.size, 0, none⟩ : Addr).add j) = ⟨w.heap.size, j, none⟩ := by
    unfold Addr.add
    split
    · rename_i h; subst h; rfl
    · simp
  rw [e, World.cell?_alloc_new]
  simpa using hj

theorem below_of_grown {w w' : World} {base e size n : Nat} {v : Value} {xs : List Value} (h : w.ownsRow base e size v n xs) (hb : base ≤ w.heap.size) (hg : w.grownBy w' v.ownBlock) : Below base w w' :=
  ⟨hg.os, hg.tape, hg.output, hg.size, fun k hk => hg.block k (by omega) (fun e => by have := h.lt k e.symm; omega)⟩

/-- append of m new elements (laid in a block of their own) to a slice that is nil or the call's own. -/
theorem wpList_appN {P : Program} {W : World} {ops : Array Oper} {rest : List Oper} {o : Oper} {a : Act} {Q : Exit → Act → World → Prop} (hgd : o.guard = none) (s x : Operand) (t : TypeId)
    (ho : o.op = .call { callee := .builtin .append, args := #[s, x], argTypes := #[t, t] })
    (base : Nat) (e : TypeId) (z : Value) (size bytes : Nat) (ht : P.underlying t = some (.slice e)) (hinfo : (P.info? e).map (fun i => (i.zero, i.size, i.bytes)) = some (some z, size, bytes))
    (hzs : z.cells.size = size) (hsz : 0 < size)
    (v : Value) (n : Nat) (xs : List Value) (hs : a.eval s = v) (hown : W.ownsRow base e size v n xs)
    (cs : Array Value) (m c : Nat) (hm : 0 < m) (hx : a.eval x = .slice (some ⟨W.heap.size, 0, none⟩) m c) (hl : cs.size = m * size) (h1 : ∀ u ∈ cs.toList, u.oneCell' = true)
    (h63 : n + m ≤ maxLen) (hbytes : (n + m) * bytes ≤ 140737488355328) (hbase : base ≤ W.heap.size)
    (h : ∀ g c w', w'.ownsRow base e size (.slice (some ⟨g, 0, none⟩) (n + m) c) (n + m) (xs ++ cs.toList) → Below base W w' → wpList P ops Q rest (a.put o.dst (.slice (some ⟨g, 0, none⟩) (n + m) c)) w') :
    wpList P ops Q (o :: rest) a (W.alloc (.cells cs e)) := by
  obtain ⟨i, hi, hz, hsize, hby⟩ := info_parts hinfo
  have hown' := hown.alloc (.cells cs e)
  refine wpList_append_own (W.alloc (.cells cs e)) hgd s x t ho base e i z size bytes ht hi hz hsize hby hzs hsz v n xs hs hown' ⟨W.heap.size, 0, none⟩ m c cs.toList hx (by simpa using hl) (cells_new W cs e) h1 h63 hbytes (by simp; omega) ?_
  intro v' w' hr hg _
  obtain ⟨k, hk⟩ : ∃ k, n + m = k + 1 := ⟨n + m - 1, by omega⟩
  obtain ⟨g, c, rfl⟩ : ∃ g c, v' = .slice (some ⟨g, 0, none⟩) (n + m) c := by rw [hk] at hr ⊢; exact ownsRow_succ hr
  exact h g c w' hr (((Below.refl base W).alloc hbase _).trans (below_of_grown hown' (by simp; omega) hg))


/-- 'make([]T, n, m)', elements of one cell, n and m variables. -/
theorem wpList_make1 {P : Program} {W : World} {ops : Array Oper} {rest : List Oper} {o : Oper} {a : Act} {Q : Exit → Act → World → Prop} (hgd : o.guard = none) (l c : Operand) (t : TypeId)
    (hop : o.op = Op.makeSlice t l c) (e : TypeId) (z : Value) (bytes : Nat) (ht : P.underlying t = some (.slice e)) (hinfo : (P.info? e).map (fun i => (i.zero, i.size, i.bytes)) = some (some z, 1, bytes))
    (hzc : z.cells = #[z]) (kl kc : IntKind) (L C : Int) (n m : Nat) (hl : a.eval l = .int kl L) (hc : a.eval c = .int kc C) (hL : L = (n : Int)) (hC : C = (m : Int)) (hnm : n ≤ m) (b2 : bytes * m ≤ 281474976710656) (b3 : m ≤ maxLen)
    (h : ∀ w', w'.ownsRow W.heap.size e 1 (.slice (some ⟨W.heap.size, 0, none⟩) n m) n (List.replicate n z) → Below W.heap.size W w' → wpList P ops Q rest (a.put o.dst (.slice (some ⟨W.heap.size, 0, none⟩) n m)) w') :
    wpList P ops Q (o :: rest) a W := by
  obtain ⟨i, hi, hz, hsize, hby⟩ := info_parts hinfo
  have h63' : (m : Int) ≤ 9223372036854775807 := by
    have h := b3
    simp [maxLen] at h
    omega
  have hb' : (i.bytes : Int) * (m : Int) ≤ 281474976710656 := by
    have h : ((i.bytes * m : Nat) : Int) ≤ 281474976710656 := by rw [hby]; omega
    rwa [Int.natCast_mul] at h
  have hrun := run_make (P := P) W t e i z ht hi hz kl kc n m (by omega) (by omega) hb' h63'
  simp only [Int.toNat_natCast, hsize, Nat.mul_one, hzc] at hrun
  refine wpList_plain hgd fun K hK' => ?_
  subst hL hC
  unfold Oper.wp
  simp [execOp, hop, hl, hc, hrun, Result.andThen]
  refine hK' _ _ (h _ ⟨by simp, .inr ⟨W.heap.size, m, _, rfl, Nat.le_refl _, heap_alloc_new W _, hnm, b3, by rw [size_madeCells, Nat.mul_one], ?_⟩⟩ ((Below.refl _ _).alloc (Nat.le_refl _) _))
  rw [toList_madeCells_one, List.take_replicate, Nat.mul_one, Nat.min_eq_left hnm]


/-- Byte i of a list, 0 behind its end. -/
def byt (l : List UInt8) (i : Nat) : Nat := (l[i]?.getD 0).toNat
theorem byt_lt (l : List UInt8) (i : Nat) : byt l i < 256 := by unfold byt; have := (l[i]?.getD 0).toNat_lt; omega
theorem byt_eq (l : List UInt8) (i : Nat) (h : i < l.length) : byt l i = l[i].toNat := by unfold byt; rw [List.getElem?_eq_getElem h]; rfl

/-- '[]byte(s)'. -/
theorem conv_bytes {P : Program} (src dst e : TypeId) (s : ByteArray) {u : TypeDesc} (hs : P.underlying src = some u) (hd : P.underlying dst = some (.slice e)) (he : P.underlying e = some (.int .u8)) (w : World) :
    ∃ c w1, (convert src dst (.string s)).run P w = .ok (.slice (some ⟨w.heap.size, 0, none⟩) s.size c) w1 ∧ s.size ≤ c ∧ Below w.heap.size w w1 ∧ w1.heap.size = w.heap.size + 1 ∧
      ∀ j, j < s.size → w1.cell? ⟨w.heap.size, j, none⟩ = some (.int .u8 (byt s.data.toList j : Int)) := by
  refine ⟨_, _, Lib.run_convert_string_bytes w src dst e s hs hd he, grownCap_ge w s.size 0 e, ?_, Lib.bytesWorld_size w e s, fun j hj => ?_⟩
  · exact ⟨rfl, rfl, rfl, by rw [Lib.bytesWorld_size]; omega, fun k hk => Lib.bytesWorld_at_old w e s k hk⟩
  · rw [Lib.bytesWorld_cell w e s j hj]
    unfold byt
    simp

end Go.Proofs.YtifcibbhblhfiaaGreatDoor
