/- A range over a function whose iterator keeps its state in one cell of its own. -/
import Derived.RangeFuncNested
import Derived.RangeFuncBound
import Derived.RangeFuncCalls
import Derived.RangeFuncLeaves
import Derived.Test.YtifcibbhblhfiaaGreatDoorGen
namespace Go.Proofs.YtifcibbhblhfiaaGreatDoor
open Go.RowKit

/-- The iterator's own step: block bs alone may turn. -/
structure StepS (bs : Nat) (W W' : World) : Prop where
  os : W'.os = W.os
  tape : W'.tape = W.tape
  output : W'.output = W.output
  size : W.heap.size ≤ W'.heap.size
  block : ∀ k, k < W.heap.size → k ≠ bs → W'.heap[k]? = W.heap[k]?

/-- A step of the iterator or of the book-keeping: block bs, or a block from b on that holds no cells. -/
structure StepB (bs b : Nat) (W W' : World) : Prop where
  os : W'.os = W.os
  tape : W'.tape = W.tape
  output : W'.output = W.output
  size : W.heap.size ≤ W'.heap.size
  block : ∀ k, k < W.heap.size → k ≠ bs → (k < b ∨ ∃ o : Obj, W.heap[k]? = some o ∧ o.isCells = true) → W'.heap[k]? = W.heap[k]?

/-- A step of the book-keeping: a block from b on that holds no cells. -/
structure StepN (b : Nat) (W W' : World) : Prop where
  os : W'.os = W.os
  tape : W'.tape = W.tape
  output : W'.output = W.output
  size : W.heap.size ≤ W'.heap.size
  block : ∀ k, k < W.heap.size → (k < b ∨ ∃ o : Obj, W.heap[k]? = some o ∧ o.isCells = true) → W'.heap[k]? = W.heap[k]?
theorem StepN.toB {bs b : Nat} {W W' : World} (h : StepN b W W') : StepB bs b W W' := ⟨h.os, h.tape, h.output, h.size, fun k hk _ h' => h.block k hk h'⟩

theorem StepS.toB {bs b : Nat} {W W' : World} (h : StepS bs W W') : StepB bs b W W' := ⟨h.os, h.tape, h.output, h.size, fun k hk hn _ => h.block k hk hn⟩
theorem StepB.alloc (bs b : Nat) (W : World) (o : Obj) : StepB bs b W (W.alloc o) := ⟨rfl, rfl, rfl, by simp, fun k hk _ _ => Below.heap_alloc W o k hk⟩
theorem StepN.put {b r : Nat} {W : World} {o : Obj} (o' : Obj) (hr : b ≤ r) (hh : W.heap[r]? = some o) (ho : o.isCells = false) : StepN b W (W.putObj r o') :=
  ⟨rfl, rfl, rfl, by simp, fun k hk h => World.putObj_heap_other (by
    rintro rfl
    rcases h with h | ⟨o2, h2, h3⟩
    · omega
    · rw [hh] at h2; cases h2; rw [ho] at h3; cases h3)⟩
theorem StepS.set (bs : Nat) (W : World) (v : Value) : StepS bs W (W.setCell ⟨bs, 0, none⟩ v) := ⟨rfl, rfl, rfl, by simp, fun k _ hk => heap_setCell_other W ⟨bs, 0, none⟩ k v hk⟩
theorem StepN.below {b n : Nat} {w W W' : World} (hb : Below n w W) (h : StepN b W W') (hnb : n ≤ b) (hw : n ≤ w.heap.size) : Below n w W' :=
  ⟨h.os.trans hb.os, h.tape.trans hb.tape, h.output.trans hb.output, Nat.le_trans hb.size h.size, fun k hk => (h.block k (by have := hb.size; omega) (.inl (by omega))).trans (hb.block k hk)⟩
theorem StepB.below {bs b n : Nat} {w W W' : World} (hb : Below n w W) (h : StepB bs b W W') (hn : n ≤ bs) (hnb : n ≤ b) (hw : n ≤ w.heap.size) : Below n w W' :=
  ⟨h.os.trans hb.os, h.tape.trans hb.tape, h.output.trans hb.output, Nat.le_trans hb.size h.size, fun k hk => (h.block k (by have := hb.size; omega) (by omega) (.inl (by omega))).trans (hb.block k hk)⟩

/-- How a round may be left. -/
def roundP {α : Type} (n0 : Nat) (I : List α → World → Prop) (Ix : Code → List α → World → Prop) (xs : List α) (W : World) : Exit → Act → World → Prop
  | .normal, _, W' => KeepsOthers W W' ∧ Below n0 W W' ∧ I xs W'
  | .ret, _, W' => KeepsOthers W W' ∧ Ix .ret xs W'
  | _, _, _ => False

/-- What the iterator owes. -/
def SeqCell {α : Type} (F : Fence) (n : Nat) (P : Program) (g : Nat) (lb : Array Value) (encs : α → Array Value) (bs n0 : Nat) (S Sp : List α → Prop) (w : World) : Prop :=
  ∀ (l : Nat) (J Jx : List α → World → Prop) (W : World), Below w.heap.size w W → (∀ s A B, J s A → StepS bs A B → J s B) →
    (∀ pre x W1, J pre W1 → YieldAt F (n - 1) P l (encs x) W1 fun e W' =>
      (e = .returned (.bool true) ∧ J (pre ++ [x]) W' ∧ Below n0 W1 W') ∨ (e = .returned (.bool false) ∧ Jx (pre ++ [x]) W')) →
    J [] W →
    CallsIn F n P g (#[.func (.yield l) #[] #[]] ++ lb) W fun e W' => (∃ v, e = .returned v) ∧ ((∃ xs, S xs ∧ J xs W') ∨ (∃ pre, Sp pre ∧ Jx pre W'))

variable {F : Fence} {n : Nat} {P : Program}

theorem wpIn_rangeCell {α : Type} {g : Operand} {ps : Array Tmp} {assign body : Code} {Q : Exit → Act → World → Prop} {a : Act} {w : World}
    (hro : F.round = none) (h1 : 1 ≤ n) {gf : Nat} {lb : Array Value} (hg : a.eval g = .func (.func gf) #[] lb) (hFg : F.fn gf) (eg : ∀ args w, (callFunc gf args).run P w = .ok (.enter gf args) w)
    {encs : α → Array Value} {S Sp : List α → Prop} {bs n0 : Nat} (hbs : bs < w.heap.size) (hn0 : n0 ≤ w.heap.size) (hseq : SeqCell F (n - 1) P gf lb encs bs n0 S Sp w) (hps : ∀ x, (encs x).size = ps.size)
    (I : List α → World → Prop) (Ix : Code → List α → World → Prop)
    (hI : ∀ s A B, I s A → StepB bs w.heap.size A B → I s B) (hIx : ∀ c s A B, Ix c s A → StepN w.heap.size A B → Ix c s B) (h0 : I [] w) (a₁ : α → Act)
    (hassign : ∀ (l : Nat) (x : α) (W : World) (K : Act → World → Prop), K (a₁ x) W →
      assign.wpIn (F.inRound l) (n - 1 - 1) P (Exit.then K (fun _ _ _ => False)) { tmps := (ps.zip (encs x)).foldl (fun t (p, v) => t.setIfInBounds p v) a.tmps, defers := [] } W)
    (hbody : ∀ (l : Nat) (pre : List α) (x : α) (W : World), I pre W → body.wpIn (F.inRound l) (n - 1 - 1) P (roundP n0 I Ix (pre ++ [x]) W) (a₁ x) W)
    (hdone : ∀ (D : Nat) (xs : List α) (W : World), w.heap.size ≤ D → S xs → I xs W → W.heap[D]? = some (.deferred (some [])) → Q .normal { a with defers := { target := .collected D, args := #[] } :: a.defers } W)
    (hstop : ∀ (D : Nat) (c : Code) (pre : List α) (W : World), w.heap.size ≤ D → Sp pre → Ix c pre W → W.heap[D]? = some (.deferred (some [])) → c.wpIn F n P Q { a with defers := { target := .collected D, args := #[] } :: a.defers } W) :
    (Code.rangeFunc g ps assign body).wpIn F n P Q a w := by
  refine wpIn_rangeFunc fun fn hfn => ?_
  rw [hro]
  obtain ⟨d, hd⟩ : ∃ d, d = w.heap.size := ⟨_, rfl⟩
  obtain ⟨rec, hrec⟩ : ∃ rec : LoopState → Option Code → Loop, rec = fun st pe => { state := st, pending := pe, fn, tmps := a.tmps, params := ps, assign, body, defers := d } := ⟨_, rfl⟩
  obtain ⟨W1, hW1⟩ : ∃ W1, (w.alloc (.deferred (some []))).alloc (.loop (rec .ready none)) = W1 := ⟨_, rfl⟩
  -- the two blocks of the book-keeping
  have hl1 : W1.heap[d + 1]? = some (.loop (rec .ready none)) := by
    have := World.alloc_heap_new (w.alloc (.deferred (some []))) (.loop (rec .ready none))
    rw [World.size_alloc, ← hd, hW1] at this; exact this
  have hd1 : W1.heap[d]? = some (.deferred (some [])) := by
    rw [← hW1, hd]; exact (Below.heap_alloc _ _ _ (by simp)).trans (World.alloc_heap_new w _)
  have hs1 : W1.heap.size = d + 2 := by rw [← hW1, hd]; simp
  have hI1 : I [] W1 := by rw [← hW1]; exact hI _ _ _ (hI _ _ _ h0 (StepB.alloc ..)) (StepB.alloc ..)
  have hb1 : Below w.heap.size w W1 := by
    rw [← hW1]; exact ((Below.refl _ w).alloc (Nat.le_refl _) _).alloc (by simp) _
  have bk : ∀ {A B : World}, StepS bs A B → ∀ k o, d ≤ k → A.heap[k]? = some o → B.heap[k]? = some o := fun h k o hk ho =>
    (h.block k (Array.getElem?_eq_some_iff.1 ho).1 (by omega)).trans ho
  refine ⟨d + 1, [{ target := .collected d, args := #[] }], W1, { target := .fn (.func gf) lb, args := #[.func (.yield (d + 1)) #[] #[]] }, W1, gf,
    #[.func (.yield (d + 1)) #[] #[]] ++ lb, W1, ?_, ?_, ?_, ?_, fun _ => h1, ?_⟩
  · rw [← hW1, hrec, hd]; exact run_enterLoop_outer _ _ _ _ _
  · simp only [resolve, hg]
    simp [go_sem]
  · intro f' hf'; simp [Target.leads] at hf'; subst hf'; exact hFg
  · simp [invoke, go_sem, eg]
  · refine (hseq (d + 1)
      (fun pre W => I pre W ∧ W.heap[d + 1]? = some (.loop (rec .ready none)) ∧ W.heap[d]? = some (.deferred (some [])))
      (fun pre W => ∃ c, Ix c pre W ∧ W.heap[d + 1]? = some (.loop (rec .done (some c))) ∧ W.heap[d]? = some (.deferred (some [])))
      W1 hb1 (fun s A B ⟨x, y, z⟩ hst => ⟨hI _ _ _ x hst.toB, bk hst _ _ (by omega) y, bk hst _ _ (by omega) z⟩) ?_ ⟨hI1, hl1, hd1⟩).mono ?_
    · rintro pre x W ⟨hi, hl, hk⟩
      have hlt : d + 1 < W.heap.size := (Array.getElem?_eq_some_iff.1 hl).1
      have hy := run_yield (P := P) (args := encs x) hl (by rw [hrec]; exact hps x)
      rw [hrec] at hy
      refine ⟨fn, _, assign, body, hy, roundIn_of_wpIn hfn (hassign _ x W _ ⟨_, run_beginRound hl (by rw [hrec]), ?_⟩)⟩
      obtain ⟨W2, hW2⟩ : ∃ W2, W2 = W.putObj (d + 1) (.loop { rec .ready none with state := .busy }) := ⟨_, rfl⟩
      rw [← hW2]
      have hl2 : W2.heap[d + 1]? = some (.loop { rec .ready none with state := .busy }) := by rw [hW2]; exact World.putObj_heap_same hlt
      have hk2 : W2.heap[d]? = some (.deferred (some [])) := by rw [hW2]; exact (World.putObj_heap_other (by omega)).trans hk
      have hi2 : I pre W2 := by rw [hW2]; exact hI _ _ _ hi (StepN.put _ (by omega) hl rfl).toB
      have hB2 : Below n0 W W2 := by rw [hW2]; exact belowK_b (w := w) hn0 _ _ _ _ (by omega) hl rfl rfl
      refine wpIn_mono (hbody _ pre x W2 hi2) ?_
      -- the round's end
      have fin : ∀ (jump : Option Code) (W3 : World), KeepsOthers W2 W3 → ∃ W4, (Instr.endRound (d + 1) jump).run P W3 = .ok (.bool jump.isNone) W4 ∧ StepN w.heap.size W3 W4 ∧ Below n0 W3 W4 ∧
          W4.heap[d + 1]? = some (.loop (rec (if jump.isNone then .ready else .done) jump)) ∧ W4.heap[d]? = some (.deferred (some [])) := by
        intro jump W3 hk3
        have hl3 := hk3.same _ _ hl2 rfl
        have hr := run_endRound (P := P) jump hl3
        refine ⟨_, hr, StepN.put _ (by omega) hl3 rfl, belowK_b (w := w) hn0 _ _ _ _ (by omega) hl3 rfl rfl, ?_, (World.putObj_heap_other (by omega)).trans (hk3.same _ _ hk2 rfl)⟩
        rw [World.putObj_heap_same (Array.getElem?_eq_some_iff.1 hl3).1, hrec]
      rintro e a3 W3 hp
      cases e with
      | normal =>
        obtain ⟨hk3, hb3, hi3⟩ := hp
        obtain ⟨W4, hr, hst, hb4, hl4, hk4⟩ := fin none W3 hk3
        exact ⟨_, W4, hr, .inl ⟨rfl, ⟨hI _ _ _ hi3 hst.toB, hl4, hk4⟩, (hB2.trans hb3).trans hb4⟩⟩
      | ret =>
        obtain ⟨hk3, hi3⟩ := hp
        obtain ⟨W4, hr, hst, _, hl4, hk4⟩ := fin (some .ret) W3 hk3
        exact ⟨_, W4, hr, .inr ⟨rfl, .ret, hIx _ _ _ _ hi3 hst, hl4, hk4⟩⟩
      | exit id => exact hp.elim
      | goto t => exact hp.elim
      | panic ch => exact hp.elim
      | outgrown => exact hp.elim
    · rintro e W2 ⟨⟨v, rfl⟩, (⟨xs, hS, hi, hl, hk⟩ | ⟨pre, hSp, c, hi, hl, hk⟩)⟩
      · refine ⟨none, _, ?_, hdone d xs _ (by omega) hS (hI _ _ _ hi (StepN.put (.loop { rec .ready none with state := .exhausted }) (by omega) hl rfl).toB) ((World.putObj_heap_other (by omega)).trans hk)⟩
        have := run_endLoop (P := P) hl (by rw [hrec]; simp)
        rw [this, hrec]
      · refine ⟨some c, _, ?_, hstop d c pre _ (by omega) hSp (hIx _ _ _ _ hi (StepN.put (.loop { rec .done (some c) with state := .exhausted }) (by omega) hl rfl)) ((World.putObj_heap_other (by omega)).trans hk)⟩
        have := run_endLoop (P := P) hl (by rw [hrec]; simp)
        rw [this, hrec]

end Go.Proofs.YtifcibbhblhfiaaGreatDoor
